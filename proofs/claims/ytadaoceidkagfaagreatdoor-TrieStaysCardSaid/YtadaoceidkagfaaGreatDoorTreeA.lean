
import Derived.Test.YtadaoceidkagfaaGreatDoorProg
import Derived.WalkKit
import Derived.WalkSpells
import Derived.WalkLawsBesides
import Derived.Lib.Hide
import Derived.Test.YtadaoceidkagfaaGreatDoorBwAll
import Derived.Deep.RegionHeld3
import Derived.StillTailTactics
namespace Go.Proofs.YtadaoceidkagfaaGreatDoor
open Go.RowKit Go.Bw
theorem infoB : (Tryz.prog.info? 5).map (fun i => (i.zero, i.size, i.bytes)) = some (some (.int .u8 0), 1, 1) := by kernel_rfl
set_option maxRecDepth 100000 in
set_option maxHeartbeats 400000 in
theorem cloneO {ok : Nat -> Prop} {v : Value} {l : Bw.Bytes} (w : World) (hv : BytesAt ok w v l) (hl : l.length <= 1048576) :
    Calls Tryz.prog 84 #[v] w (Gives w fun v' w' => OwnAt 5 1 byteK (fun k => w.heap.size <= k) w' w.heap.size v' l) := by
  obtain ⟨A, c, rfl, hc1, hc2, hc3, hc4, hc5⟩ := hv
  cases A with
  | none =>
    obtain rfl : c = 0 := hc3 rfl
    obtain rfl : l = [] := List.eq_nil_of_length_eq_zero (by omega)
    clear hc1 hc2 hc3 hc4 hc5 hl
    have he := fun (w : World) => Lib.run_eql_slice_nil (P := Tryz.prog) w 33 5 none 0 0 0 0 Tryz.underlying33
    go_enter Tryz.func84, Tryz.ntmps84
    go_wp2
    go_ret
    exact ⟨_, rfl, OwnAt.nil, Below.refl _ _⟩
  | some ad =>
    obtain ⟨b, o, sp⟩ := ad
    have he := fun (w : World) => Lib.run_eql_slice_nil (P := Tryz.prog) w 33 5 (some ⟨b, o, sp⟩) l.length c 0 0 Tryz.underlying33
    have HV : Hid (BytesAt ok w (.slice (some ⟨b, o, sp⟩) l.length c) l) := Lib.hid ⟨_, c, rfl, hc1, hc2, hc3, hc4, hc5⟩
    have HL := Lib.hid hl; clear hl
    clear hc1 hc2 hc3 hc4 hc5
    obtain ⟨i0, hi, hz0, hz1, hz2⟩ := info_parts infoB
    have HI := Lib.hid hi; have HZ0 := Lib.hid hz0; have HZ1 := Lib.hid hz1; have HZ2 := Lib.hid hz2
    clear hi hz0 hz1 hz2
    have HN := Lib.hid (RowAt.news (HV.out.move goodByte (Moves.below ((Below.refl w.heap.size w).alloc (Nat.le_refl _) (.cells #[] 5)))))
    go_enter Tryz.func84, Tryz.ntmps84
    go_wp2_with (at_builtin; refine wp_app goodByte rfl (.tmp 5) (.tmp 6) 33 rfl w.heap.size 5 i0 (.int .u8 0) 1 Tryz.underlying33 HI.out HZ0.out HZ1.out HZ2.out rfl (by decide) _ [] rfl (OwnAt.made (ok := fun k => w.heap.size <= k) (Nat.le_refl _) (Nat.le_refl _)) ⟨b, o, sp⟩ l.length c l (l.map encB) rfl rfl HN.out (Reps.imm _ _ _ _) (fun k hk => by simp at hk; omega) (by have := HL.out; simp; omega) (by decide) (by simp) ?_; intro v' w' hown' hg hat)
    go_ret
    exact ⟨_, rfl, hown', ((Below.refl w.heap.size w).alloc (Nat.le_refl _) (.cells #[] 5)).grown hg (by simp) (fun k hk => by cases hk; exact Nat.le_refl _)⟩
theorem cloneB {ok : Nat -> Prop} {v : Value} {l : Bw.Bytes} (w : World) (hv : BytesAt ok w v l) (hl : l.length <= 1048576) :
    Calls Tryz.prog 84 #[v] w (Gives w fun v' w' => BytesAt (fun k => w.heap.size <= k) w' v' l) :=
  (cloneO w hv hl).mono fun _ _ ⟨r, he, hr, hb⟩ => ⟨r, he, hr.row goodByte, hb⟩
theorem cloneO_at {ok : Nat -> Prop} {v : Value} {l : Bw.Bytes} {w : World} (base : Nat) (hv : BytesAt ok w v l) (hl : l.length <= 1048576) :
    ∀ W, Below w.heap.size w W -> base <= W.heap.size -> Calls Tryz.prog 84 #[v] W (Gives W fun v' w' => OwnAt 5 1 byteK (fun k => base <= k) w' W.heap.size v' l) :=
  fun W hW hb => (cloneO W (hv.move goodByte (Moves.below hW)) hl).mono (fun _ _ ⟨r, he, hr, hb'⟩ => ⟨r, he, hr.move goodByte (Moves.weaken fun _ hk _ => Nat.le_trans hb hk), hb'⟩)
theorem cloneB_at {ok : Nat -> Prop} {v : Value} {l : Bw.Bytes} {w : World} (base : Nat) (hv : BytesAt ok w v l) (hl : l.length <= 1048576) :
    ∀ W, Below w.heap.size w W -> base <= W.heap.size -> Calls Tryz.prog 84 #[v] W (Gives W fun v' w' => BytesAt (fun k => base <= k) w' v' l) :=
  fun W hW hb => (cloneB W (hv.move goodByte (Moves.below hW)) hl).mono (fun _ _ ⟨r, he, hr, hb'⟩ => ⟨r, he, hr.move goodByte (Moves.weaken fun _ hk _ => Nat.le_trans hb hk), hb'⟩)
def ownK : Knd Bw.Bytes := fun ok w xs cs => ∃ v base, cs = [v] /\ OwnAt 5 1 byteK ok w base v xs
theorem goodOwnK : _root_.Go.Bw.Good 1 ownK where
  len := by rintro ok w x cs ⟨v, _, rfl, _⟩; rfl
  one := by
    rintro ok w x cs ⟨v, _, rfl, h⟩ u hu
    obtain ⟨A, c, rfl⟩ := (h.row goodByte).form
    simp only [List.mem_singleton] at hu
    subst hu; rfl
  move := by
    rintro ok ok' w w' x cs hm ⟨v, b, rfl, h⟩
    exact ⟨v, b, rfl, h.move goodByte hm⟩
abbrev pairO : Knd Bw.PV := prK ownK ownK
theorem goodPairO : _root_.Go.Bw.Good 2 pairO := goodOwnK.pr goodOwnK
theorem pairO_mk {ok : Nat -> Prop} {w : World} {p : Bw.PV} {u v : Value} {b b' : Nat} (hu : OwnAt 5 1 byteK ok w b u p.1) (hv : OwnAt 5 1 byteK ok w b' v p.2) : pairO ok w p [u, v] := ⟨[u], [v], rfl, ⟨u, b, rfl, hu⟩, ⟨v, b', rfl, hv⟩⟩
theorem pairO_open {ok : Nat -> Prop} {w : World} {p : Bw.PV} {cs : List Value} (h : pairO ok w p cs) : ∃ u v b b', cs = [u, v] /\ OwnAt 5 1 byteK ok w b u p.1 /\ OwnAt 5 1 byteK ok w b' v p.2 := by
  obtain ⟨_, _, rfl, ⟨u, b, rfl, hu⟩, ⟨v, b', rfl, hv⟩⟩ := h
  exact ⟨u, v, b, b', rfl, hu, hv⟩
theorem pairO_plain {ok : Nat -> Prop} {w : World} {p : Bw.PV} {cs : List Value} (h : pairO ok w p cs) : pairK ok w p cs := by
  obtain ⟨u, v, b, b', rfl, hu, hv⟩ := pairO_open h
  exact pairK_mk (hu.row goodByte) (hv.row goodByte)
theorem _root_.Go.Bw.OwnAt.kind {α : Type} {e sz : Nat} {d d' : Knd α} (hd : ∀ ok w x cs, d ok w x cs -> d' ok w x cs) {ok : Nat -> Prop} {w : World} {base : Nat} {v : Value} {xs : List α} (h : OwnAt e sz d ok w base v xs) : OwnAt e sz d' ok w base v xs := by
  obtain ⟨h1, inner, ho, hr⟩ := h
  exact ⟨h1, inner, ho, hr.imp fun x c => hd _ _ x c⟩
open Go.RowKit Go.Bw
set_option maxRecDepth 100000 in
set_option maxHeartbeats 400000 in
theorem size_nil (w : World) : Calls Tryz.prog 56 #[.pointer none] w fun e w' => e = .returned (.int .i64 0) /\ w = w' := by
  go_enter Tryz.func56, Tryz.ntmps56
  go_wp2
  go_ret
  exact ⟨rfl, rfl⟩
set_option maxRecDepth 100000 in
set_option maxHeartbeats 400000 in
theorem size_node (w : World) (b : Nat) (n : Int) (hc : w.cell? ⟨b, 4, none⟩ = some (.int .i64 n)) : Calls Tryz.prog 56 #[.pointer (some ⟨b, 0, none⟩)] w fun e w' => e = .returned (.int .i64 n) /\ w = w' := by
  go_enter Tryz.func56, Tryz.ntmps56
  go_wp2
  go_ret
  exact ⟨rfl, rfl⟩
set_option maxRecDepth 100000 in
set_option maxHeartbeats 1000000 in
theorem own_any {ok : Nat -> Prop} (u v : Value) (p : Bw.PV) (w : World) (hu : BytesAt ok w u p.1) (hv : BytesAt ok w v p.2) (h1 : p.1.length <= 1048576) (h2 : p.2.length <= 1048576) :
    Calls Tryz.prog 59 #[.agg #[u, v]] w (Gives w fun r w' => ∃ u' v', r = .agg #[u', v'] /\ BytesAt (fun k => w.heap.size <= k) w' u' p.1 /\ BytesAt (fun k => w.heap.size <= k) w' v' p.2) := by
  have CU := Lib.hid (cloneB_at (w.heap.size + 2) hu h1)
  have CV := Lib.hid (cloneB_at (w.heap.size + 2) hv h2)
  clear hu hv h1 h2
  go_enter Tryz.func59, Tryz.ntmps59
  go_wp2_with fail
  go_region_held3 (fun w' => w'.cell? ⟨w.heap.size, 0, none⟩ = some u /\ w'.cell? ⟨w.heap.size, 1, none⟩ = some v)
    (first
      | go_keep
      | (refine ⟨(hb1.cell (p := ⟨w.heap.size, 0, none⟩) (by simp; omega)).trans ?_, (hb1.cell (p := ⟨w.heap.size, 1, none⟩) (by simp; omega)).trans ?_⟩ <;> go_simp)
      | (have hS : w1.cell? ⟨w.heap.size, 0, none⟩ = some u /\ w1.cell? ⟨w.heap.size, 1, none⟩ = some v := (by assumption); exact ⟨(hb2.cell (p := ⟨w.heap.size, 0, none⟩) (by have := hb1.size; simp at this; simp; omega)).trans hS.1, (hb2.cell (p := ⟨w.heap.size, 1, none⟩) (by have := hb1.size; simp at this; simp; omega)).trans hS.2⟩)
      | (trace_state; fail))
    ((go_at_call 84; first | ((with_reducible refine (CU.out _ (by exact gB1) (by simp)).mono ?_); rintro e w1 ⟨r1, rfl, hr1, hb1⟩; obtain ⟨A1, c1, rfl⟩ := hr1.form) | ((with_reducible refine (CV.out _ (Below.trans (b := ((w.alloc (.cells #[u, v] 62)).alloc (.cells #[.slice none 0 0, .slice none 0 0] 62)).drew) (by exact gB1) (Below.mono hb1 (by simp; omega))) (by have := hb1.size; simp at this; omega)).mono ?_); rintro e w2 ⟨r2, rfl, hr2, hb2⟩; obtain ⟨A2, c2, rfl⟩ := hr2.form; have hW := hb1.trans (hb2.mono hb1.size); have k0 : w2.cell? ⟨w.heap.size + 1, 0, none⟩ = some (.slice none 0 0) := (hW.cell (p := ⟨w.heap.size + 1, 0, none⟩) (by simp)).trans (by go_simp); have k1 : w2.cell? ⟨w.heap.size + 1, 1, none⟩ = some (.slice none 0 0) := (hW.cell (p := ⟨w.heap.size + 1, 1, none⟩) (by simp)).trans (by go_simp); have f0 : w2.frozen? ⟨w.heap.size + 1, 0, none⟩ = false := (hW.frozen (p := ⟨w.heap.size + 1, 0, none⟩) (by simp)).trans (by go_simp); have f1 : w2.frozen? ⟨w.heap.size + 1, 1, none⟩ = false := (hW.frozen (p := ⟨w.heap.size + 1, 1, none⟩) (by simp)).trans (by go_simp))))
  go_wp2
  refine bodyPost_ret (v := .agg #[.slice A1 p.1.length c1, .slice A2 p.2.length c2]) (by simp [results, Tryz.results59, go_sem, k0, k1]) rfl ⟨_, rfl, ⟨_, _, rfl, ?_, ?_⟩, ?_⟩
  · refine hr1.move goodByte ((Moves.below hb2).trans hb2.size ((Moves.set (p := ⟨w.heap.size + 1, 0, none⟩) _ ?_).trans (by simp) ((Moves.set (p := ⟨w.heap.size + 1, 1, none⟩) _ ?_).trans (by simp) (Moves.weaken ?_)))) <;> (intro k hk; simp; omega)
  · refine hr2.move goodByte ((Moves.set (p := ⟨w.heap.size + 1, 0, none⟩) _ ?_).trans (by simp) ((Moves.set (p := ⟨w.heap.size + 1, 1, none⟩) _ ?_).trans (by simp) (Moves.weaken ?_))) <;> (intro k hk; simp; omega)
  · exact (((Below.trans (b := ((w.alloc (.cells #[u, v] 62)).alloc (.cells #[.slice none 0 0, .slice none 0 0] 62)).drew) (by exact gB1) (hW.mono (by simp; omega))).setCell (by simp) _).setCell (by simp) _)
open Go.RowKit Go.Bw
theorem size_any {ok : Nat -> Prop} {w : World} {v : Value} {t : Bw.T} (h : TreeAt ok w v t) : Calls Tryz.prog 56 #[v] w fun e w' => e = .returned (.int .i64 (t.size : Nat)) /\ w = w' := by
  cases t with
  | nil => cases h; exact size_nil w
  | node l p r =>
    obtain ⟨b, u1, u2, lv, rv, rfl, h0, h1, h2, h3, h4, _⟩ := h
    exact size_node w b _ h4.2
set_option maxRecDepth 100000 in
set_option maxHeartbeats 400000 in
theorem node_any {ok : Nat -> Prop} {l r : Bw.T} {p : Bw.PV} {lv rv u v : Value} {w : World} (hl : TreeAt ok w lv l) (hr : TreeAt ok w rv r) (hu : BytesAt ok w u p.1) (hv : BytesAt ok w v p.2) (hok : ∀ k, w.heap.size <= k -> ok k) (hn : l.size + r.size <= 1048576) :
    Calls Tryz.prog 129 #[lv, .agg #[u, v], rv] w (Gives w fun q w' => TreeAt ok w' q (.node l p r)) := by
  obtain ⟨A, rfl⟩ := hl.form
  obtain ⟨B, rfl⟩ := hr.form
  have CL := Lib.hid (fun (W : World) (hW : Below w.heap.size w W) => size_any (hl.move (Moves.below hW)))
  have CR := Lib.hid (fun (W : World) (hW : Below w.heap.size w W) => size_any (hr.move (Moves.below hW)))
  have hs1 : IntKind.i64.wrap ((l.size : Int) + 1) = (l.size : Int) + 1 := IntWalk.i64_in _ (by omega)
  have hs2 : IntKind.i64.wrap ((l.size : Int) + 1 + (r.size : Int)) = (l.size : Int) + 1 + (r.size : Int) := IntWalk.i64_in _ (by omega)
  have hw1 : wrap64 ((l.size : Int) + 1) = (l.size : Int) + 1 := by unfold wrap64; omega
  have hw2 : wrap64 ((l.size : Int) + 1 + (r.size : Int)) = (l.size : Int) + 1 + (r.size : Int) := by unfold wrap64; omega
  have HN := Lib.hid hn
  have HOK := Lib.hid hok
  clear hn hok
  go_enter Tryz.func129, Tryz.ntmps129
  go_wp2_with fail
  go_region_held3 (fun w' => w'.cell? ⟨w.heap.size, 0, none⟩ = some u /\ w'.cell? ⟨w.heap.size, 1, none⟩ = some v)
    (go_keep)
    ((go_at_call 56; first | ((with_reducible refine (CL.out _ (by exact gB1)).mono ?_); rintro e w1 ⟨rfl, rfl⟩) | ((with_reducible refine (CR.out _ (by exact gB1)).mono ?_); rintro e w1 ⟨rfl, rfl⟩)))
  go_wp2
  go_ret
  have hB : Below w.heap.size w ((w.alloc (.cells #[u, v] 62)).alloc (.cells #[u, v, .pointer A, .pointer B, .int .i64 ((l.size : Int) + 1 + (r.size : Int))] 129)).drew := by exact gB1
  have hM : Moves ok ok w _ := Moves.below hB
  refine ⟨_, rfl, ⟨w.heap.size + 1, u, v, .pointer A, .pointer B, rfl, ?_, ?_, ?_, ?_, ?_, hu.move goodByte hM, hv.move goodByte hM, hl.move hM, hr.move hM⟩, hB⟩
  all_goals refine ⟨HOK.out _ (by omega), ?_⟩
  all_goals go_simp
  simp [Bw.T.size]
open Go.RowKit Go.Bw
set_option maxRecDepth 100000 in
set_option maxHeartbeats 400000 in
theorem root_node {ok : Nat -> Prop} {l r : Bw.T} {p : Bw.PV} {v : Value} {w : World} (h : TreeAt ok w v (.node l p r)) (h1 : p.1.length <= 1048576) (h2 : p.2.length <= 1048576) :
    Calls Tryz.prog 124 #[v] w (Gives w fun r w' => ∃ u' v', r = .agg #[u', v'] /\ BytesAt (fun k => w.heap.size < k) w' u' p.1 /\ BytesAt (fun k => w.heap.size < k) w' v' p.2) := by
  obtain ⟨b, u1, u2, lv, rv, rfl, ⟨_, h0⟩, ⟨_, h3⟩, _, _, _, hu, hv, _⟩ := h
  have hlt := World.block_lt_of_cell? w _ h0
  dsimp only at hlt
  have hB : Below w.heap.size w (w.alloc (.cells #[.slice none 0 0, .slice none 0 0] 62)) := by exact gB1
  have CO := Lib.hid (own_any u1 u2 p _ (hu.move goodByte (Moves.below hB)) (hv.move goodByte (Moves.below hB)) h1 h2)
  have HB := Lib.hid hB
  clear h1 h2 hu hv hB
  go_enter Tryz.func124, Tryz.ntmps124
  go_wp2_with fail
  refine CO.out.mono ?_
  rintro e w1 ⟨q, rfl, ⟨u', v', rfl, hu', hv'⟩, hb1⟩
  obtain ⟨A1, c1, rfl⟩ := hu'.form
  obtain ⟨A2, c2, rfl⟩ := hv'.form
  have k0 : w1.cell? ⟨w.heap.size, 0, none⟩ = some (.slice none 0 0) := (hb1.cell (p := ⟨w.heap.size, 0, none⟩) (by simp)).trans (by go_simp)
  have k1 : w1.cell? ⟨w.heap.size, 1, none⟩ = some (.slice none 0 0) := (hb1.cell (p := ⟨w.heap.size, 1, none⟩) (by simp)).trans (by go_simp)
  have f0 : w1.frozen? ⟨w.heap.size, 0, none⟩ = false := (hb1.frozen (p := ⟨w.heap.size, 0, none⟩) (by simp)).trans (by go_simp)
  have f1 : w1.frozen? ⟨w.heap.size, 1, none⟩ = false := (hb1.frozen (p := ⟨w.heap.size, 1, none⟩) (by simp)).trans (by go_simp)
  go_wp2
  refine bodyPost_ret (v := .agg #[.slice A1 p.1.length c1, .slice A2 p.2.length c2]) (by simp [results, Tryz.results124, go_sem, k0, k1]) rfl ⟨_, rfl, ⟨_, _, rfl, ?_, ?_⟩, ?_⟩
  · refine hu'.move goodByte ((Moves.set (p := ⟨w.heap.size, 0, none⟩) _ ?_).trans (by simp) ((Moves.set (p := ⟨w.heap.size, 1, none⟩) _ ?_).trans (by simp) (Moves.weaken ?_))) <;> (intro k hk; simp at hk; simp; omega)
  · refine hv'.move goodByte ((Moves.set (p := ⟨w.heap.size, 0, none⟩) _ ?_).trans (by simp) ((Moves.set (p := ⟨w.heap.size, 1, none⟩) _ ?_).trans (by simp) (Moves.weaken ?_))) <;> (intro k hk; simp at hk; simp; omega)
  · exact ((HB.out.trans (hb1.mono (by simp))).setCell (by simp) _).setCell (by simp) _
open Go.RowKit Go.Bw
theorem from_eq (l : List Bw.PV) (hl : l ≠ []) : Bw.T.from l = .node (Bw.T.from (l.take (l.length / 2))) (l[l.length / 2]'(by have := List.length_pos_iff.2 hl; omega)) (Bw.T.from (l.drop (l.length / 2 + 1))) := by
  match l, hl with
  | p :: q, _ => rw [Bw.T.from]
set_option maxRecDepth 100000 in
set_option maxHeartbeats 2000000 in
theorem from_any : ∀ (n : Nat) (l : List Bw.PV) (v : Value) (ok : Nat -> Prop) (w : World), l.length <= n -> n <= 1048576 -> (∀ p ∈ l, p.1.length <= 1048576 /\ p.2.length <= 1048576) -> PairsAt ok w v l ->
    Calls Tryz.prog 101 #[v] w (Gives w fun q w' => TreeAt (fun k => w.heap.size <= k) w' q (Bw.T.from l)) := by
  intro n
  induction n with
  | zero =>
    intro l v ok w h0 _ _ hr
    obtain rfl : l = [] := List.eq_nil_of_length_eq_zero (by omega)
    obtain ⟨A, c, rfl⟩ := hr.form
    clear hr h0
    go_enter Tryz.func101, Tryz.ntmps101
    go_wp2
    go_ret
    exact ⟨_, rfl, by rw [Bw.T.from]; rfl, Below.refl _ _⟩
  | succ n ih =>
    intro l v ok w h0 hn hp hr
    obtain ⟨A, c, rfl⟩ := hr.form
    by_cases hl : l = []
    · subst hl
      clear hr h0 ih hp hn
      go_enter Tryz.func101, Tryz.ntmps101
      go_wp2
      go_ret
      exact ⟨_, rfl, by rw [Bw.T.from]; rfl, Below.refl _ _⟩
    · have hpos : 0 < l.length := List.length_pos_iff.2 hl
      obtain ⟨k, hk⟩ : ∃ k, k = l.length / 2 := ⟨_, rfl⟩
      have hkl : k < l.length := by omega
      have hlk : l[k]? = some l[k] := List.getElem?_eq_getElem hkl
      obtain ⟨b, o, u1, u2, rfl, hob, c0, c1, hu, hv⟩ := pair_get hr hlk
      obtain ⟨_, hc1, hc2⟩ := hr.cap
      unfold maxLen at hc2
      have hbl := World.block_lt_of_cell? w _ c0
      dsimp only at hbl
      have hT := hr.take (k := k) (by omega)
      have hD := hr.drop (k := k + 1) (by omega)
      have hmem := hp l[k] (List.getElem_mem hkl)
      have P1 : ∀ p ∈ l.take k, p.1.length <= 1048576 /\ p.2.length <= 1048576 := fun p h => hp p (List.mem_of_mem_take h)
      have P2 : ∀ p ∈ l.drop (k + 1), p.1.length <= 1048576 /\ p.2.length <= 1048576 := fun p h => hp p (List.mem_of_mem_drop h)
      have C1 := Lib.hid (fun (W : World) (hW : Below w.heap.size w W) => ih (l.take k) _ ok W (by rw [List.length_take]; omega) (by omega) P1 (hT.move goodPair (Moves.below hW)))
      have C2 := Lib.hid (fun (W : World) (hW : Below w.heap.size w W) => own_any u1 u2 l[k] W (hu.move goodByte (Moves.below hW)) (hv.move goodByte (Moves.below hW)) hmem.1 hmem.2)
      have hF : Bw.T.from l = .node (Bw.T.from (l.take k)) l[k] (Bw.T.from (l.drop (k + 1))) := by
        subst hk
        exact from_eq l hl
      have HF := Lib.hid hF
      have HK := Lib.hid hk
      have hkI : (l.length : Int) / 2 = (k : Int) := by omega
      have hk0 : (0 : Int) <= (k : Int) := by omega
      have hk1 : (k : Int) < (l.length : Int) := by omega
      have hz : ((l.length : Int) == 0) = false := beq_eq_false_iff_ne.2 (by omega)
      have hs : IntKind.i64.wrap ((k : Int) + 1) = (k : Int) + 1 := IntWalk.i64_in _ (by omega)
      have hk2 : (k : Int) <= (c : Int) := by omega
      have hk3 : (k : Int) + 1 <= (l.length : Int) := by omega
      have hk4 : (l.length : Int) <= (c : Int) := by omega
      have hk5 : (0 : Int) <= (k : Int) + 1 := by omega
      have hk6 : ((k : Int) + 1).toNat = k + 1 := by omega
      have hk7 : (k : Int) + 1 <= (c : Int) := by omega
      have kn2 : k <= c := by omega
      have kn3 : k + 1 <= l.length := by omega
      have kn7 : k + 1 <= c := by omega
      have HR := Lib.hid hr
      have HS := Lib.hid (show (Bw.T.from (l.take k)).size + (Bw.T.from (l.drop (k + 1))).size <= 1048576 by rw [Bw.T.size_from, Bw.T.size_from, List.length_take, List.length_drop]; omega)
      by_cases hc : c = k + 1
      · have hlen : l.length = k + 1 := by omega
        have e0 : l.length - (k + 1) = 0 := by omega
        have hdr : l.drop (k + 1) = [] := List.drop_eq_nil_of_le (by omega)
        have C3 := Lib.hid (fun (W : World) (hW : Below w.heap.size w W) => ih (l.drop (k + 1)) (.slice (some ⟨b, o, none⟩) (l.length - (k + 1)) 0) ok W (by rw [List.length_drop]; omega) (by omega) P2 (by rw [hdr, e0]; exact RowAt.empty (Nat.zero_le _)))
        have hcc : (k + 1 = c) = True := by simp [hc]
        have hc0 : c - (k + 1) = 0 := by omega
        have hc9 : (c = k + 1) = True := by simp [hc]
        clear hc
        clear hr hT hD hu hv hmem P1 P2 hF hk ih hp hlk hc2 hpos hdr hlen e0
        go_enter Tryz.func101, Tryz.ntmps101
        go_wp2_with fail
        go_region_held3 (fun w' => w'.cell? ⟨b, o + k * 2, none⟩ = some u1 /\ w'.cell? ⟨b, o + k * 2 + 1, none⟩ = some u2)
          (first
            | with_reducible exact ⟨(hB4.cell (p := ⟨b, o + k * 2, none⟩) hbl).trans c0, (hB4.cell (p := ⟨b, o + k * 2 + 1, none⟩) hbl).trans c1⟩
            | with_reducible exact ⟨(hB3.cell (p := ⟨b, o + k * 2, none⟩) hbl).trans c0, (hB3.cell (p := ⟨b, o + k * 2 + 1, none⟩) hbl).trans c1⟩
            | with_reducible exact ⟨(hB2.cell (p := ⟨b, o + k * 2, none⟩) hbl).trans c0, (hB2.cell (p := ⟨b, o + k * 2 + 1, none⟩) hbl).trans c1⟩
            | with_reducible exact ⟨(hB1.cell (p := ⟨b, o + k * 2, none⟩) hbl).trans c0, (hB1.cell (p := ⟨b, o + k * 2 + 1, none⟩) hbl).trans c1⟩
            | with_reducible exact ⟨c0, c1⟩
            | go_keep)
          ((first
            | (go_at_call 101; first | ((with_reducible refine (C1.out _ (by exact gB1)).mono ?_); rintro e w1 ⟨q1, rfl, hq1, hb1⟩; obtain ⟨A1, rfl⟩ := hq1.form; have hq1 : TreeAt (fun k => w.heap.size <= k) w1 (.pointer A1) (Bw.T.from (l.take k)) := hq1; have hB1 : Below w.heap.size w w1 := Below.trans (b := w.drew) (by exact gB1) (hb1.mono (by simp))) | ((with_reducible refine (C3.out _ (hB2)).mono ?_); rintro e w3 ⟨q3, rfl, hq3, hb3⟩; obtain ⟨A3, rfl⟩ := hq3.form; have hB3 : Below w.heap.size w w3 := hB2.trans (hb3.mono hB2.size)))
            | (go_at_call 59; (with_reducible refine (C2.out _ (hB1)).mono ?_); rintro e w2 ⟨q2, rfl, ⟨x2, y2, rfl, hx2, hy2⟩, hb2⟩; obtain ⟨X2, cx2, rfl⟩ := hx2.form; obtain ⟨Y2, cy2, rfl⟩ := hy2.form; have hB2 : Below w.heap.size w w2 := hB1.trans (hb2.mono hB1.size))
            | (go_at_call 129; (with_reducible refine (node_any (ok := fun k => w.heap.size <= k) (hq1.move (Moves.fresh (m := w.heap.size) (Nat.le_refl _) (hb2.trans (hb3.mono hb2.size)))) (hq3.move (Moves.fresh hB2.size (Below.refl _ _))) (hx2.move goodByte (Moves.fresh hB1.size hb3)) (hy2.move goodByte (Moves.fresh hB1.size hb3)) (fun k hk => Nat.le_trans hB3.size hk) (HS.out)).mono ?_); rintro e w4 ⟨q4, rfl, hq4, hb4⟩; obtain ⟨A4, rfl⟩ := hq4.form; have hB4 : Below w.heap.size w w4 := hB3.trans (hb4.mono hB3.size))))
        go_wp2
        go_ret
        exact ⟨_, rfl, by rw [HF.out]; exact hq4, hB4⟩
      · have C3 := Lib.hid (fun (W : World) (hW : Below w.heap.size w W) => ih (l.drop (k + 1)) _ ok W (by rw [List.length_drop]; omega) (by omega) P2 (hD.move goodPair (Moves.below hW)))
        clear hr hT hD hu hv hmem P1 P2 hF hk ih hp hlk hc2 hpos
        go_enter Tryz.func101, Tryz.ntmps101
        go_wp2_with fail
        go_region_held3 (fun w' => w'.cell? ⟨b, o + k * 2, none⟩ = some u1 /\ w'.cell? ⟨b, o + k * 2 + 1, none⟩ = some u2)
          (first
            | with_reducible exact ⟨(hB4.cell (p := ⟨b, o + k * 2, none⟩) hbl).trans c0, (hB4.cell (p := ⟨b, o + k * 2 + 1, none⟩) hbl).trans c1⟩
            | with_reducible exact ⟨(hB3.cell (p := ⟨b, o + k * 2, none⟩) hbl).trans c0, (hB3.cell (p := ⟨b, o + k * 2 + 1, none⟩) hbl).trans c1⟩
            | with_reducible exact ⟨(hB2.cell (p := ⟨b, o + k * 2, none⟩) hbl).trans c0, (hB2.cell (p := ⟨b, o + k * 2 + 1, none⟩) hbl).trans c1⟩
            | with_reducible exact ⟨(hB1.cell (p := ⟨b, o + k * 2, none⟩) hbl).trans c0, (hB1.cell (p := ⟨b, o + k * 2 + 1, none⟩) hbl).trans c1⟩
            | with_reducible exact ⟨c0, c1⟩
            | go_keep)
          ((first
            | (go_at_call 101; first | ((with_reducible refine (C1.out _ (by exact gB1)).mono ?_); rintro e w1 ⟨q1, rfl, hq1, hb1⟩; obtain ⟨A1, rfl⟩ := hq1.form; have hq1 : TreeAt (fun k => w.heap.size <= k) w1 (.pointer A1) (Bw.T.from (l.take k)) := hq1; have hB1 : Below w.heap.size w w1 := Below.trans (b := w.drew) (by exact gB1) (hb1.mono (by simp))) | ((with_reducible refine (C3.out _ (hB2)).mono ?_); rintro e w3 ⟨q3, rfl, hq3, hb3⟩; obtain ⟨A3, rfl⟩ := hq3.form; have hB3 : Below w.heap.size w w3 := hB2.trans (hb3.mono hB2.size)))
            | (go_at_call 59; (with_reducible refine (C2.out _ (hB1)).mono ?_); rintro e w2 ⟨q2, rfl, ⟨x2, y2, rfl, hx2, hy2⟩, hb2⟩; obtain ⟨X2, cx2, rfl⟩ := hx2.form; obtain ⟨Y2, cy2, rfl⟩ := hy2.form; have hB2 : Below w.heap.size w w2 := hB1.trans (hb2.mono hB1.size))
            | (go_at_call 129; (with_reducible refine (node_any (ok := fun k => w.heap.size <= k) (hq1.move (Moves.fresh (m := w.heap.size) (Nat.le_refl _) (hb2.trans (hb3.mono hb2.size)))) (hq3.move (Moves.fresh hB2.size (Below.refl _ _))) (hx2.move goodByte (Moves.fresh hB1.size hb3)) (hy2.move goodByte (Moves.fresh hB1.size hb3)) (fun k hk => Nat.le_trans hB3.size hk) (HS.out)).mono ?_); rintro e w4 ⟨q4, rfl, hq4, hb4⟩; obtain ⟨A4, rfl⟩ := hq4.form; have hB4 : Below w.heap.size w w4 := hB3.trans (hb4.mono hB3.size))))
        go_wp2
        go_ret
        exact ⟨_, rfl, by rw [HF.out]; exact hq4, hB4⟩
end Go.Proofs.YtadaoceidkagfaaGreatDoor
