
import Derived.Test.YtadaoceidkagfaaGreatDoorReadG
import Derived.OpenShut
import Derived.Test.YtadaoceidkagfaaGreatDoorRefA
import Derived.Test.YtadaoceidkagfaaGreatDoorLawA
import Derived.Test.YtadaoceidkagfaaGreatDoorBwT
/- What a card's reading says of a seed, and of calls. -/
namespace Go.Proofs.YtadaoceidkagfaaGreatDoor
open Go.RowKit Go.Bw Go.ChangeShapes Go.WideShapes Go.Deep
abbrev _root_.Bw.Op := Int × Bw.PV
abbrev opK : Knd Bw.Op := prK intK pairK
theorem goodOp : _root_.Go.Bw.Good 3 opK := goodInt.pr goodPair
abbrev OpsAt := RowAt 3 opK
theorem opK_open {ok : Nat -> Prop} {w : World} {e : Bw.Op} {cs : List Value} (h : opK ok w e cs) : ∃ u v, cs = [.int .i64 e.1, u, v] /\ BytesAt ok w u e.2.1 /\ BytesAt ok w v e.2.2 := by
  obtain ⟨a, b, rfl, rfl, h2⟩ := h
  obtain ⟨u, v, rfl, hu, hv⟩ := pairK_open h2
  exact ⟨u, v, rfl, hu, hv⟩
theorem op_get {ok : Nat -> Prop} {w : World} {A : Option Addr} {n c j : Nat} {xs : List Bw.Op} {e : Bw.Op} (h : OpsAt ok w (.slice A n c) xs) (hj : xs[j]? = some e) :
    ∃ b o u v, A = some ⟨b, o, none⟩ /\ ok b /\ w.cell? ⟨b, o + j * 3, none⟩ = some (.int .i64 e.1) /\ w.cell? ⟨b, o + j * 3 + 1, none⟩ = some u /\ w.cell? ⟨b, o + j * 3 + 2, none⟩ = some v /\ BytesAt ok w u e.2.1 /\ BytesAt ok w v e.2.2 := by
  obtain ⟨b, o, cs, rfl, hx, hc⟩ := h.get hj
  obtain ⟨u, v, rfl, hu, hv⟩ := opK_open hx
  exact ⟨b, o, u, v, rfl, (hc 0 _ rfl).1, (hc 0 _ rfl).2, (hc 1 _ rfl).2, (hc 2 _ rfl).2, hu, hv⟩
def seedV (s : List UInt8) : Value := .agg (s.map encB).toArray
section
variable {H : Type} {enc : TypeId × Value -> H} {w : World} {base : Nat} {spare : Nat -> Bool} {held : Bool}
theorem cO : Tryz.prog.cellsOf 35 = 3 := by kernel_rfl
theorem cSeed : Tryz.prog.cellsOf 23 = 16 := by kernel_rfl
theorem cI : Tryz.prog.cellsOf 3 = 1 := by kernel_rfl
set_option maxRecDepth 100000 in
theorem rd_op : Rd enc Tryz.prog w base spare held 35 opK := by
  intro n cs x h
  obtain ⟨xs, n', _, _, hlen, hxl, hf⟩ := DataW.trod_struct Tryz.underlying35 h
  rw [cO] at hlen
  match cs, hlen with
  | [c0, c1, c2], _ =>
    have f0 : DataW.trod enc Tryz.prog w base spare held n' 3 (([c0, c1, c2].drop 0).take (Tryz.prog.cellsOf 3)) = xs[0]? := hf 0 _ rfl
    have f1 : DataW.trod enc Tryz.prog w base spare held n' 33 (([c0, c1, c2].drop 1).take (Tryz.prog.cellsOf 33)) = xs[1]? := hf 1 _ rfl
    have f2 : DataW.trod enc Tryz.prog w base spare held n' 33 (([c0, c1, c2].drop 2).take (Tryz.prog.cellsOf 33)) = xs[2]? := hf 2 _ rfl
    rw [cI] at f0
    rw [cB] at f1 f2
    have hx2 : xs.length = 3 := hxl
    rw [List.getElem?_eq_getElem (by omega)] at f0 f1 f2
    obtain ⟨a, ha⟩ := rd_int Tryz.underlying3 _ _ _ f0
    obtain ⟨b, hb⟩ := rd_bytes _ _ _ f1
    obtain ⟨d, hd⟩ := rd_bytes _ _ _ f2
    exact ⟨(a, (b, d)), [c0], [c1, c2], rfl, ha, [c1], [c2], rfl, hb, hd⟩
set_option maxRecDepth 100000 in
theorem rd_ops : Rd enc Tryz.prog w base spare held 24 (slK 3 opK) := rd_slice Tryz.underlying24 cO (by decide) rd_op
set_option maxRecDepth 100000 in
theorem ops_of {v : Value} {d : DataW H} {ps : List MemPlace} (hv : v.cells.toList = [v]) (h : DataW.Trod enc Tryz.prog w base spare held 24 v d ps) : ∃ l : List Bw.Op, OpsAt AllB w v l := by
  obtain ⟨n, hn⟩ := h
  rw [hv] at hn
  obtain ⟨l, u, hu, hr⟩ := rd_ops _ _ _ hn
  injection hu with hu
  subst hu
  exact ⟨l, hr⟩
set_option maxRecDepth 100000 in
theorem okWide_seed {r : Reach} {v : Value} (h : Value.okWide Tryz.prog w r base 23 v) : ∃ cs, v = .agg cs := by
  simp only [Value.okWide, Tryz.underlying23] at h
  obtain ⟨cs, h1, _⟩ := h
  exact ⟨cs, h1⟩
set_option maxRecDepth 100000 in
theorem seed_of {cs : Array Value} {d : DataW H} {ps : List MemPlace} (h : DataW.Trod enc Tryz.prog w base spare held 23 (.agg cs) d ps) : ∃ s : List UInt8, s.length = 16 /\ .agg cs = seedV s := by
  obtain ⟨n, hn⟩ := h
  obtain ⟨xs, m, _, _, hlen, hxl, hf⟩ := DataW.trod_array Tryz.underlying23 hn
  rw [cSeed] at hlen
  have hl16 : cs.toList.length = 16 := hlen
  obtain ⟨s, hs, hp⟩ := list_of (p := fun i (b : UInt8) => cs.toList[i]? = some (encB b)) 16 (fun i hi => by
    have h1 := hf i hi
    rw [c8, List.getElem?_eq_getElem (by omega)] at h1
    obtain ⟨b, hb⟩ := rd_byte Tryz.underlying5 _ _ _ h1
    refine ⟨b, ?_⟩
    have h2 : ((cs.toList.drop (i * 1)).take 1)[0]? = some (encB b) := by
      have h3 : (((Value.agg cs).cells.toList.drop (i * 1)).take 1) = [encB b] := hb
      rw [show cs.toList = (Value.agg cs).cells.toList from rfl, h3]; rfl
    rw [List.getElem?_take, if_pos (by decide), List.getElem?_drop, Nat.mul_one, Nat.add_zero] at h2
    exact h2)
  refine ⟨s, hs, ?_⟩
  unfold seedV
  congr 1
  apply Array.ext'
  apply List.ext_getElem?
  intro i
  rw [List.getElem?_map]
  cases hsi : s[i]? with
  | none =>
    rw [List.getElem?_eq_none_iff] at hsi
    simp only [Option.map_none]
    rw [List.getElem?_eq_none_iff]
    omega
  | some b => exact hp i b hsi
end
end Go.Proofs.YtadaoceidkagfaaGreatDoor
/- law11.Fine of calls; ref04.Without. -/
namespace Go.Proofs.YtadaoceidkagfaaGreatDoor
open Go.RowKit Go.Bw
def opsB (l : List Bw.Op) (most : Nat) : Bool := decide (l.length <= most) && l.all fun o => pairOk o.2
def FnRel (l : List Bw.Op) (w : World) (i : Value) (wr : World) : Prop :=
  ∃ k : Nat, k <= l.length /\ i = .int .i64 k /\ (l.take k).all (fun o => pairOk o.2) = true /\ Below w.heap.size w wr
set_option maxRecDepth 100000 in
set_option maxHeartbeats 400000 in
theorem fine11_any {ok : Nat -> Prop} {l : List Bw.Op} {v : Value} {w : World} (most : Nat) (hmost : most <= 1048576) (hr : OpsAt ok w v l) :
    Calls Tryz.prog 7 #[v, .int .i64 (most : Nat)] w fun e w' => e = .returned (.bool (opsB l most)) /\ Below w.heap.size w w' := by
  obtain ⟨A, c, rfl⟩ := hr.form
  by_cases hl : l.length <= most
  · have hg : ¬ ((most : Int) < (l.length : Int)) := by omega
    have HL : Hid (l.length <= 1048576) := Lib.hid (by omega)
    have HM := Lib.hid hl
    have HR := Lib.hid hr
    have H0 : Hid (FnRel l w (.int .i64 0) w) := Lib.hid ⟨0, Nat.zero_le _, rfl, rfl, Below.refl _ _⟩
    clear hl hr hmost
    go_enter Tryz.func7, Tryz.ntmps7
    go_wp2_with fail
    go_loopw [13] (FnRel l w) (fun i _ => l.length - (intOf i).toNat)
    case atStart => exact H0.out
    case round =>
      obtain ⟨k, hk, rfl, hall, hB⟩ := hrel
      by_cases hlt : k < l.length
      · obtain ⟨b, o, u1, u2, rfl, hob, c0, c1, c2, hu, hv⟩ := op_get HR.out (List.getElem?_eq_getElem hlt)
        obtain ⟨U1, cu1, rfl⟩ := hu.form
        obtain ⟨U2, cu2, rfl⟩ := hv.form
        have hbl := World.block_lt_of_cell? w _ c0
        dsimp only at hbl
        have d0 := (hB.cell (p := ⟨b, o + k * 3, none⟩) hbl).trans c0
        have d1 := (hB.cell (p := ⟨b, o + k * 3 + 1, none⟩) hbl).trans c1
        have d2 := (hB.cell (p := ⟨b, o + k * 3 + 2, none⟩) hbl).trans c2
        have hbl2 : b < wr.heap.size := Nat.lt_of_lt_of_le hbl hB.size
        have h0 : (0 : Int) <= (k : Int) := by omega
        have h1 : (k : Int) < (l.length : Int) := by omega
        have hs : l.take (k + 1) = l.take k ++ [l[k]] := take_succ_snoc hlt
        have hmem : l[k] ∈ l := List.getElem_mem hlt
        generalize l[k] = q at *
        obtain ⟨kd, qx, qy⟩ := q
        have hB2 : Below w.heap.size w (wr.alloc (.cells #[.int .i64 kd, .slice U1 qx.length cu1, .slice U2 qy.length cu2] 35)) := hB.trans (Below.mono (by exact gB2) hB.size)
        have HB := Lib.hid hB2
        have HALL := Lib.hid hall
        have HS := Lib.hid hs
        clear hu hv c0 c1 c2 hs hall hB hB2
        dsimp only at *
        by_cases hx : qx.length <= 100
        · have hx1 : ¬ (100 : Int) < (qx.length : Int) := by omega
          by_cases hy : qy.length <= 100
          · have hy1 : ¬ (100 : Int) < (qy.length : Int) := by omega
            have hq : pairOk (qx, qy) = true := by simp [pairOk, hx, hy]
            have HA2 : Hid ((l.take (k + 1)).all (fun o => pairOk o.2) = true) := Lib.hid (by rw [HS.out, List.all_append, HALL.out]; simp [hq])
            clear hx hy hq hmem
            go_wp2
            exact ⟨⟨k + 1, hlt, int_succ hlt HL.out, HA2.out, HB.out⟩, less_succ hlt HL.out⟩
          · have hy1 : (100 : Int) < (qy.length : Int) := by omega
            have hf : Hid (opsB l most = false) := Lib.hid (by
              unfold opsB
              rw [Bool.and_eq_false_iff]; right
              rw [List.all_eq_false]
              exact ⟨_, hmem, by simp [pairOk, hy]⟩)
            clear hx hy hmem
            go_wp2
            go_ret
            exact ⟨by rw [hf.out]; rfl, HB.out⟩
        · have hx1 : (100 : Int) < (qx.length : Int) := by omega
          have hf : Hid (opsB l most = false) := Lib.hid (by
            unfold opsB
            rw [Bool.and_eq_false_iff]; right
            rw [List.all_eq_false]
            exact ⟨_, hmem, by simp [pairOk, hx]⟩)
          clear hx hmem
          go_wp2
          go_ret
          exact ⟨by rw [hf.out]; rfl, HB.out⟩
      · obtain rfl : k = l.length := by omega
        rw [List.take_length] at hall
        have hf : Hid (opsB l most = true) := Lib.hid (by
          unfold opsB
          rw [hall, decide_eq_true HM.out]; rfl)
        have HB := Lib.hid hB
        clear hall hB
        go_wp2
        go_ret
        exact ⟨by rw [hf.out]; rfl, HB.out⟩
  · have hg : ((most : Int) < (l.length : Int)) := by omega
    have hf : Hid (opsB l most = false) := Lib.hid (by
      unfold opsB
      rw [Bool.and_eq_false_iff]; left
      exact decide_eq_false hl)
    clear hl hr hmost
    go_enter Tryz.func7, Tryz.ntmps7
    go_wp2
    go_ret
    exact ⟨by rw [hf.out]; rfl, Below.refl _ _⟩
theorem opsB_parts {l : List Bw.Op} {most : Nat} (h : opsB l most = true) : l.length <= most /\ ∀ o ∈ l, o.2.1.length <= 100 /\ o.2.2.length <= 100 := by
  unfold opsB at h
  rw [Bool.and_eq_true, decide_eq_true_iff, List.all_eq_true] at h
  refine ⟨h.1, fun o ho => ?_⟩
  have := h.2 o ho
  unfold pairOk at this
  rw [Bool.and_eq_true, decide_eq_true_iff, decide_eq_true_iff] at this
  exact this
def WoRel (m : List Bw.PV) (key : Bw.Bytes) (w : World) (v i : Value) (wr : World) : Prop :=
  ∃ k : Nat, k <= m.length /\ i = .int .i64 k /\ OwnAt 55 2 spK (fun k => w.heap.size <= k) wr w.heap.size v (Bw.without (m.take k) key) /\ Below w.heap.size w wr
theorem without_len (m : List Bw.PV) (key : Bw.Bytes) (k : Nat) : (Bw.without (m.take k) key).length <= k := Nat.le_trans (List.length_filter_le _ _) (List.length_take_le k m)
set_option maxRecDepth 100000 in
set_option maxHeartbeats 1600000 in
theorem rwithout_any {ok : Nat -> Prop} {m : List Bw.PV} {key : Bw.Bytes} {v : Value} {w : World} (hl : m.length <= 1048576) (hr : SPairsAt ok w v m) :
    Calls Tryz.prog 27 #[v, str key] w (Gives w fun q w' => SPairsAt (fun k => w.heap.size <= k) w' q (Bw.without m key)) := by
  obtain ⟨A, c, rfl⟩ := hr.form
  have HL := Lib.hid hl
  have HR := Lib.hid hr
  have H0 : Hid (WoRel m key w (.slice none 0 0) (.int .i64 0) w) := Lib.hid ⟨0, Nat.zero_le _, rfl, OwnAt.nil, Below.refl _ _⟩
  clear hl hr
  simp only [str]
  go_enter Tryz.func27, Tryz.ntmps27
  go_wp2_with fail
  go_loopw [5, 10] (WoRel m key w) (fun _ i _ => m.length - (intOf i).toNat)
  case atStart => exact H0.out
  case round =>
    obtain ⟨k, hk, rfl, hown, hB⟩ := hrel
    by_cases hlt : k < m.length
    · obtain ⟨b, o, rfl, hob, c0, c1⟩ := sp_get HR.out (List.getElem?_eq_getElem hlt)
      have hbl := World.block_lt_of_cell? w _ c0
      dsimp only at hbl
      have d0 := (hB.cell (p := ⟨b, o + k * 2, none⟩) hbl).trans c0
      have d1 := (hB.cell (p := ⟨b, o + k * 2 + 1, none⟩) hbl).trans c1
      have hbl2 : b < wr.heap.size := Nat.lt_of_lt_of_le hbl hB.size
      have h0 : (0 : Int) <= (k : Int) := by omega
      have h1 : (k : Int) < (m.length : Int) := by omega
      have hsn := take_succ_snoc hlt
      have hlen := without_len m key k
      generalize m[k] = q at *
      obtain ⟨qx, qy⟩ := q
      simp only [str] at d0 d1
      have hbq : Below wr.heap.size wr (wr.alloc (.cells #[.string ⟨qx.toArray⟩, .string ⟨qy.toArray⟩] 55)) := by exact gB3
      have HBB := Lib.hid hB
      have HSN : Hid (Bw.without (m.take (k + 1)) key = Bw.without (m.take k) key ++ Bw.without [(qx, qy)] key) := Lib.hid (by rw [hsn, Bw.without_append])
      have HLN := Lib.hid hlen
      have HO : Hid (∀ W, Below wr.heap.size wr W -> OwnAt 55 2 spK (fun k => w.heap.size <= k) W w.heap.size _ (Bw.without (m.take k) key)) := Lib.hid fun W hW => hown.move goodSp (Moves.below hW)
      generalize Bw.without (m.take k) key = acc at *
      clear c0 c1 hB hsn hown hlen
      by_cases hx : qx = key
      · have HS2 : Hid (Bw.without (m.take (k + 1)) key = acc) := Lib.hid (by rw [HSN.out, Bw.without_cons_same (q := (qx, qy)) hx]; simp [Bw.without])
        have hxb : (qx == key) = true := beq_iff_eq.2 hx
        clear hx
        go_wp2
        exact ⟨⟨k + 1, hlt, int_succ hlt HL.out, by rw [HS2.out]; exact HO.out _ (by exact gB3), HBB.out.trans (hbq.mono HBB.out.size)⟩, less_succ hlt HL.out⟩
      · have HS2 : Hid (Bw.without (m.take (k + 1)) key = acc ++ [(qx, qy)]) := Lib.hid (by rw [HSN.out, Bw.without_cons_other (q := (qx, qy)) hx]; simp [Bw.without])
        have hxb : (qx == key) = false := beq_eq_false_iff_ne.2 hx
        clear hx
        go_wp2_with (at_builtin; go_loud (refine wp_spapp (w0 := w) rfl rfl rfl (HO.out _ (by exact gB3)) (qx, qy) 55 (by go_simp) (by have := HBB.out.size; simp; omega) (by have := HLN.out; have := HL.out; omega) (by have := HBB.out.size; simp; omega) ?_; intro v4 w4 hown4 hb4 hg4))
        exact ⟨⟨k + 1, hlt, int_succ hlt HL.out, by rw [HS2.out]; exact hown4, (HBB.out.trans (hbq.mono HBB.out.size)).trans hb4⟩, less_succ hlt HL.out⟩
    · obtain rfl : k = m.length := by omega
      rw [List.take_length] at hown
      have HOWN := Lib.hid hown
      have HB := Lib.hid hB
      clear hown hB
      go_wp2
      go_ret
      exact ⟨_, rfl, HOWN.out.row goodSp, HB.out⟩
end Go.Proofs.YtadaoceidkagfaaGreatDoor
