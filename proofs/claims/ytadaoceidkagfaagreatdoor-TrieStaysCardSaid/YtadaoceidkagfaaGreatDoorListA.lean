
import Derived.Test.YtadaoceidkagfaaGreatDoorTreeA
import Derived.Test.YtadaoceidkagfaaGreatDoorBwAll
import Derived.Test.YtadaoceidkagfaaGreatDoorOwn
import Derived.Shelf.Abstract
import Derived.Deep.RegionLaw
import Derived.Deep.AppendLies
import Derived.Deep.QuietTactic
import Derived.BigQuiet
namespace Go.Proofs.YtadaoceidkagfaaGreatDoor
open Go.RowKit Go.Bw
set_option maxRecDepth 100000 in
set_option maxHeartbeats 400000 in
theorem bcmp_any {ok ok' : Nat -> Prop} {u v : Value} {a b : Bw.Bytes} (w : World) (hu : BytesAt ok w u a) (hv : BytesAt ok' w v b) :
    Calls Tryz.prog 87 #[u, v] w fun e w' => e = .returned (.int .i64 (Lib.compareBytes a b)) /\ w = w' := by
  have HC := Lib.hid (run_compareE (P := Tryz.prog) hu hv)
  clear hu hv
  go_enter Tryz.func87, Tryz.ntmps87
  go_wp2_with fail
  rw [run_callFunc_extern Tryz.func115 (by kernel_rfl) (by kernel_rfl) (by kernel_rfl) (e := Extern.BytealgCompare.compare) (by kernel_rfl), HC.out]
  simp only [Result.andThen]
  rw [Oper.upon_value]
  go_wp2
  go_ret
  exact ⟨rfl, rfl⟩
set_option maxRecDepth 100000 in
set_option maxHeartbeats 400000 in
theorem kcmp_any {ok ok' : Nat -> Prop} {u v : Value} {a b : Bw.Bytes} (w : World) (hu : BytesAt ok w u a) (hv : BytesAt ok' w v b) :
    Calls Tryz.prog 53 #[u, v] w fun e w' => e = .returned (.int .i64 (Lib.compareBytes a b)) /\ w = w' := by
  have HC := Lib.hid (bcmp_any w hu hv)
  clear hu hv
  generalize Lib.compareBytes a b = r at *
  go_enter Tryz.func53, Tryz.ntmps53
  go_wp2_with fail
  refine HC.out.mono ?_
  rintro e w' ⟨rfl, rfl⟩
  go_wp2
  go_ret
  exact ⟨rfl, rfl⟩
open Go.RowKit Go.Bw
set_option maxRecDepth 100000 in
set_option maxHeartbeats 400000 in
theorem wsize_in (n : Nat) (w : World) (h : n <= 1048576) : Calls Tryz.prog 89 #[.int .i64 (n : Nat)] w fun e w' => e = .returned (.int .i64 (n : Nat)) /\ w = w' := by
  have h1 : (n : Int) <= 1048576 := by omega
  have h2 : (0 : Int) <= (n : Int) := by omega
  have h3 : min (n : Int) 1048576 = (n : Int) := by omega
  clear h
  go_enter Tryz.func89, Tryz.ntmps89
  go_wp2
  go_ret
  exact ⟨rfl, rfl⟩
set_option maxRecDepth 100000 in
set_option maxHeartbeats 400000 in
theorem weven_in (l r : Nat) (w : World) (h1 : l <= 1048576) (h2 : r <= 1048576) : Calls Tryz.prog 88 #[.int .i64 (l : Nat), .int .i64 (r : Nat)] w fun e w' => e = .returned (.bool (decide (l + 1 <= 3 * (r + 1) /\ r + 1 <= 3 * (l + 1)))) /\ w = w' := by
  have b1 : (l : Int) <= 1048576 := by omega
  have b2 : (0 : Int) <= (l : Int) := by omega
  have b3 : (r : Int) <= 1048576 := by omega
  have b4 : (0 : Int) <= (r : Int) := by omega
  by_cases hl : l + 1 <= 3 * (r + 1)
  · have g1 : (l : Int) + 1 <= 3 * ((r : Int) + 1) := by omega
    by_cases hr : r + 1 <= 3 * (l + 1)
    · have g2 : (r : Int) + 1 <= 3 * ((l : Int) + 1) := by omega
      rw [show decide (l + 1 <= 3 * (r + 1) /\ r + 1 <= 3 * (l + 1)) = true by simp [hl, hr]]
      clear hl hr h1 h2
      go_enter Tryz.func88, Tryz.ntmps88
      go_wp2
      go_ret
      exact ⟨rfl, rfl⟩
    · have g2 : ¬ ((r : Int) + 1 <= 3 * ((l : Int) + 1)) := by omega
      rw [show decide (l + 1 <= 3 * (r + 1) /\ r + 1 <= 3 * (l + 1)) = false by simp [hr]]
      clear hl hr h1 h2
      go_enter Tryz.func88, Tryz.ntmps88
      go_wp2
      go_ret
      exact ⟨rfl, rfl⟩
  · have g1 : ¬ ((l : Int) + 1 <= 3 * ((r : Int) + 1)) := by omega
    rw [show decide (l + 1 <= 3 * (r + 1) /\ r + 1 <= 3 * (l + 1)) = false by simp [hl]]
    clear hl h1 h2
    go_enter Tryz.func88, Tryz.ntmps88
    go_wp2
    go_ret
    exact ⟨rfl, rfl⟩
set_option maxRecDepth 100000 in
set_option maxHeartbeats 400000 in
theorem weven_any (l r : Nat) (w : World) (h1 : l <= 1048576) (h2 : r <= 1048576) : Calls Tryz.prog 57 #[.int .i64 (l : Nat), .int .i64 (r : Nat)] w fun e w' => e = .returned (.bool (decide (l + 1 <= 3 * (r + 1) /\ r + 1 <= 3 * (l + 1)))) /\ w = w' := by
  have C1 := Lib.hid (fun w => wsize_in l w h1)
  have C2 := Lib.hid (fun w => wsize_in r w h2)
  have C3 := Lib.hid (fun w => weven_in l r w h1 h2)
  generalize decide (l + 1 <= 3 * (r + 1) /\ r + 1 <= 3 * (l + 1)) = z at *
  clear h1 h2
  go_enter Tryz.func57, Tryz.ntmps57
  go_wp2_with (first
    | (go_at_call 89; first | ((with_reducible refine (C1.out _).mono ?_); rintro e w' ⟨rfl, rfl⟩) | ((with_reducible refine (C2.out _).mono ?_); rintro e w' ⟨rfl, rfl⟩))
    | (go_at_call 88; (with_reducible refine (C3.out _).mono ?_); rintro e w' ⟨rfl, rfl⟩))
  go_ret
  exact ⟨rfl, rfl⟩
open Go.RowKit Go.Bw
def nodes : Bw.T -> List Bw.T
  | .nil => []
  | .node l p r => nodes l ++ .node l p r :: nodes r
set_option maxRecDepth 100000 in
set_option maxHeartbeats 400000 in
theorem each_any {ok : Nat -> Prop} {w0 : World} (K : Nat) (hE : ∀ args w, (callFunc K args).run Tryz.prog w = .ok (.enter K args) w) (cap : Value) (Inv : List Bw.T -> World -> Prop) (hmv : ∀ pre w, Inv pre w -> Moves ok ok w0 w /\ w0.heap.size <= w.heap.size)
    (all : List Bw.T) (hy : ∀ pre l p r post b w, all = pre ++ .node l p r :: post -> Inv pre w -> TreeAt ok w (.pointer (some ⟨b, 0, none⟩)) (.node l p r) ->
      Calls Tryz.prog K #[.pointer (some ⟨b, 0, none⟩), cap] w fun e w' => e = .returned (.bool true) /\ Inv (pre ++ [.node l p r]) w') :
    ∀ (t : Bw.T) (v : Value) (pre post : List Bw.T) (w : World), all = pre ++ nodes t ++ post -> Inv pre w -> TreeAt ok w0 v t ->
      Calls Tryz.prog 54 #[v, .func (Fn.func K) #[] #[cap]] w fun e w' => e = .returned (.bool true) /\ Inv (pre ++ nodes t) w' := by
  intro t
  induction t with
  | nil =>
    intro v pre post w ha hi ht
    simp only [TreeAt] at ht
    subst ht
    clear hy
    have HI := Lib.hid hi
    clear hi ha hmv
    go_enter Tryz.func54, Tryz.ntmps54
    go_wp2
    go_ret
    exact ⟨rfl, by simpa [nodes] using HI.out⟩
  | node l p r ihl ihr =>
    intro v pre post w ha hi ht
    have HT := Lib.hid ht
    simp only [TreeAt] at ht
    obtain ⟨b, u1, u2, lv, rv, rfl, h0, h1, h2, h3, h4, k1, k2, hl, hr⟩ := ht
    simp only [nodes] at ha
    have CL := Lib.hid (ihl lv pre (.node l p r :: nodes r ++ post) w (by simpa using ha) hi hl)
    have CY := Lib.hid (fun w1 (h : Inv (pre ++ nodes l) w1) => hy (pre ++ nodes l) l p r (nodes r ++ post) b w1 (by simpa using ha) h (TreeAt.move (hmv _ _ h).1 _ _ HT.out))
    have CR := Lib.hid (fun w1 (h : Inv (pre ++ nodes l ++ [.node l p r]) w1) => ihr rv (pre ++ nodes l ++ [.node l p r]) post w1 (by simpa using ha) h hr)
    have HM := Lib.hid hmv
    have HI := Lib.hid hi
    obtain ⟨A1, rfl⟩ := hl.form
    obtain ⟨A2, rfl⟩ := hr.form
    have d2 : w.cell? ⟨b, 2, none⟩ = some (.pointer A1) := (h2.move (hmv _ _ hi).1).2
    have H3 := Lib.hid h3
    clear hy ihl ihr ha hi k1 k2 hl hr hmv h0 h1 h2 h3 h4
    go_enter Tryz.func54, Tryz.ntmps54
    go_wp2_with fail
    refine CL.out.mono ?_
    rintro e w1 ⟨rfl, hi1⟩
    have CY1 := Lib.hid (CY.out w1 hi1)
    clear hi1
    go_wp2_with fail
    go_at_fn K
    refine CY1.out.mono ?_
    rintro e w2 ⟨rfl, hi2⟩
    have CR1 := Lib.hid (CR.out w2 hi2)
    have d3 : w2.cell? ⟨b, 3, none⟩ = some (.pointer A2) := (H3.out.move (HM.out _ _ hi2).1).2
    clear hi2
    go_wp2_with fail
    refine CR1.out.mono ?_
    rintro e w3 ⟨rfl, hi3⟩
    have HI3 := Lib.hid hi3
    clear hi3
    go_wp2
    go_ret
    exact ⟨rfl, by simpa [nodes] using HI3.out⟩
open Go.RowKit Go.Bw
def rootOf : Bw.T -> Bw.PV
  | .nil => ([], [])
  | .node _ p _ => p
def InvL (w0 : World) (o : Nat) (pre : List Bw.T) (w : World) : Prop :=
  ∃ vo, w.cell? ⟨o, 0, none⟩ = some vo /\ w.frozen? ⟨o, 0, none⟩ = false /\ OwnAt 62 2 pairK (fun k => w0.heap.size <= k /\ k ≠ o) w w0.heap.size vo (pre.map rootOf) /\ Below w0.heap.size w0 w /\ o < w.heap.size
set_option maxRecDepth 100000 in
set_option maxHeartbeats 400000 in
theorem list1_any {ok : Nat -> Prop} {w0 w : World} {o b : Nat} {pre : List Bw.T} {l r : Bw.T} {p : Bw.PV} (ho : w0.heap.size <= o) (hi : InvL w0 o pre w) (ht : TreeAt ok w (.pointer (some ⟨b, 0, none⟩)) (.node l p r)) (hp : p.1.length <= 1048576 /\ p.2.length <= 1048576) (hn : pre.length < 1048576) :
    Calls Tryz.prog 58 #[.pointer (some ⟨b, 0, none⟩), .pointer (some ⟨o, 0, none⟩)] w fun e w' => e = .returned (.bool true) /\ InvL w0 o (pre ++ [.node l p r]) w' := by
  simp only [TreeAt] at ht
  obtain ⟨b', u1, u2, lv, rv, hb', ⟨_, h0⟩, ⟨_, h1⟩, _, _, _, k1, k2, _⟩ := ht
  cases hb'
  obtain ⟨vo, c0, f0, hown, hB, hol⟩ := hi
  have hB1 : Below w.heap.size w (w.drew) := by exact gB1
  have CO := Lib.hid (fun W (hW : Below w.heap.size w W) => own_any u1 u2 p W (k1.move goodByte (Moves.below hW)) (k2.move goodByte (Moves.below hW)) hp.1 hp.2)
  have HB := Lib.hid hB
  obtain ⟨i0, hi, hz0, hz1, hz2⟩ := info_parts infoP
  have HI := Lib.hid hi; have HZ0 := Lib.hid hz0; have HZ1 := Lib.hid hz1; have HZ2 := Lib.hid hz2
  have HN := Lib.hid hn
  obtain ⟨AA, cc, rfl⟩ := (hown.row goodPair).form
  rw [List.length_map] at *
  have HOWN := Lib.hid hown
  clear hown hB k1 k2 hp hi hz0 hz1 hz2 hB1 hn
  go_enter Tryz.func58, Tryz.ntmps58
  go_wp2_with fail
  go_region_law
    ((first
      | (go_simp; go_at_call 59; (with_reducible refine (CO.out _ (by exact gB1)).mono ?_); rintro e w1 ⟨q1, rfl, ⟨x1, y1, rfl, hx1, hy1⟩, hb1⟩; obtain ⟨X1, cx1, rfl⟩ := hx1.form; obtain ⟨Y1, cy1, rfl⟩ := hy1.form; have k0 : w1.cell? ⟨o, 0, none⟩ = some (.slice AA pre.length cc) := (hb1.cell (p := ⟨o, 0, none⟩) (by simp; omega)).trans (by simpa using c0); have kf : w1.frozen? ⟨o, 0, none⟩ = false := (hb1.frozen (p := ⟨o, 0, none⟩) (by simp; omega)).trans (by simpa using f0); have hw1 : Below w.heap.size w w1 := Below.trans (b := w.drew) (by exact gB1) (hb1.mono (by simp)); have hol1 : o < w1.heap.size := Nat.lt_of_lt_of_le hol hw1.size; have hne0 : ¬ (o = w1.heap.size) := Nat.ne_of_lt hol1; have hnw := World.new_ne w1 ⟨o, 0, none⟩ k0)
      | (refine st_app1 goodPair rfl (.tmp 4) (.tmp 10) 40 rfl w0.heap.size 62 i0 _ 48 Tryz.underlying40 HI.out HZ0.out HZ1.out HZ2.out rfl (by decide) _ (pre.map rootOf) rfl (HOWN.out.move goodPair (Moves.below hw1)) p #[.slice X1 p.1.length cx1, .slice Y1 p.2.length cy1] 62 rfl (pairK_mk (hx1.move goodByte (HOWN.out.aside (by simp) (fun k hk => by simp at hk; omega) (Below.refl _ _))) (hy1.move goodByte (HOWN.out.aside (by simp) (fun k hk => by simp at hk; omega) (Below.refl _ _)))) (fun k hk => ⟨Nat.le_trans (Nat.le_trans HB.out.size hw1.size) hk, fun e => by omega⟩) (by have := HN.out; simp; omega) (by decide) (Nat.le_trans HB.out.size hw1.size) ?_; intro v3 w3 hown3 hb3 hat3 hg3; obtain ⟨A3, c3, rfl⟩ := (hown3.row goodPair).form; have hne : some o ≠ (Value.slice AA pre.length cc).ownBlock := (fun e => (HOWN.out.1 o e.symm).2 rfl); have k0 : w3.cell? ⟨o, 0, none⟩ = some (.slice AA pre.length cc) := hg3.cell k0 hne; have kf : w3.frozen? ⟨o, 0, none⟩ = false := (hg3.frozen_far ⟨o, 0, none⟩ (Nat.lt_of_lt_of_le hol hw1.size) hne).trans kf)))
  all_goals go_wp2
  all_goals go_ret
  all_goals refine ⟨rfl, .slice A3 (pre.length + 1) c3, by go_simp, by go_simp, ?_, ?_, ?_⟩
  all_goals first
    | (rw [List.map_append]; refine OwnAt.move goodPair (Moves.set (p := ⟨o, 0, none⟩) _ (fun k hk => hk.2)) ?_; simpa [rootOf] using hown3)
    | exact ((HB.out.trans (hw1.mono HB.out.size)).trans hb3).setCell ho _
    | exact Nat.lt_of_lt_of_le hol1 (by simpa using hb3.size)
open Go.RowKit Go.Bw
theorem enters_list1 : ∀ args w, (callFunc 58 args).run Tryz.prog w = .ok (.enter 58 args) w := Go.Proofs.enters_of Tryz.func58 (by kernel_rfl) rfl
theorem nodes_list : ∀ t : Bw.T, (nodes t).map rootOf = t.list
  | .nil => rfl
  | .node l p r => by simp [nodes, Bw.T.list, nodes_list l, nodes_list r, rootOf]
set_option maxRecDepth 100000 in
set_option maxHeartbeats 400000 in
theorem list_any {ok : Nat -> Prop} {t : Bw.T} {v : Value} {w : World} (ht : TreeAt ok w v t) (hp : ∀ p ∈ t.list, p.1.length <= 1048576 /\ p.2.length <= 1048576) (hn : t.size <= 1048576) :
    Calls Tryz.prog 34 #[v] w (Gives w fun q w' => PairsAt (fun k => w.heap.size <= k) w' q t.list) := by
  obtain ⟨A, rfl⟩ := ht.form
  have CS := Lib.hid (fun W (hW : Below w.heap.size w W) => size_any (ht.move (Moves.below hW)))
  have hmf : ∀ (fn : Fn) (first cap : Array Value) (w : World), (Instr.makeFunc fn first cap).run Tryz.prog w = .ok (.func fn first cap) w := fun _ _ _ _ => rfl
  obtain ⟨i0, hi, hz0, hz1, hz2⟩ := info_parts infoP
  obtain ⟨W1, hmk, hW1, hg1⟩ := run_make_own (P := Tryz.prog) w w.heap.size 40 62 i0 _ 2 Tryz.underlying40 hi hz0 hz1 .i64 .i64 t.size (by rw [hz2]; omega) (by unfold maxLen; omega) (Nat.le_refl _)
  have HW1 := Lib.hid hW1; have HG1 := Lib.hid hg1
  clear hi hz0 hz1 hz2 hW1 hg1
  have HT := Lib.hid ht; have HP := Lib.hid hp; have HN := Lib.hid hn
  clear ht hp hn
  go_enter Tryz.func34, Tryz.ntmps34
  go_wp2_with fail
  refine (CS.out _ (Below.refl _ _)).mono ?_
  rintro e w1 ⟨rfl, rfl⟩
  go_wp2_with fail
  have hB1 : Below w.heap.size w W1 := (Below.refl _ _).grown HG1.out (Nat.le_refl _) (fun k h => by cases h)
  have hB2 : Below w.heap.size w (W1.alloc (.cells #[.slice (some ⟨w.heap.size, 0, none⟩) 0 t.size] 40)) := hB1.alloc hB1.size _
  have hlt1 : w.heap.size < W1.heap.size := by
    have := (HW1.out.lt w.heap.size rfl).2
    exact this
  have hI : InvL w W1.heap.size [] (W1.alloc (.cells #[.slice (some ⟨w.heap.size, 0, none⟩) 0 t.size] 40)) := by
    refine ⟨.slice (some ⟨w.heap.size, 0, none⟩) 0 t.size, cell_new W1 0 _ _ 0 _ rfl, by go_simp, ?_, hB2, by simp⟩
    refine OwnAt.move goodPair (Moves.below ((Below.refl W1.heap.size W1).alloc (Nat.le_refl _) _)) ⟨fun k hk => ?_, [], HW1.out, Reps.nil _ _⟩
    cases hk
    exact ⟨Nat.le_refl _, Nat.ne_of_lt hlt1⟩
  have CE := Lib.hid (each_any (ok := ok) (w0 := w) 58 enters_list1 (.pointer (some ⟨W1.heap.size, 0, none⟩)) (InvL w W1.heap.size) (fun pre W h => by
      obtain ⟨vo, _, _, _, hb, _⟩ := h
      exact ⟨Moves.below hb, hb.size⟩) (nodes t) (fun pre l p r post b W he hi ht => by
      have hl := nodes_list t
      rw [he] at hl
      have hlen : pre.length < 1048576 := by
        have h1 := congrArg List.length hl
        rw [Bw.T.length_list] at h1
        simp at h1
        have := HN.out
        omega
      exact list1_any hB1.size hi ht (HP.out p (by rw [<- hl]; simp [rootOf])) hlen) t (.pointer A) [] [] _ (by simp) hI HT.out)
  clear hI
  refine CE.out.mono ?_
  rintro e w2 ⟨rfl, vo, c0, f0, hown, hb, hol⟩
  rw [List.nil_append, nodes_list] at hown
  obtain ⟨A9, c9, rfl⟩ := (hown.row goodPair).form
  have HROW := Lib.hid ((hown.row goodPair).weaken goodPair (ok' := fun k => w.heap.size <= k) (fun k hk => hk.1))
  have HBF := Lib.hid hb
  clear hown hb
  go_wp2
  refine bodyPost_ret (v := .slice A9 t.list.length c9) (by simp [results, Tryz.results34, go_sem]) rfl ⟨_, rfl, HROW.out, HBF.out⟩
open Go.RowKit Go.Bw
def InvS (ok : Nat -> Prop) (w0 : World) (o : Nat) (pre : List Bw.T) (w : World) : Prop :=
  ∃ A, w.cell? ⟨o, 0, none⟩ = some (.pointer A) /\ w.frozen? ⟨o, 0, none⟩ = false /\ Below w0.heap.size w0 w /\ o < w.heap.size /\
    (match pre.getLast? with
      | none => A = none
      | some x => TreeAt ok w (.pointer A) x)
set_option maxRecDepth 100000 in
set_option maxHeartbeats 400000 in
theorem sound1_first {ok : Nat -> Prop} {w : World} {o b : Nat} {l r : Bw.T} {p : Bw.PV} (c0 : w.cell? ⟨o, 0, none⟩ = some (.pointer none)) (f0 : w.frozen? ⟨o, 0, none⟩ = false) (hoo : ∀ k, ok k -> k ≠ o) (ht : TreeAt ok w (.pointer (some ⟨b, 0, none⟩)) (.node l p r)) (hn : l.size + r.size <= 1048575) (he : l.size + 1 <= 3 * (r.size + 1) /\ r.size + 1 <= 3 * (l.size + 1)) :
    Calls Tryz.prog 55 #[.pointer (some ⟨b, 0, none⟩), .pointer (some ⟨o, 0, none⟩)] w fun e w' => e = .returned (.bool true) /\ ∃ n m, w' = ((w.drewN n).setCell ⟨o, 0, none⟩ (.pointer (some ⟨b, 0, none⟩))).drewN m := by
  simp only [TreeAt] at ht
  obtain ⟨b', u1, u2, lv, rv, hb', ⟨_, h0⟩, ⟨_, h1⟩, ⟨_, h2⟩, ⟨_, h3⟩, ⟨_, h4⟩, k1, k2, hl, hr⟩ := ht
  cases hb'
  have CL := Lib.hid (fun (W : World) (hm : Moves ok ok w W) => (size_any (hl.move hm)).mono (R' := fun e w' => e = .returned (.int .i64 (l.size : Nat)) /\ w' = W) (fun _ _ h => ⟨h.1, h.2.symm⟩))
  have CR := Lib.hid (fun (W : World) (hm : Moves ok ok w W) => (size_any (hr.move hm)).mono (R' := fun e w' => e = .returned (.int .i64 (r.size : Nat)) /\ w' = W) (fun _ _ h => ⟨h.1, h.2.symm⟩))
  have CE := Lib.hid (fun (W : World) => (weven_any l.size r.size W (by omega) (by omega)).mono (R' := fun e w' => e = .returned (.bool true) /\ w' = W) (fun _ _ h => ⟨by rw [h.1, decide_eq_true he], h.2.symm⟩))
  have HOO := Lib.hid hoo
  obtain ⟨A1, rfl⟩ := hl.form
  obtain ⟨A2, rfl⟩ := hr.form
  have MV : Hid (∀ n m, Moves ok ok w (((w.drewN n).setCell ⟨o, 0, none⟩ (.pointer (some ⟨b, 0, none⟩))).drewN m)) := Lib.hid fun n m => ((Moves.drewN w n).trans (by simp) (Moves.set (p := ⟨o, 0, none⟩) _ hoo)).trans (by simp) (Moves.drewN _ m)
  simp only [Bw.T.size, Int.natCast_add, Int.cast_ofNat_Int] at h4
  have q1 : (l.size : Int) <= 1048576 := by omega
  have q2 : (r.size : Int) <= 1048576 := by omega
  generalize l.size = sl at *
  generalize r.size = sr at *
  have hbo : ¬ (b = o) := hoo b ‹ok b›
  have hob : ¬ (o = b) := fun e => hbo e.symm
  clear hl hr k1 k2 he hoo hn
  go_enter Tryz.func55, Tryz.ntmps55
  go_wp2_with fail
  go_quiet (fail)
  go_wp2_with fail
  go_quiet ((first
    | (go_at_call 56; first | with_reducible exact Calls.quiet_of_same (CL.out _ (MV.out _ _)) | with_reducible exact Calls.quiet_of_same (CR.out _ (MV.out _ _)))
    | (go_at_call 57; exact Calls.quiet_of_same (CE.out _))))
  go_wp2
  go_ret
  exact ⟨rfl, _, _, rfl⟩
set_option maxRecDepth 100000 in
set_option maxHeartbeats 400000 in
theorem sound1_next {ok : Nat -> Prop} {w : World} {o b : Nat} {l r l0 r0 : Bw.T} {p p0 : Bw.PV} {b0 : Nat} (c0 : w.cell? ⟨o, 0, none⟩ = some (.pointer (some ⟨b0, 0, none⟩))) (ht0 : TreeAt ok w (.pointer (some ⟨b0, 0, none⟩)) (.node l0 p0 r0)) (hlt : Lib.compareBytes p0.1 p.1 < 0) (f0 : w.frozen? ⟨o, 0, none⟩ = false) (hoo : ∀ k, ok k -> k ≠ o) (ht : TreeAt ok w (.pointer (some ⟨b, 0, none⟩)) (.node l p r)) (hn : l.size + r.size <= 1048575) (he : l.size + 1 <= 3 * (r.size + 1) /\ r.size + 1 <= 3 * (l.size + 1)) :
    Calls Tryz.prog 55 #[.pointer (some ⟨b, 0, none⟩), .pointer (some ⟨o, 0, none⟩)] w fun e w' => e = .returned (.bool true) /\ ∃ n m, w' = ((w.drewN n).setCell ⟨o, 0, none⟩ (.pointer (some ⟨b, 0, none⟩))).drewN m := by
  simp only [TreeAt] at ht
  obtain ⟨b', u1, u2, lv, rv, hb', ⟨_, h0⟩, ⟨_, h1⟩, ⟨_, h2⟩, ⟨_, h3⟩, ⟨_, h4⟩, k1, k2, hl, hr⟩ := ht
  cases hb'
  simp only [TreeAt] at ht0
  obtain ⟨b0', v1, v2, _, _, hb0, ⟨_, g0⟩, _, _, _, _, kk1, _⟩ := ht0
  cases hb0
  obtain ⟨V1, x1, rfl⟩ := kk1.form
  obtain ⟨U1, x2, rfl⟩ := k1.form
  have CC := Lib.hid (fun n => (kcmp_any (w.drewN n) (kk1.move goodByte (Moves.drewN w n)) (k1.move goodByte (Moves.drewN w n))).mono (R' := fun e w' => e = .returned (.int .i64 (Lib.compareBytes p0.1 p.1)) /\ w' = w.drewN n) (fun _ _ h => ⟨h.1, h.2.symm⟩))
  have CL := Lib.hid (fun (W : World) (hm : Moves ok ok w W) => (size_any (hl.move hm)).mono (R' := fun e w' => e = .returned (.int .i64 (l.size : Nat)) /\ w' = W) (fun _ _ h => ⟨h.1, h.2.symm⟩))
  have CR := Lib.hid (fun (W : World) (hm : Moves ok ok w W) => (size_any (hr.move hm)).mono (R' := fun e w' => e = .returned (.int .i64 (r.size : Nat)) /\ w' = W) (fun _ _ h => ⟨h.1, h.2.symm⟩))
  have CE := Lib.hid (fun (W : World) => (weven_any l.size r.size W (by omega) (by omega)).mono (R' := fun e w' => e = .returned (.bool true) /\ w' = W) (fun _ _ h => ⟨by rw [h.1, decide_eq_true he], h.2.symm⟩))
  have HOO := Lib.hid hoo
  obtain ⟨A1, rfl⟩ := hl.form
  obtain ⟨A2, rfl⟩ := hr.form
  have MV : Hid (∀ n m, Moves ok ok w (((w.drewN n).setCell ⟨o, 0, none⟩ (.pointer (some ⟨b, 0, none⟩))).drewN m)) := Lib.hid fun n m => ((Moves.drewN w n).trans (by simp) (Moves.set (p := ⟨o, 0, none⟩) _ hoo)).trans (by simp) (Moves.drewN _ m)
  simp only [Bw.T.size, Int.natCast_add, Int.cast_ofNat_Int] at h4
  have q1 : (l.size : Int) <= 1048576 := by omega
  have q2 : (r.size : Int) <= 1048576 := by omega
  generalize l.size = sl at *
  generalize r.size = sr at *
  have hbo : ¬ (b = o) := hoo b ‹ok b›
  have hob : ¬ (o = b) := fun e => hbo e.symm
  clear hl hr k1 k2 kk1 he hoo hn
  go_enter Tryz.func55, Tryz.ntmps55
  go_wp2_with fail
  go_quiet ((go_at_call 53; exact Calls.quiet_of_same (CC.out _)))
  go_wp2_with fail
  go_quiet ((first
    | (go_at_call 56; first | with_reducible exact Calls.quiet_of_same (CL.out _ (MV.out _ _)) | with_reducible exact Calls.quiet_of_same (CR.out _ (MV.out _ _)))
    | (go_at_call 57; exact Calls.quiet_of_same (CE.out _))))
  go_wp2
  go_ret
  exact ⟨rfl, _, _, rfl⟩
open Go.RowKit Go.Bw
theorem enters_sound1 : ∀ args w, (callFunc 55 args).run Tryz.prog w = .ok (.enter 55 args) w := Go.Proofs.enters_of Tryz.func55 (by kernel_rfl) rfl
theorem nodes_even : ∀ t : Bw.T, t.even -> ∀ x ∈ nodes t, x.even
  | .nil, _, x, hx => by simp [nodes] at hx
  | .node l p r, h, x, hx => by
    simp only [nodes, List.mem_append, List.mem_cons] at hx
    rcases hx with hx | rfl | hx
    · exact nodes_even l h.1 x hx
    · exact h
    · exact nodes_even r h.2.1 x hx
theorem nodes_size : ∀ t : Bw.T, ∀ x ∈ nodes t, x.size <= t.size
  | .nil, x, hx => by simp [nodes] at hx
  | .node l p r, x, hx => by
    simp only [nodes, List.mem_append, List.mem_cons] at hx
    rcases hx with hx | rfl | hx
    · have := nodes_size l x hx; simp only [Bw.T.size]; omega
    · exact Nat.le_refl _
    · have := nodes_size r x hx; simp only [Bw.T.size]; omega
theorem nodes_node : ∀ t : Bw.T, ∀ x ∈ nodes t, ∃ l p r, x = .node l p r
  | .nil, x, hx => by simp [nodes] at hx
  | .node l p r, x, hx => by
    simp only [nodes, List.mem_append, List.mem_cons] at hx
    rcases hx with hx | rfl | hx
    · exact nodes_node l x hx
    · exact ⟨_, _, _, rfl⟩
    · exact nodes_node r x hx
theorem sound1_any {ok : Nat -> Prop} {w0 w : World} {o b : Nat} {pre : List Bw.T} {l r : Bw.T} {p : Bw.PV} (ho : w0.heap.size <= o) (hoo : ∀ k, ok k -> k ≠ o) (hi : InvS ok w0 o pre w) (hpre : ∀ x ∈ pre, ∃ l p r, x = Bw.T.node l p r) (ht : TreeAt ok w (.pointer (some ⟨b, 0, none⟩)) (.node l p r)) (hn : l.size + r.size <= 1048575)
    (he : l.size + 1 <= 3 * (r.size + 1) /\ r.size + 1 <= 3 * (l.size + 1)) (hlt : ∀ l0 p0 r0, pre.getLast? = some (.node l0 p0 r0) -> Lib.compareBytes p0.1 p.1 < 0) :
    Calls Tryz.prog 55 #[.pointer (some ⟨b, 0, none⟩), .pointer (some ⟨o, 0, none⟩)] w fun e w' => e = .returned (.bool true) /\ InvS ok w0 o (pre ++ [.node l p r]) w' := by
  obtain ⟨A, c0, f0, hB, hol, hlast⟩ := hi
  have hfin : ∀ n m, InvS ok w0 o (pre ++ [.node l p r]) (((w.drewN n).setCell ⟨o, 0, none⟩ (.pointer (some ⟨b, 0, none⟩))).drewN m) := fun n m => by
    have mv : Moves ok ok w (((w.drewN n).setCell ⟨o, 0, none⟩ (.pointer (some ⟨b, 0, none⟩))).drewN m) := ((Moves.drewN w n).trans (by simp) (Moves.set (p := ⟨o, 0, none⟩) _ hoo)).trans (by simp) (Moves.drewN _ m)
    refine ⟨some ⟨b, 0, none⟩, by go_simp, by go_simp, b_drewN ((b_drewN hB n).setCell ho _) m, by simpa using hol, ?_⟩
    rw [List.getLast?_append]
    exact ht.move mv
  cases hp : pre.getLast? with
  | none =>
    simp only [hp] at hlast
    subst hlast
    refine (sound1_first c0 f0 hoo ht hn he).mono ?_
    rintro e w' ⟨rfl, n, m, rfl⟩
    exact ⟨rfl, hfin n m⟩
  | some x =>
    simp only [hp] at hlast
    obtain ⟨l0, p0, r0, rfl⟩ := hpre x (List.mem_of_getLast? hp)
    have hlast' := hlast
    simp only [TreeAt] at hlast'
    obtain ⟨b0, _, _, _, _, hA, _⟩ := hlast'
    cases hA
    refine (sound1_next c0 hlast (hlt l0 p0 r0 hp) f0 hoo ht hn he).mono ?_
    rintro e w' ⟨rfl, n, m, rfl⟩
    exact ⟨rfl, hfin n m⟩
set_option maxRecDepth 100000 in
set_option maxHeartbeats 400000 in
theorem sound_any {ok : Nat -> Prop} {t : Bw.T} {v : Value} {w : World} (ht : TreeAt ok w v t) (he : t.even) (hr : Bw.Rises t.list) (hn : t.size <= 1048576) :
    Calls Tryz.prog 33 #[v] w fun e w' => e = .returned (.bool true) /\ Below w.heap.size w w' := by
  obtain ⟨A, rfl⟩ := ht.form
  have hmf : ∀ (fn : Fn) (first cap : Array Value) (w : World), (Instr.makeFunc fn first cap).run Tryz.prog w = .ok (.func fn first cap) w := fun _ _ _ _ => rfl
  have hB : Below w.heap.size w (w.alloc (.cells #[.pointer none] 81)) := by exact gB1
  have ht2 : TreeAt (fun k => ok k /\ k < w.heap.size) w (.pointer A) t := ht.move (Moves.weaken fun k h hl => ⟨h, hl⟩)
  have hI : InvS (fun k => ok k /\ k < w.heap.size) w w.heap.size [] (w.alloc (.cells #[.pointer none] 81)) :=
    ⟨none, cell_new w 0 _ _ 0 _ rfl, by go_simp, hB, by simp, rfl⟩
  have CE := Lib.hid (each_any (ok := fun k => ok k /\ k < w.heap.size) (w0 := w) 55 enters_sound1 (.pointer (some ⟨w.heap.size, 0, none⟩)) (InvS (fun k => ok k /\ k < w.heap.size) w w.heap.size) (fun pre W h => by
      obtain ⟨_, _, _, hb, _⟩ := h
      exact ⟨Moves.below hb, hb.size⟩) (nodes t) (fun pre l p r post b W ha hi htx => by
      have hmem : Bw.T.node l p r ∈ nodes t := by rw [ha]; simp
      have hev := nodes_even t he _ hmem
      have hsz := nodes_size t _ hmem
      simp only [Bw.T.size] at hsz
      refine sound1_any (Nat.le_refl _) (fun k hk => Nat.ne_of_lt hk.2) hi (fun x hx => nodes_node t x (by rw [ha]; simp [hx])) htx (by omega) hev.2.2 (fun l0 p0 r0 hl => ?_)
      obtain ⟨ys, hl2⟩ := List.getLast?_eq_some_iff.1 hl
      rw [<- nodes_list, ha, hl2] at hr
      simp only [Bw.Rises, List.map_append, List.map_cons, List.append_assoc, List.singleton_append, List.pairwise_append, List.pairwise_cons, rootOf] at hr
      have := hr.2.1.1 p (by simp)
      have h2 : Lib.compareBytes p0.1 p.1 = -1 := this
      omega) t (.pointer A) [] [] _ (by simp) hI ht2)
  have HB := Lib.hid hB
  clear hI ht ht2 he hr hn hB
  go_enter Tryz.func33, Tryz.ntmps33
  go_wp2_with fail
  refine CE.out.mono ?_
  rintro e w1 ⟨rfl, _, _, _, hb, _⟩
  have HBF := Lib.hid hb
  clear hb
  go_wp2
  go_ret
  exact ⟨rfl, HBF.out⟩
end Go.Proofs.YtadaoceidkagfaaGreatDoor
