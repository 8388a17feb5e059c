
import Derived.Test.YtkblhilaeecdlaaRefA
import Derived.Test.YtkblhilaeecdlaaIs
import Derived.Lib.SlBytesConst
namespace Go.Proofs.Ytkblhilaeecdlaa
open Go.RowKit Go.Bw

def pairOk (p : Bw.PV) : Bool := decide (p.1.length ≤ 100) && decide (p.2.length ≤ 100)
def smallB (l : List Bw.PV) (most : Nat) : Bool := decide (l.length ≤ most) && l.all pairOk

def SmRel (l : List Bw.PV) (w : World) (i : Value) (wr : World) : Prop :=
  ∃ k : Nat, k ≤ l.length ∧ i = .int .i64 k ∧ (l.take k).all pairOk = true ∧ Below w.heap.size w wr

set_option maxRecDepth 100000 in
set_option maxHeartbeats 400000 in
theorem small_any {ok : Nat → Prop} {l : List Bw.PV} {v : Value} {w : World} (most : Nat) (hmost : most ≤ 1048576) (hr : PairsAt ok w v l) :
    Calls Try.prog 16 #[v, .int .i64 (most : Nat)] w fun e w' => e = .returned (.bool (smallB l most)) ∧ Below w.heap.size w w' := by
  obtain ⟨A, c, rfl⟩ := hr.form
  by_cases hl : l.length ≤ most
  · have hg : ¬ ((most : Int) < (l.length : Int)) := by omega
    have HL : Hid (l.length ≤ 1048576) := Lib.hid (by omega)
    have HM := Lib.hid hl
    have HR := Lib.hid hr
    have H0 : Hid (SmRel l w (.int .i64 0) w) := Lib.hid ⟨0, Nat.zero_le _, rfl, rfl, Below.refl _ _⟩
    clear hl hr hmost
    go_enter Try.func16, Try.ntmps16
    go_wp2_with fail
    go_loopw [13] (SmRel l w) (fun i _ => l.length - (intOf i).toNat)
    case atStart => exact H0.out
    case round =>
      obtain ⟨k, hk, rfl, hall, hB⟩ := hrel
      by_cases hlt : k < l.length
      · obtain ⟨b, o, u1, u2, rfl, hob, c0, c1, hu, hv⟩ := pair_get HR.out (List.getElem?_eq_getElem hlt)
        obtain ⟨U1, cu1, rfl⟩ := hu.form
        obtain ⟨U2, cu2, rfl⟩ := hv.form
        have hbl := World.block_lt_of_cell? w _ c0
        dsimp only at hbl
        have d0 := (hB.cell (p := ⟨b, o + k * 2, none⟩) hbl).trans c0
        have d1 := (hB.cell (p := ⟨b, o + k * 2 + 1, none⟩) hbl).trans c1
        have hbl2 : b < wr.heap.size := Nat.lt_of_lt_of_le hbl hB.size
        have h0 : (0 : Int) ≤ (k : Int) := by omega
        have h1 : (k : Int) < (l.length : Int) := by omega
        have hs : l.take (k + 1) = l.take k ++ [l[k]] := take_succ_snoc hlt
        have hmem : l[k] ∈ l := List.getElem_mem hlt
        generalize l[k] = q at *
        obtain ⟨qx, qy⟩ := q
        have hB2 : Below w.heap.size w (wr.alloc (.cells #[.slice U1 qx.length cu1, .slice U2 qy.length cu2] 54)) := hB.trans (Below.mono (by (repeat (first | exact Below.refl _ _ | with_reducible assumption | refine Below.drew ?_ | refine b_drewN ?_ _ | (refine Below.alloc ?_ (by simp) _) | (refine Below.alloc ?_ (by simp; omega) _)))) hB.size)
        have HB := Lib.hid hB2
        have HALL := Lib.hid hall
        have HS := Lib.hid hs
        clear hu hv c0 c1 hs hall hB hB2
        dsimp only at *
        by_cases hx : qx.length ≤ 100
        · have hx1 : ¬ (100 : Int) < (qx.length : Int) := by omega
          by_cases hy : qy.length ≤ 100
          · have hy1 : ¬ (100 : Int) < (qy.length : Int) := by omega
            have hq : pairOk (qx, qy) = true := by simp [pairOk, hx, hy]
            have HA2 : Hid ((l.take (k + 1)).all pairOk = true) := Lib.hid (by rw [HS.out, List.all_append, HALL.out]; simp [hq])
            clear hx hy hq
            go_wp2
            exact ⟨⟨k + 1, hlt, int_succ hlt HL.out, HA2.out, HB.out⟩, less_succ hlt HL.out⟩
          · have hy1 : (100 : Int) < (qy.length : Int) := by omega
            have hf : Hid (smallB l most = false) := Lib.hid (by
              unfold smallB
              rw [Bool.and_eq_false_iff]; right
              rw [List.all_eq_false]
              exact ⟨_, hmem, by simp [pairOk, hy]⟩)
            clear hx hy hmem
            go_wp2
            go_ret
            exact ⟨by rw [hf.out]; rfl, HB.out⟩
        · have hx1 : (100 : Int) < (qx.length : Int) := by omega
          have hf : Hid (smallB l most = false) := Lib.hid (by
            unfold smallB
            rw [Bool.and_eq_false_iff]; right
            rw [List.all_eq_false]
            exact ⟨_, hmem, by simp [pairOk, hx]⟩)
          clear hx hmem
          go_wp2
          go_ret
          exact ⟨by rw [hf.out]; rfl, HB.out⟩
      · obtain rfl : k = l.length := by omega
        rw [List.take_length] at hall
        have hf : Hid (smallB l most = true) := Lib.hid (by simp only [smallB, hall, HM.out]; simp)
        clear hlt hall
        go_wp2
        go_ret
        exact ⟨by rw [hf.out]; rfl, hB⟩
  · have hg : (most : Int) < (l.length : Int) := by omega
    have hf : Hid (smallB l most = false) := Lib.hid (by simp [smallB, hl])
    clear hl hr hmost
    go_enter Try.func16, Try.ntmps16
    go_wp2
    go_ret
    exact ⟨by rw [hf.out]; rfl, Below.refl _ _⟩

def planOk (p : Bw.Plan) : Bool := smallB p.pairs 12 && decide (p.kids.length ≤ 6)
def kidsSum (l : List Bw.Plan) : Nat := (l.map fun p => p.kids.length).sum
def fineB (l : List Bw.Plan) : Bool := decide (l.length ≤ 12) && (l.all planOk && decide (kidsSum l ≤ 14))

def FineRel (l : List Bw.Plan) (w : World) (n i : Value) (wr : World) : Prop :=
  ∃ k : Nat, k ≤ l.length ∧ i = .int .i64 k ∧ n = .int .i64 (kidsSum (l.take k) : Nat) ∧ kidsSum (l.take k) ≤ 6 * k ∧ (l.take k).all planOk = true ∧ Below w.heap.size w wr

set_option maxRecDepth 100000 in
set_option maxHeartbeats 400000 in
theorem fine_any {ok : Nat → Prop} {l : List Bw.Plan} {v : Value} {w : World} (hr : PlansAt ok w v l) :
    Calls Try.prog 6 #[v] w fun e w' => e = .returned (.bool (fineB l)) ∧ Below w.heap.size w w' := by
  obtain ⟨A, c, rfl⟩ := hr.form
  by_cases hl : l.length ≤ 12
  · have hg : ¬ ((12 : Int) < (l.length : Int)) := by omega
    have HL := Lib.hid hl
    have HR := Lib.hid hr
    have H0 : Hid (FineRel l w (.int .i64 0) (.int .i64 0) w) := Lib.hid ⟨0, Nat.zero_le _, rfl, rfl, Nat.le_refl _, rfl, Below.refl _ _⟩
    clear hl hr
    go_enter Try.func6, Try.ntmps6
    go_wp2_with fail
    go_loopw [3, 11] (FineRel l w) (fun _ i _ => l.length - (intOf i).toNat)
    case atStart => exact H0.out
    case round =>
      obtain ⟨k, hk, rfl, rfl, hsum, hall, hB⟩ := hrel
      by_cases hlt : k < l.length
      · obtain ⟨b, o, vp, vk, rfl, hob, c0, c1, c2, c3, c4, hp, hkk⟩ := plan_get HR.out (List.getElem?_eq_getElem hlt)
        obtain ⟨U1, cu1, rfl⟩ := hp.form
        obtain ⟨U2, cu2, rfl⟩ := hkk.form
        have hbl := World.block_lt_of_cell? w _ c0
        dsimp only at hbl
        have d0 := (hB.cell (p := ⟨b, o + k * 5, none⟩) hbl).trans c0
        have d1 := (hB.cell (p := ⟨b, o + k * 5 + 1, none⟩) hbl).trans c1
        have d2 := (hB.cell (p := ⟨b, o + k * 5 + 2, none⟩) hbl).trans c2
        have d3 := (hB.cell (p := ⟨b, o + k * 5 + 3, none⟩) hbl).trans c3
        have d4 := (hB.cell (p := ⟨b, o + k * 5 + 4, none⟩) hbl).trans c4
        have hbl2 : b < wr.heap.size := Nat.lt_of_lt_of_le hbl hB.size
        have h0 : (0 : Int) ≤ (k : Int) := by omega
        have h1 : (k : Int) < (l.length : Int) := by omega
        have hs : l.take (k + 1) = l.take k ++ [l[k]] := take_succ_snoc hlt
        have hmem : l[k] ∈ l := List.getElem_mem hlt
        generalize l[k] = q at *
        obtain ⟨qb, qh, qp, qs, qk⟩ := q
        dsimp only at *
        obtain ⟨WP, hWP⟩ : ∃ WP, (wr.alloc (.cells #[.bool qb, .int .u64 (qh : Nat), .slice U1 qp.length cu1, .int .u32 (qs : Nat), .slice U2 qk.length cu2] 49)) = WP := ⟨_, rfl⟩
        have hB2 : Below wr.heap.size wr WP := by rw [← hWP]; (repeat (first | exact Below.refl _ _ | with_reducible assumption | refine Below.drew ?_ | refine b_drewN ?_ _ | (refine Below.alloc ?_ (by simp) _) | (refine Below.alloc ?_ (by simp; omega) _)))
        have hsz : wr.heap.size < WP.heap.size := by rw [← hWP]; simp
        have e2 : WP.cell? ⟨wr.heap.size, 2, none⟩ = some (.slice U1 qp.length cu1) := by rw [← hWP]; exact cell_new wr 0 _ _ 2 _ rfl
        have e4 : WP.cell? ⟨wr.heap.size, 4, none⟩ = some (.slice U2 qk.length cu2) := by rw [← hWP]; exact cell_new wr 0 _ _ 4 _ rfl
        have hB3 : Below w.heap.size w WP := hB.trans (hB2.mono hB.size)
        have CS := Lib.hid (small_any 12 (by decide) (hp.move goodPair (Moves.below hB3)))
        have HB := Lib.hid hB3
        have HALL := Lib.hid hall
        have HS := Lib.hid hs
        have HSUM := Lib.hid hsum
        have HWP := Lib.hid hWP
        have HMEM := Lib.hid hmem
        have hsum2 : kidsSum (l.take (k + 1)) = kidsSum (l.take k) + qk.length := by rw [hs]; simp [kidsSum]
        have HSUM2 := Lib.hid hsum2
        clear hp hkk c0 c1 c2 c3 c4 hs hall hB hB2 hB3 hsum2 hWP hmem
        go_wp2_with fail
        rw [HWP.out]
        refine CS.out.mono ?_
        rintro e w1 ⟨rfl, hb1⟩
        have f4 := (hb1.cell (p := ⟨wr.heap.size, 4, none⟩) hsz).trans e4
        have hsz1 : wr.heap.size < w1.heap.size := Nat.lt_of_lt_of_le hsz hb1.size
        have HB1 := Lib.hid (HB.out.trans (hb1.mono HB.out.size))
        clear e2 e4 hb1 d0 d1 d2 d3 d4
        cases hsm : smallB qp 12 with
        | true =>
          by_cases hx : qk.length ≤ 6
          · have hx1 : ¬ (6 : Int) < (qk.length : Int) := by omega
            have hq : planOk ⟨qb, qh, qp, qs, qk⟩ = true := by simp [planOk, hsm, hx]
            have HA2 : Hid ((l.take (k + 1)).all planOk = true) := Lib.hid (by rw [HS.out, List.all_append, HALL.out]; simp [hq])
            have hw : IntKind.i64.wrap (((kidsSum (l.take k) : Nat) : Int) + (qk.length : Int)) = ((kidsSum (l.take (k + 1)) : Nat) : Int) := by rw [IntKind.wrap_i64, HSUM2.out]; have := HSUM.out; have := HL.out; omega
            have HS6 : Hid (kidsSum (l.take (k + 1)) ≤ 6 * (k + 1)) := Lib.hid (by rw [HSUM2.out]; have := HSUM.out; omega)
            generalize hs2 : kidsSum (l.take (k + 1)) = s2 at *
            have HS22 := Lib.hid hs2
            clear hs2
            clear hx hq hsm HSUM2
            go_wp2
            exact ⟨⟨k + 1, hlt, by rw [Int.natCast_add]; rfl, by rw [HS22.out], by rw [HS22.out]; exact HS6.out, HA2.out, HB1.out⟩, by simp only [intOf]; omega⟩
          · have hx1 : (6 : Int) < (qk.length : Int) := by omega
            have hf : Hid (fineB l = false) := Lib.hid (by
              unfold fineB
              rw [Bool.and_eq_false_iff]; right
              rw [Bool.and_eq_false_iff]; left
              rw [List.all_eq_false]
              exact ⟨_, HMEM.out, by simp [planOk, hx]⟩)
            clear hx hsm
            go_wp2
            go_ret
            exact ⟨by rw [hf.out]; rfl, HB1.out⟩
        | false =>
          have hf : Hid (fineB l = false) := Lib.hid (by
            unfold fineB
            rw [Bool.and_eq_false_iff]; right
            rw [Bool.and_eq_false_iff]; left
            rw [List.all_eq_false]
            exact ⟨_, HMEM.out, by simp [planOk, hsm]⟩)
          clear hsm
          go_wp2
          go_ret
          exact ⟨by rw [hf.out]; rfl, HB1.out⟩
      · obtain rfl : k = l.length := by omega
        rw [List.take_length] at hall hsum ⊢
        have hf : Hid (fineB l = decide ((kidsSum l : Int) ≤ 14)) := Lib.hid (by unfold fineB; rw [hall, decide_eq_true HL.out]; simp; omega)
        clear hlt hall
        go_wp2
        go_ret
        exact ⟨by rw [hf.out]; rfl, hB⟩
  · have hg : (12 : Int) < (l.length : Int) := by omega
    have hf : Hid (fineB l = false) := Lib.hid (by simp [fineB, hl])
    clear hl hr
    go_enter Try.func6, Try.ntmps6
    go_wp2
    go_ret
    exact ⟨by rw [hf.out]; rfl, Below.refl _ _⟩
end Go.Proofs.Ytkblhilaeecdlaa

namespace Go.Proofs.Ytkblhilaeecdlaa
open Go.RowKit Go.Bw

set_option maxRecDepth 100000 in
set_option maxHeartbeats 400000 in
theorem awake_any (w : World) :
    Calls Try.prog 7 #[] w fun e w' => e = .returned (.bool true) ∧ Below w.heap.size w w' := by
  obtain ⟨W1, hW1⟩ : ∃ W1, w.alloc (.cells #[.int .u8 107] 5 (1, 2)) = W1 := ⟨_, rfl⟩
  have kc : (convert 52 52 (.slice (some ⟨w.heap.size, 0, none⟩) 1 1)).run Try.prog (w.alloc (.cells #[.int .u8 107] 5)) = .ok (.slice (some ⟨w.heap.size, 0, none⟩) 1 1) W1 := by
    rw [← hW1]; exact Lib.run_convert_bytes_const (P := Try.prog) w 52 5 #[.int .u8 107] 1 1 Try.underlying52 Try.underlying5
  have hB1 : Below w.heap.size w W1 := by rw [← hW1]; exact (Below.refl _ _).alloc (Nat.le_refl _) _
  have hrow : BytesAt AllB W1 (.slice (some ⟨w.heap.size, 0, none⟩) 1 1) [107] := by
    rw [← hW1]
    exact RowAt.single goodByte (cs := #[.int .u8 107]) (t := 5) (fr := (1, 2)) rfl trivial (heap_alloc_new w _)
  have CL : Hid (Calls Try.prog 17 #[.int .u64 5, .agg #[.slice (some ⟨w.heap.size, 0, none⟩) 1 1, .slice none 0 0]] W1 (Gives W1 fun r w' => NodeAt nt (fun k => W1.heap.size ≤ k) w' r (.leaf 5 ([107], [])))) := Lib.hid
    (leaf_any (h := 5) (p := ([107], [])) W1 hrow RowAt.nil (by simp) (by simp))
  have HB1 := Lib.hid hB1
  clear hrow hW1 hB1
  go_enter Try.func7, Try.ntmps7
  go_wp2_with fail
  refine CL.out.mono ?_
  rintro e w1 ⟨q, rfl, hq, hb1⟩
  have hqq := hq
  simp only [NodeAt] at hqq
  obtain ⟨b, u1, u2, rfl, _⟩ := hqq
  have CI2 := Lib.hid (fun W (hW : Below w1.heap.size w1 W) => is_any (n := some (.leaf 5 ([107], []))) 2 (NodeAt.move (Moves.below hW) _ _ hq))
  have CI1 := Lib.hid (fun W (hW : Below w1.heap.size w1 W) => is_any (n := some (.leaf 5 ([107], []))) 1 (NodeAt.move (Moves.below hW) _ _ hq))
  have HB2 := Lib.hid (HB1.out.trans (hb1.mono HB1.out.size))
  have hm := kindm_leaf
  clear hq hb1
  go_wp2_with fail
  refine (kind_leaf _ _).mono ?_
  rintro e w2 ⟨rfl, rfl⟩
  go_wp2_with fail
  refine (CI2.out _ (Below.refl _ _)).mono ?_
  rintro e w3 ⟨rfl, hb3⟩
  rw [if_neg (by simp [kindO])]
  go_wp2_with fail
  refine (CI1.out _ hb3).mono ?_
  rintro e w4 ⟨rfl, hb4⟩
  rw [if_pos (by simp [kindO])]
  have HB4 := Lib.hid (HB2.out.trans ((hb3.trans (hb4.mono hb3.size)).mono HB2.out.size))
  clear hb3 hb4
  go_wp2
  go_ret
  exact ⟨rfl, HB4.out⟩

mutual
def _root_.Bw.X.count : Bw.X → Nat
  | .mk _ _ ps _ kids => ps.length + Bw.X.countL kids
def _root_.Bw.X.countL : List Bw.X → Nat
  | [] => 0
  | k :: r => k.count + Bw.X.countL r
end
theorem _root_.Bw.X.countL_append (a b : List Bw.X) : Bw.X.countL (a ++ b) = Bw.X.countL a + Bw.X.countL b := by
  induction a with
  | nil => simp [Bw.X.countL]
  | cons k r ih => simp [Bw.X.countL, ih]; omega

def CountRel (n0 : Nat) (kids : List Bw.X) (w : World) (n i : Value) (wr : World) : Prop :=
  ∃ k : Nat, k ≤ kids.length ∧ i = .int .i64 k ∧ n = .int .i64 (n0 + Bw.X.countL (kids.take k) : Nat) ∧ Below w.heap.size w wr

theorem _root_.Bw.X.countL_take (l : List Bw.X) (k : Nat) : Bw.X.countL (l.take k) ≤ Bw.X.countL l := by
  conv => rhs; rw [← List.take_append_drop k l, Bw.X.countL_append]
  omega
theorem _root_.Bw.X.countL_mem {l : List Bw.X} {x : Bw.X} (h : x ∈ l) : x.count ≤ Bw.X.countL l := by
  induction l with
  | nil => simp at h
  | cons k r ih =>
    simp only [Bw.X.countL]
    rcases List.mem_cons.1 h with rfl | h
    · omega
    · have := ih h; omega

theorem int_succM {k n : Nat} (h : k < n) (hn : n ≤ maxLen) : Value.int .i64 (wrap64 ((k : Int) + 1)) = .int .i64 ((k + 1 : Nat) : Int) := by
  unfold maxLen at hn
  rw [show wrap64 ((k : Int) + 1) = ((k + 1 : Nat) : Int) by unfold wrap64; omega]
theorem less_succM {k n : Nat} (h : k < n) (hn : n ≤ maxLen) : n - (intOf (.int .i64 (wrap64 ((k : Int) + 1)))).toNat < n - (intOf (.int .i64 (k : Int))).toNat := by
  unfold maxLen at hn
  rw [show wrap64 ((k : Int) + 1) = ((k + 1 : Nat) : Int) by unfold wrap64; omega]; simp only [intOf, Int.toNat_natCast]; omega

set_option maxRecDepth 100000 in
set_option maxHeartbeats 400000 in
theorem rcount_step {ok : Nat → Prop} {k h : Nat} {ps : List Bw.PV} {set : List Nat} {kids : List Bw.X} {cs : List Value} {w : World} (hx : xK ok w (.mk k h ps set kids) cs) (hc : Bw.X.count (.mk k h ps set kids) ≤ 4611686018427387904)
    (ih : ∀ y ∈ kids, ∀ cs W, xK ok W y cs → Calls Try.prog 10 #[.agg cs.toArray] W fun e w' => e = .returned (.int .i64 (y.count : Nat)) ∧ Below W.heap.size W w') :
    Calls Try.prog 10 #[.agg cs.toArray] w fun e w' => e = .returned (.int .i64 (Bw.X.count (.mk k h ps set kids) : Nat)) ∧ Below w.heap.size w w' := by
  rw [xK_iff] at hx
  obtain ⟨vp, vs, vk, rfl, hp, hs, hk⟩ := hx
  obtain ⟨A1, c1, rfl⟩ := hp.form
  obtain ⟨A2, c2, rfl⟩ := hs.form
  obtain ⟨A3, c3, rfl⟩ := hk.form
  have HK := Lib.hid hk
  have HC := Lib.hid hc
  have HIH := Lib.hid ih
  have HMX : Hid (kids.length ≤ maxLen) := Lib.hid (Nat.le_trans hk.cap.2.1 hk.cap.2.2)
  have hB0 : Below w.heap.size w (w.alloc (.cells #[.int .i64 (k : Nat), .int .u64 (h : Nat), .slice A1 ps.length c1, .slice A2 set.length c2, .slice A3 kids.length c3] 32)) := by (repeat (first | exact Below.refl _ _ | with_reducible assumption | refine Below.drew ?_ | refine b_drewN ?_ _ | (refine Below.alloc ?_ (by simp) _) | (refine Below.alloc ?_ (by simp; omega) _)))
  have H0 : Hid (CountRel ps.length kids w (.int .i64 (ps.length : Nat)) (.int .i64 0) (w.alloc (.cells #[.int .i64 (k : Nat), .int .u64 (h : Nat), .slice A1 ps.length c1, .slice A2 set.length c2, .slice A3 kids.length c3] 32))) := Lib.hid ⟨0, Nat.zero_le _, rfl, by simp [Bw.X.countL], hB0⟩
  clear hk hc ih hp hs hB0
  go_enter Try.func10, Try.ntmps10
  go_wp2_with fail
  go_loopw [3, 12] (CountRel ps.length kids w) (fun _ i _ => kids.length - (intOf i).toNat)
  case atStart => exact H0.out
  case round =>
    obtain ⟨j, hj, rfl, rfl, hB⟩ := hrel
    by_cases hlt : j < kids.length
    · obtain ⟨b, o, cs, rfl, hy, hcells⟩ := HK.out.get (List.getElem?_eq_getElem hlt)
      have hmem : kids[j] ∈ kids := List.getElem_mem hlt
      have hs : kids.take (j + 1) = kids.take j ++ [kids[j]] := take_succ_snoc hlt
      have hct := Bw.X.countL_take kids (j + 1)
      have hct2 := Bw.X.countL_mem hmem
      have CI := fun W (hW : Below w.heap.size w W) => HIH.out _ hmem cs W (XAt.move (Moves.below hW) _ _ hy)
      generalize kids[j] = y at *
      obtain ⟨yk, yh, yp, ys, yy⟩ := y
      rw [xK_iff] at hy
      obtain ⟨yvp, yvs, yvk, rfl, h1, h2, h3⟩ := hy
      obtain ⟨B1, e1, rfl⟩ := h1.form
      obtain ⟨B2, e2, rfl⟩ := h2.form
      obtain ⟨B3, e3, rfl⟩ := h3.form
      have c0 := (hcells 0 _ rfl).2; have c1 := (hcells 1 _ rfl).2; have c2 := (hcells 2 _ rfl).2; have c3 := (hcells 3 _ rfl).2; have c4 := (hcells 4 _ rfl).2
      have hbl := World.block_lt_of_cell? w _ c0
      dsimp only at hbl
      have d0 := (hB.cell (p := ⟨b, o + (j * 5 + 0), none⟩) hbl).trans c0
      have d1 := (hB.cell (p := ⟨b, o + (j * 5 + 1), none⟩) hbl).trans c1
      have d2 := (hB.cell (p := ⟨b, o + (j * 5 + 2), none⟩) hbl).trans c2
      have d3 := (hB.cell (p := ⟨b, o + (j * 5 + 3), none⟩) hbl).trans c3
      have d4 := (hB.cell (p := ⟨b, o + (j * 5 + 4), none⟩) hbl).trans c4
      simp only [Nat.add_zero, ← Nat.add_assoc] at d0 d1 d2 d3 d4
      have hbl2 : b < wr.heap.size := Nat.lt_of_lt_of_le hbl hB.size
      have h0 : (0 : Int) ≤ (j : Int) := by omega
      have h1' : (j : Int) < (kids.length : Int) := by omega
      have hcl : Bw.X.countL (kids.take (j + 1)) = Bw.X.countL (kids.take j) + Bw.X.count (.mk yk yh yp ys yy) := by rw [hs, Bw.X.countL_append]; simp [Bw.X.countL]
      have HCL := Lib.hid hcl
      have HCI := Lib.hid CI
      have HB := Lib.hid hB
      have hle : ps.length + Bw.X.countL (kids.take (j + 1)) ≤ 4611686018427387904 := by have := HC.out; simp only [Bw.X.count] at this; omega
      have hw : wrap64 (((ps.length : Nat) : Int) + ((Bw.X.countL (kids.take j) : Nat) : Int) + ((Bw.X.count (.mk yk yh yp ys yy) : Nat) : Int)) = ((ps.length + Bw.X.countL (kids.take (j + 1)) : Nat) : Int) := by unfold wrap64; omega
      have HW := Lib.hid hw
      generalize Bw.X.count (.mk yk yh yp ys yy) = yc at *
      clear h1 h2 h3 c0 c1 c2 c3 c4 hcells CI hs hct hct2 hcl hmem hle hB hw
      go_wp2_with fail
      refine (HCI.out _ (HB.out.trans (Below.mono (by (repeat (first | exact Below.refl _ _ | with_reducible assumption | refine Below.drew ?_ | refine b_drewN ?_ _ | (refine Below.alloc ?_ (by simp) _) | (refine Below.alloc ?_ (by simp; omega) _)))) HB.out.size))).mono ?_
      rintro e w2 ⟨rfl, hb2⟩
      have HB2 := Lib.hid (HB.out.trans (Below.mono (Below.trans (b := wr.alloc (.cells #[.int .i64 (yk : Nat), .int .u64 (yh : Nat), .slice B1 yp.length e1, .slice B2 ys.length e2, .slice B3 yy.length e3] 32)) (by (repeat (first | exact Below.refl _ _ | with_reducible assumption | refine Below.drew ?_ | refine b_drewN ?_ _ | (refine Below.alloc ?_ (by simp) _) | (refine Below.alloc ?_ (by simp; omega) _)))) (hb2.mono (by simp))) HB.out.size))
      clear hb2
      go_wp2
      exact ⟨⟨j + 1, hlt, int_succM hlt HMX.out, by rw [HW.out], HB2.out⟩, less_succM hlt HMX.out⟩
    · obtain rfl : j = kids.length := by omega
      have HE : Hid (ps.length + Bw.X.countL (kids.take kids.length) = Bw.X.count (.mk k h ps set kids)) := Lib.hid (by rw [List.take_length]; simp [Bw.X.count])
      clear hlt
      go_wp2
      go_ret
      exact ⟨by rw [← HE.out]; rfl, hB⟩

theorem rcount_any {ok : Nat → Prop} (x : Bw.X) : ∀ (cs : List Value) (w : World), xK ok w x cs → x.count ≤ 4611686018427387904 →
    Calls Try.prog 10 #[.agg cs.toArray] w fun e w' => e = .returned (.int .i64 (x.count : Nat)) ∧ Below w.heap.size w w' := by
  refine Bw.X.ind (P := fun x => ∀ (cs : List Value) (w : World), xK ok w x cs → x.count ≤ 4611686018427387904 →
    Calls Try.prog 10 #[.agg cs.toArray] w fun e w' => e = .returned (.int .i64 (x.count : Nat)) ∧ Below w.heap.size w w') ?_ x
  intro k h p s kids ih cs w hx hc
  refine rcount_step hx hc fun y hy cs W hyx => ih y hy cs W hyx ?_
  have := Bw.X.countL_mem hy
  simp only [Bw.X.count] at hc
  omega
end Go.Proofs.Ytkblhilaeecdlaa
