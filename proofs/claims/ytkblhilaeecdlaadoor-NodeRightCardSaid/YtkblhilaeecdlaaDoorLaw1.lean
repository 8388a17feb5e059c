
import Derived.Test.YtkblhilaeecdlaaDoorRef5
import Derived.Test.YtkblhilaeecdlaaDoorIs
namespace Go.Proofs.YtkblhilaeecdlaaDoor
open Go.RowKit Go.Bw

def pairOk (p : Bw.PV) : Bool := decide (p.1.length ≤ 100) && decide (p.2.length ≤ 100)
def smallB (l : List Bw.PV) (most : Nat) : Bool := decide (l.length ≤ most) && l.all pairOk

def SmRel (l : List Bw.PV) (w : World) (i : Value) (wr : World) : Prop :=
  ∃ k : Nat, k ≤ l.length ∧ i = .int .i64 k ∧ (l.take k).all pairOk = true ∧ Below w.heap.size w wr

set_option maxRecDepth 100000 in
set_option maxHeartbeats 400000 in
theorem small_any {ok : Nat → Prop} {l : List Bw.PV} {v : Value} {w : World} (most : Nat) (hmost : most ≤ 1048576) (hr : PairsAt ok w v l) :
    Calls Tryd.prog 9 #[v, .int .i64 (most : Nat)] w fun e w' => e = .returned (.bool (smallB l most)) ∧ Below w.heap.size w w' := by
  obtain ⟨A, c, rfl⟩ := hr.form
  by_cases hl : l.length ≤ most
  · have hg : ¬ ((most : Int) < (l.length : Int)) := by omega
    have HL : Hid (l.length ≤ 1048576) := Lib.hid (by omega)
    have HM := Lib.hid hl
    have HR := Lib.hid hr
    have H0 : Hid (SmRel l w (.int .i64 0) w) := Lib.hid ⟨0, Nat.zero_le _, rfl, rfl, Below.refl _ _⟩
    clear hl hr hmost
    go_enter Tryd.func9, Tryd.ntmps9
    go_wp2_with fail
    go_loopw [13] (SmRel l w) (fun i _ => l.length - (intOf i).toNat)
    case atStart => exact H0.out
    case round =>
      obtain ⟨k, hk, rfl, hall, hB⟩ := hrel
      by_cases hlt : k < l.length
      · obtain ⟨b, o, u1, u2, rfl, hob, c0, c1, hu, hv⟩ := pair_get HR.out (List.getElem?_eq_getElem hlt)
        obtain ⟨U1, cu1, rfl⟩ := hu.form
        obtain ⟨U2, cu2, rfl⟩ := hv.form
        have hbl := World.block_lt_of_cell? w _ c0
        dsimp only at hbl
        have d0 := (hB.cell (p := ⟨b, o + k * 2, none⟩) hbl).trans c0
        have d1 := (hB.cell (p := ⟨b, o + k * 2 + 1, none⟩) hbl).trans c1
        have hbl2 : b < wr.heap.size := Nat.lt_of_lt_of_le hbl hB.size
        have h0 : (0 : Int) ≤ (k : Int) := by omega
        have h1 : (k : Int) < (l.length : Int) := by omega
        have hs : l.take (k + 1) = l.take k ++ [l[k]] := take_succ_snoc hlt
        have hmem : l[k] ∈ l := List.getElem_mem hlt
        generalize l[k] = q at *
        obtain ⟨qx, qy⟩ := q
        have hB2 : Below w.heap.size w (wr.alloc (.cells #[.slice U1 qx.length cu1, .slice U2 qy.length cu2] 47)) := hB.trans (Below.mono (by (repeat (first | exact Below.refl _ _ | with_reducible assumption | refine Below.drew ?_ | refine b_drewN ?_ _ | (refine Below.alloc ?_ (by simp) _) | (refine Below.alloc ?_ (by simp; omega) _)))) hB.size)
        have HB := Lib.hid hB2
        have HALL := Lib.hid hall
        have HS := Lib.hid hs
        clear hu hv c0 c1 hs hall hB hB2
        dsimp only at *
        by_cases hx : qx.length ≤ 100
        · have hx1 : ¬ (100 : Int) < (qx.length : Int) := by omega
          by_cases hy : qy.length ≤ 100
          · have hy1 : ¬ (100 : Int) < (qy.length : Int) := by omega
            have hq : pairOk (qx, qy) = true := by simp [pairOk, hx, hy]
            have HA2 : Hid ((l.take (k + 1)).all pairOk = true) := Lib.hid (by rw [HS.out, List.all_append, HALL.out]; simp [hq])
            clear hx hy hq
            go_wp2
            exact ⟨⟨k + 1, hlt, int_succ hlt HL.out, HA2.out, HB.out⟩, less_succ hlt HL.out⟩
          · have hy1 : (100 : Int) < (qy.length : Int) := by omega
            have hf : Hid (smallB l most = false) := Lib.hid (by
              unfold smallB
              rw [Bool.and_eq_false_iff]; right
              rw [List.all_eq_false]
              exact ⟨_, hmem, by simp [pairOk, hy]⟩)
            clear hx hy hmem
            go_wp2
            go_ret
            exact ⟨by rw [hf.out]; rfl, HB.out⟩
        · have hx1 : (100 : Int) < (qx.length : Int) := by omega
          have hf : Hid (smallB l most = false) := Lib.hid (by
            unfold smallB
            rw [Bool.and_eq_false_iff]; right
            rw [List.all_eq_false]
            exact ⟨_, hmem, by simp [pairOk, hx]⟩)
          clear hx hmem
          go_wp2
          go_ret
          exact ⟨by rw [hf.out]; rfl, HB.out⟩
      · obtain rfl : k = l.length := by omega
        rw [List.take_length] at hall
        have hf : Hid (smallB l most = true) := Lib.hid (by simp only [smallB, hall, HM.out]; simp)
        clear hlt hall
        go_wp2
        go_ret
        exact ⟨by rw [hf.out]; rfl, hB⟩
  · have hg : (most : Int) < (l.length : Int) := by omega
    have hf : Hid (smallB l most = false) := Lib.hid (by simp [smallB, hl])
    clear hl hr hmost
    go_enter Tryd.func9, Tryd.ntmps9
    go_wp2
    go_ret
    exact ⟨by rw [hf.out]; rfl, Below.refl _ _⟩

def planOk (p : Bw.Plan) : Bool := smallB p.pairs 12 && decide (p.kids.length ≤ 6)
def kidsSum (l : List Bw.Plan) : Nat := (l.map fun p => p.kids.length).sum
def fineB (l : List Bw.Plan) : Bool := decide (l.length ≤ 12) && (l.all planOk && decide (kidsSum l ≤ 14))

def FineRel (l : List Bw.Plan) (w : World) (n i : Value) (wr : World) : Prop :=
  ∃ k : Nat, k ≤ l.length ∧ i = .int .i64 k ∧ n = .int .i64 (kidsSum (l.take k) : Nat) ∧ kidsSum (l.take k) ≤ 6 * k ∧ (l.take k).all planOk = true ∧ Below w.heap.size w wr

set_option maxRecDepth 100000 in
set_option maxHeartbeats 400000 in
theorem fine_any {ok : Nat → Prop} {l : List Bw.Plan} {v : Value} {w : World} (hr : PlansAt ok w v l) :
    Calls Tryd.prog 4 #[v] w fun e w' => e = .returned (.bool (fineB l)) ∧ Below w.heap.size w w' := by
  obtain ⟨A, c, rfl⟩ := hr.form
  by_cases hl : l.length ≤ 12
  · have hg : ¬ ((12 : Int) < (l.length : Int)) := by omega
    have HL := Lib.hid hl
    have HR := Lib.hid hr
    have H0 : Hid (FineRel l w (.int .i64 0) (.int .i64 0) w) := Lib.hid ⟨0, Nat.zero_le _, rfl, rfl, Nat.le_refl _, rfl, Below.refl _ _⟩
    clear hl hr
    go_enter Tryd.func4, Tryd.ntmps4
    go_wp2_with fail
    go_loopw [3, 11] (FineRel l w) (fun _ i _ => l.length - (intOf i).toNat)
    case atStart => exact H0.out
    case round =>
      obtain ⟨k, hk, rfl, rfl, hsum, hall, hB⟩ := hrel
      by_cases hlt : k < l.length
      · obtain ⟨b, o, vp, vk, rfl, hob, c0, c1, c2, c3, c4, hp, hkk⟩ := plan_get HR.out (List.getElem?_eq_getElem hlt)
        obtain ⟨U1, cu1, rfl⟩ := hp.form
        obtain ⟨U2, cu2, rfl⟩ := hkk.form
        have hbl := World.block_lt_of_cell? w _ c0
        dsimp only at hbl
        have d0 := (hB.cell (p := ⟨b, o + k * 5, none⟩) hbl).trans c0
        have d1 := (hB.cell (p := ⟨b, o + k * 5 + 1, none⟩) hbl).trans c1
        have d2 := (hB.cell (p := ⟨b, o + k * 5 + 2, none⟩) hbl).trans c2
        have d3 := (hB.cell (p := ⟨b, o + k * 5 + 3, none⟩) hbl).trans c3
        have d4 := (hB.cell (p := ⟨b, o + k * 5 + 4, none⟩) hbl).trans c4
        have hbl2 : b < wr.heap.size := Nat.lt_of_lt_of_le hbl hB.size
        have h0 : (0 : Int) ≤ (k : Int) := by omega
        have h1 : (k : Int) < (l.length : Int) := by omega
        have hs : l.take (k + 1) = l.take k ++ [l[k]] := take_succ_snoc hlt
        have hmem : l[k] ∈ l := List.getElem_mem hlt
        generalize l[k] = q at *
        obtain ⟨qb, qh, qp, qs, qk⟩ := q
        dsimp only at *
        obtain ⟨WP, hWP⟩ : ∃ WP, (wr.alloc (.cells #[.bool qb, .int .u64 (qh : Nat), .slice U1 qp.length cu1, .int .u32 (qs : Nat), .slice U2 qk.length cu2] 42)) = WP := ⟨_, rfl⟩
        have hB2 : Below wr.heap.size wr WP := by rw [← hWP]; (repeat (first | exact Below.refl _ _ | with_reducible assumption | refine Below.drew ?_ | refine b_drewN ?_ _ | (refine Below.alloc ?_ (by simp) _) | (refine Below.alloc ?_ (by simp; omega) _)))
        have hsz : wr.heap.size < WP.heap.size := by rw [← hWP]; simp
        have e2 : WP.cell? ⟨wr.heap.size, 2, none⟩ = some (.slice U1 qp.length cu1) := by rw [← hWP]; exact cell_new wr 0 _ _ 2 _ rfl
        have e4 : WP.cell? ⟨wr.heap.size, 4, none⟩ = some (.slice U2 qk.length cu2) := by rw [← hWP]; exact cell_new wr 0 _ _ 4 _ rfl
        have hB3 : Below w.heap.size w WP := hB.trans (hB2.mono hB.size)
        have CS := Lib.hid (small_any 12 (by decide) (hp.move goodPair (Moves.below hB3)))
        have HB := Lib.hid hB3
        have HALL := Lib.hid hall
        have HS := Lib.hid hs
        have HSUM := Lib.hid hsum
        have HWP := Lib.hid hWP
        have HMEM := Lib.hid hmem
        have hsum2 : kidsSum (l.take (k + 1)) = kidsSum (l.take k) + qk.length := by rw [hs]; simp [kidsSum]
        have HSUM2 := Lib.hid hsum2
        clear hp hkk c0 c1 c2 c3 c4 hs hall hB hB2 hB3 hsum2 hWP hmem
        go_wp2_with fail
        rw [HWP.out]
        refine CS.out.mono ?_
        rintro e w1 ⟨rfl, hb1⟩
        have f4 := (hb1.cell (p := ⟨wr.heap.size, 4, none⟩) hsz).trans e4
        have hsz1 : wr.heap.size < w1.heap.size := Nat.lt_of_lt_of_le hsz hb1.size
        have HB1 := Lib.hid (HB.out.trans (hb1.mono HB.out.size))
        clear e2 e4 hb1 d0 d1 d2 d3 d4
        cases hsm : smallB qp 12 with
        | true =>
          by_cases hx : qk.length ≤ 6
          · have hx1 : ¬ (6 : Int) < (qk.length : Int) := by omega
            have hq : planOk ⟨qb, qh, qp, qs, qk⟩ = true := by simp [planOk, hsm, hx]
            have HA2 : Hid ((l.take (k + 1)).all planOk = true) := Lib.hid (by rw [HS.out, List.all_append, HALL.out]; simp [hq])
            have hw : IntKind.i64.wrap (((kidsSum (l.take k) : Nat) : Int) + (qk.length : Int)) = ((kidsSum (l.take (k + 1)) : Nat) : Int) := by rw [IntKind.wrap_i64, HSUM2.out]; have := HSUM.out; have := HL.out; omega
            have HS6 : Hid (kidsSum (l.take (k + 1)) ≤ 6 * (k + 1)) := Lib.hid (by rw [HSUM2.out]; have := HSUM.out; omega)
            generalize hs2 : kidsSum (l.take (k + 1)) = s2 at *
            have HS22 := Lib.hid hs2
            clear hs2
            clear hx hq hsm HSUM2
            go_wp2
            exact ⟨⟨k + 1, hlt, by rw [Int.natCast_add]; rfl, by rw [HS22.out], by rw [HS22.out]; exact HS6.out, HA2.out, HB1.out⟩, by simp only [intOf]; omega⟩
          · have hx1 : (6 : Int) < (qk.length : Int) := by omega
            have hf : Hid (fineB l = false) := Lib.hid (by
              unfold fineB
              rw [Bool.and_eq_false_iff]; right
              rw [Bool.and_eq_false_iff]; left
              rw [List.all_eq_false]
              exact ⟨_, HMEM.out, by simp [planOk, hx]⟩)
            clear hx hsm
            go_wp2
            go_ret
            exact ⟨by rw [hf.out]; rfl, HB1.out⟩
        | false =>
          have hf : Hid (fineB l = false) := Lib.hid (by
            unfold fineB
            rw [Bool.and_eq_false_iff]; right
            rw [Bool.and_eq_false_iff]; left
            rw [List.all_eq_false]
            exact ⟨_, HMEM.out, by simp [planOk, hsm]⟩)
          clear hsm
          go_wp2
          go_ret
          exact ⟨by rw [hf.out]; rfl, HB1.out⟩
      · obtain rfl : k = l.length := by omega
        rw [List.take_length] at hall hsum ⊢
        have hf : Hid (fineB l = decide ((kidsSum l : Int) ≤ 14)) := Lib.hid (by unfold fineB; rw [hall, decide_eq_true HL.out]; simp; omega)
        clear hlt hall
        go_wp2
        go_ret
        exact ⟨by rw [hf.out]; rfl, hB⟩
  · have hg : (12 : Int) < (l.length : Int) := by omega
    have hf : Hid (fineB l = false) := Lib.hid (by simp [fineB, hl])
    clear hl hr
    go_enter Tryd.func4, Tryd.ntmps4
    go_wp2
    go_ret
    exact ⟨by rw [hf.out]; rfl, Below.refl _ _⟩
end Go.Proofs.YtkblhilaeecdlaaDoor
