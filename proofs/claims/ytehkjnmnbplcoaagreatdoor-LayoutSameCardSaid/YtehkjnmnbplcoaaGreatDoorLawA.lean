
import Derived.Test.YtehkjnmnbplcoaaGreatDoorRefA
import Derived.Test.YtehkjnmnbplcoaaGreatDoorNodeC
import Derived.Lib.SlBytesConst
namespace Go.Proofs.YtehkjnmnbplcoaaGreatDoor
open Go.RowKit Go.Bw

def pairOk (p : Bw.PV) : Bool := decide (p.1.length ≤ 100) && decide (p.2.length ≤ 100)
def smallB (l : List Bw.PV) (most : Nat) : Bool := decide (l.length ≤ most) && l.all pairOk

def SmRel (l : List Bw.PV) (w : World) (i : Value) (wr : World) : Prop :=
  ∃ k : Nat, k ≤ l.length ∧ i = .int .i64 k ∧ (l.take k).all pairOk = true ∧ Below w.heap.size w wr

set_option maxRecDepth 100000 in
set_option maxHeartbeats 400000 in
theorem small_any {ok : Nat → Prop} {l : List Bw.PV} {v : Value} {w : World} (most : Nat) (hmost : most ≤ 1048576) (hr : PairsAt ok w v l) :
    Calls Tryz.prog 21 #[v, .int .i64 (most : Nat)] w fun e w' => e = .returned (.bool (smallB l most)) ∧ Below w.heap.size w w' := by
  obtain ⟨A, c, rfl⟩ := hr.form
  by_cases hl : l.length ≤ most
  · have hg : ¬ ((most : Int) < (l.length : Int)) := by omega
    have HL : Hid (l.length ≤ 1048576) := Lib.hid (by omega)
    have HM := Lib.hid hl
    have HR := Lib.hid hr
    have H0 : Hid (SmRel l w (.int .i64 0) w) := Lib.hid ⟨0, Nat.zero_le _, rfl, rfl, Below.refl _ _⟩
    clear hl hr hmost
    go_enter Tryz.func21, Tryz.ntmps21
    go_wp2_with fail
    go_loopw [13] (SmRel l w) (fun i _ => l.length - (intOf i).toNat)
    case atStart => exact H0.out
    case round =>
      obtain ⟨k, hk, rfl, hall, hB⟩ := hrel
      by_cases hlt : k < l.length
      · obtain ⟨b, o, u1, u2, rfl, hob, c0, c1, hu, hv⟩ := pair_get HR.out (List.getElem?_eq_getElem hlt)
        obtain ⟨U1, cu1, rfl⟩ := hu.form
        obtain ⟨U2, cu2, rfl⟩ := hv.form
        have hbl := World.block_lt_of_cell? w _ c0
        dsimp only at hbl
        have d0 := (hB.cell (p := ⟨b, o + k * 2, none⟩) hbl).trans c0
        have d1 := (hB.cell (p := ⟨b, o + k * 2 + 1, none⟩) hbl).trans c1
        have hbl2 : b < wr.heap.size := Nat.lt_of_lt_of_le hbl hB.size
        have h0 : (0 : Int) ≤ (k : Int) := by omega
        have h1 : (k : Int) < (l.length : Int) := by omega
        have hs : l.take (k + 1) = l.take k ++ [l[k]] := take_succ_snoc hlt
        have hmem : l[k] ∈ l := List.getElem_mem hlt
        generalize l[k] = q at *
        obtain ⟨qx, qy⟩ := q
        have hB2 : Below w.heap.size w (wr.alloc (.cells #[.slice U1 qx.length cu1, .slice U2 qy.length cu2] 31)) := hB.trans (Below.mono (by (repeat (first | exact Below.refl _ _ | with_reducible assumption | refine Below.drew ?_ | refine b_drewN ?_ _ | (refine Below.alloc ?_ (by simp) _) | (refine Below.alloc ?_ (by simp; omega) _)))) hB.size)
        have HB := Lib.hid hB2
        have HALL := Lib.hid hall
        have HS := Lib.hid hs
        clear hu hv c0 c1 hs hall hB hB2
        dsimp only at *
        by_cases hx : qx.length ≤ 100
        · have hx1 : ¬ (100 : Int) < (qx.length : Int) := by omega
          by_cases hy : qy.length ≤ 100
          · have hy1 : ¬ (100 : Int) < (qy.length : Int) := by omega
            have hq : pairOk (qx, qy) = true := by simp [pairOk, hx, hy]
            have HA2 : Hid ((l.take (k + 1)).all pairOk = true) := Lib.hid (by rw [HS.out, List.all_append, HALL.out]; simp [hq])
            clear hx hy hq
            go_wp2
            exact ⟨⟨k + 1, hlt, int_succ hlt HL.out, HA2.out, HB.out⟩, less_succ hlt HL.out⟩
          · have hy1 : (100 : Int) < (qy.length : Int) := by omega
            have hf : Hid (smallB l most = false) := Lib.hid (by
              unfold smallB
              rw [Bool.and_eq_false_iff]; right
              rw [List.all_eq_false]
              exact ⟨_, hmem, by simp [pairOk, hy]⟩)
            clear hx hy hmem
            go_wp2
            go_ret
            exact ⟨by rw [hf.out]; rfl, HB.out⟩
        · have hx1 : (100 : Int) < (qx.length : Int) := by omega
          have hf : Hid (smallB l most = false) := Lib.hid (by
            unfold smallB
            rw [Bool.and_eq_false_iff]; right
            rw [List.all_eq_false]
            exact ⟨_, hmem, by simp [pairOk, hx]⟩)
          clear hx hmem
          go_wp2
          go_ret
          exact ⟨by rw [hf.out]; rfl, HB.out⟩
      · obtain rfl : k = l.length := by omega
        rw [List.take_length] at hall
        have hf : Hid (smallB l most = true) := Lib.hid (by simp only [smallB, hall, HM.out]; simp)
        clear hlt hall
        go_wp2
        go_ret
        exact ⟨by rw [hf.out]; rfl, hB⟩
  · have hg : (most : Int) < (l.length : Int) := by omega
    have hf : Hid (smallB l most = false) := Lib.hid (by simp [smallB, hl])
    clear hl hr hmost
    go_enter Tryz.func21, Tryz.ntmps21
    go_wp2
    go_ret
    exact ⟨by rw [hf.out]; rfl, Below.refl _ _⟩

def planOk (p : Bw.Plan) : Bool := smallB p.pairs 12 && decide (p.kids.length ≤ 6)
def kidsSum (l : List Bw.Plan) : Nat := (l.map fun p => p.kids.length).sum
def fineB (l : List Bw.Plan) : Bool := decide (l.length ≤ 12) && (l.all planOk && decide (kidsSum l ≤ 14))

def FineRel (l : List Bw.Plan) (w : World) (n i : Value) (wr : World) : Prop :=
  ∃ k : Nat, k ≤ l.length ∧ i = .int .i64 k ∧ n = .int .i64 (kidsSum (l.take k) : Nat) ∧ kidsSum (l.take k) ≤ 6 * k ∧ (l.take k).all planOk = true ∧ Below w.heap.size w wr

end Go.Proofs.YtehkjnmnbplcoaaGreatDoor

namespace Go.Proofs.YtehkjnmnbplcoaaGreatDoor
open Go.RowKit Go.Bw

mutual
def _root_.Bw.X.count : Bw.X → Nat
  | .mk _ _ ps _ kids => ps.length + Bw.X.countL kids
def _root_.Bw.X.countL : List Bw.X → Nat
  | [] => 0
  | k :: r => k.count + Bw.X.countL r
end
theorem _root_.Bw.X.countL_append (a b : List Bw.X) : Bw.X.countL (a ++ b) = Bw.X.countL a + Bw.X.countL b := by
  induction a with
  | nil => simp [Bw.X.countL]
  | cons k r ih => simp [Bw.X.countL, ih]; omega

def CountRel (n0 : Nat) (kids : List Bw.X) (w : World) (n i : Value) (wr : World) : Prop :=
  ∃ k : Nat, k ≤ kids.length ∧ i = .int .i64 k ∧ n = .int .i64 (n0 + Bw.X.countL (kids.take k) : Nat) ∧ Below w.heap.size w wr

theorem _root_.Bw.X.countL_take (l : List Bw.X) (k : Nat) : Bw.X.countL (l.take k) ≤ Bw.X.countL l := by
  conv => rhs; rw [← List.take_append_drop k l, Bw.X.countL_append]
  omega
theorem _root_.Bw.X.countL_mem {l : List Bw.X} {x : Bw.X} (h : x ∈ l) : x.count ≤ Bw.X.countL l := by
  induction l with
  | nil => simp at h
  | cons k r ih =>
    simp only [Bw.X.countL]
    rcases List.mem_cons.1 h with rfl | h
    · omega
    · have := ih h; omega

theorem int_succM {k n : Nat} (h : k < n) (hn : n ≤ maxLen) : Value.int .i64 (wrap64 ((k : Int) + 1)) = .int .i64 ((k + 1 : Nat) : Int) := by
  unfold maxLen at hn
  rw [show wrap64 ((k : Int) + 1) = ((k + 1 : Nat) : Int) by unfold wrap64; omega]
theorem less_succM {k n : Nat} (h : k < n) (hn : n ≤ maxLen) : n - (intOf (.int .i64 (wrap64 ((k : Int) + 1)))).toNat < n - (intOf (.int .i64 (k : Int))).toNat := by
  unfold maxLen at hn
  rw [show wrap64 ((k : Int) + 1) = ((k + 1 : Nat) : Int) by unfold wrap64; omega]; simp only [intOf, Int.toNat_natCast]; omega

end Go.Proofs.YtehkjnmnbplcoaaGreatDoor
