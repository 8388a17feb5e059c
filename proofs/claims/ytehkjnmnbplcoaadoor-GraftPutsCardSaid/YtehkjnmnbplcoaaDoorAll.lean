
import Derived.RangeFuncNested
import Derived.RangeFuncBound
import Derived.RangeFuncCalls
import Derived.RangeFuncLeaves
import Derived.Shelf.Abstract
import Derived.Shelf.RegionOpen
import Derived.WalkKit
import Derived.OwnWalkIn
import Derived.TacticsInMore
import Derived.LoopNIn
import Derived.LoopIn
import Derived.Test.YtehkjnmnbplcoaaDoorTz
namespace Go.Proofs.YtehkjnmnbplcoaaDoor
open Go.RowKit Go.Bw Go.Shelf
attribute [local go_sem] Oper.semAt_some

theorem all_in (n m : Nat) (w : World) :
    CallsIn Fence.wide n Tryd.prog 100 #[.int .u32 (m : Nat)] w fun e w' => e = .returned (.func (.func 117) #[] #[.pointer (some ⟨w.heap.size, 0, none⟩)]) ∧ w' = w.alloc (.cells #[.int .u32 (m : Nat)] 68) := by
  refine callsIn_of_wp Tryd.func100 rfl trivial ?_ rfl
  simp only [Tryd.ntmps100, List.size_toArray, List.length_cons, List.length_nil, Nat.reduceAdd, Nat.reduceSub, Array.replicate_succ, Array.replicate_zero, List.push_toArray, List.append_toArray, List.nil_append, List.cons_append]
  gi_wp2
  go_ret
  exact ⟨rfl, rfl⟩

def leftOf : Value → Nat
  | .int _ x => x.toNat
  | _ => 0

set_option maxRecDepth 100000 in
set_option maxHeartbeats 1000000 in
theorem all1_in (n : Nat) (hn : 1 ≤ n) (l Bn n₀ : Nat) (m : Nat) (hm : m < 4294967296) (h0 : 0 < n₀) (J Jx : List Nat → World → Prop)
    (hY : ∀ pre x W, J pre W → pre.length < (Bw.bitsOf m).length → YieldAt Fence.wide (n - 1) Tryd.prog l #[.int .i64 (x : Nat)] W fun e W' =>
      (e = .returned (.bool true) ∧ J (pre ++ [x]) W' ∧ Below n₀ W W') ∨ (e = .returned (.bool false) ∧ Jx (pre ++ [x]) W'))
    (W : World) (hBn : W.cell? ⟨Bn, 0, none⟩ = some (.int .u32 (m : Nat))) (hT : Tab W) (hJ0 : J [] W) :
    CallsIn Fence.wide n Tryd.prog 117 #[.func (.yield l) #[] #[], .pointer (some ⟨Bn, 0, none⟩)] W fun e W' => (∃ v, e = .returned v) ∧
      ((∃ ys, ys = Bw.bitsOf m ∧ J ys W') ∨ (∃ pre, pre <+: Bw.bitsOf m ∧ Jx pre W')) := by
  refine callsIn_of_wp Tryd.func117 rfl trivial ?_ rfl
  simp only [Tryd.ntmps117, List.size_toArray, List.length_cons, List.length_nil, Nat.reduceAdd, Nat.reduceSub, Array.replicate_succ, Array.replicate_zero, List.push_toArray, List.append_toArray, List.nil_append, List.cons_append]
  gi_wp2
  gi_loopw [3] (fun p wr => ∃ (pre : List Nat) (x : Nat), p = .int .u32 (x : Nat) ∧ x < 4294967296 ∧ Bw.bitsOf m = pre ++ Bw.bitsOf x ∧ J pre wr ∧ Tab wr)
    (fun p _ => leftOf p)
  case atStart =>
    exact ⟨[], m, rfl, hm, rfl, hJ0, hT⟩
  case round =>
    obtain ⟨pre, x, rfl, hx, hb, hJs, hTs⟩ := hrel
    rcases Nat.eq_zero_or_pos x with rfl | hpos
    · gi_wp2
      go_end0
      exact ⟨⟨_, rfl⟩, .inl ⟨pre, by rw [hb, Bw.bitsOf_zero, List.append_nil], hJs⟩⟩
    · have hst := Bw.bitsOf_step x hpos hx
      have hlt := Bw.pred_lt x hpos
      rw [hst] at hb
      obtain ⟨fn, tmps, assign, body, hy, hR⟩ := hY pre (Bw.low 32 x) wr hJs (by rw [hb]; simp)
      have hne : ((x : Int) == 0) = false := by rw [beq_eq_false_iff_ne]; omega
      have C := Lib.hid (tz_any x hpos hx wr hTs)
      clear hst hY
      have HB := Lib.hid hb
      clear hb
      gi_wp2_with (refine ⟨trivial, ?_⟩; gi_at_call 118; refine (callsIn_wide.2 C.out).mono ?_; rintro e w' ⟨rfl, rfl⟩)
      refine hR.mono ?_
      rintro e W3 (⟨rfl, hJ3, hk3⟩ | ⟨rfl, hJx3⟩)
      · gi_wp2
        have he : bits .and .u32 (x : Int) ((x : Int) - 1) = ((x &&& (x - 1) : Nat) : Int) := by
          rw [show (x : Int) - 1 = ((x - 1 : Nat) : Int) by omega, and_u32 x _ hx (by omega)]
        rw [he]
        refine ⟨⟨pre ++ [Bw.low 32 x], _, rfl, by omega, by rw [HB.out]; simp, hJ3, hTs.below h0 hk3⟩, ?_⟩
        simp only [leftOf]
        omega
      · gi_wp2
        refine bodyPost_ret (results_none rfl _ _ _) rfl ?_
        exact ⟨⟨_, rfl⟩, .inr ⟨pre ++ [Bw.low 32 x], ⟨Bw.bitsOf (x &&& (x - 1)), by rw [HB.out]; simp⟩, hJx3⟩⟩

theorem all_stops (n : Nat) (hn : 1 ≤ n) (Bn n₀ m : Nat) (hm : m < 4294967296) (h0 : 0 < n₀) (w : World) (hBn : Bn < w.heap.size)
    (hc : w.cell? ⟨Bn, 0, none⟩ = some (.int .u32 (m : Nat))) (hT : Tab w) :
    SeqStopsK Fence.wide n Tryd.prog 117 #[.pointer (some ⟨Bn, 0, none⟩)] (fun x : Nat => #[Value.int .i64 (x : Nat)]) (Below n₀) (fun ys => ys = Bw.bitsOf m) (fun pre => pre <+: Bw.bitsOf m) (Bw.bitsOf m).length w := fun l J Jx W hW _ _ hY hJ0 =>
  all1_in n hn l Bn n₀ m hm h0 J Jx hY W ((hW.cell (p := ⟨Bn, 0, none⟩) hBn).trans hc) (hT.below hT.pos hW) hJ0
end Go.Proofs.YtehkjnmnbplcoaaDoor
