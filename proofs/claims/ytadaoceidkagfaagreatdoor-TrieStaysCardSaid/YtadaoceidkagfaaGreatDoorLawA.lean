
import Derived.Test.YtadaoceidkagfaaGreatDoorRefA
import Derived.Test.YtadaoceidkagfaaGreatDoorNodeC
import Derived.Lib.SlBytesConst
namespace Go.Proofs.YtadaoceidkagfaaGreatDoor
open Go.RowKit Go.Bw
def pairOk (p : Bw.PV) : Bool := decide (p.1.length <= 100) && decide (p.2.length <= 100)
open Go.RowKit Go.Bw
mutual
def _root_.Bw.X.count : Bw.X -> Nat
  | .mk _ _ ps _ kids => ps.length + Bw.X.countL kids
def _root_.Bw.X.countL : List Bw.X -> Nat
  | [] => 0
  | k :: r => k.count + Bw.X.countL r
end
theorem int_succM {k n : Nat} (h : k < n) (hn : n <= maxLen) : Value.int .i64 (wrap64 ((k : Int) + 1)) = .int .i64 ((k + 1 : Nat) : Int) := by
  unfold maxLen at hn
  rw [show wrap64 ((k : Int) + 1) = ((k + 1 : Nat) : Int) by unfold wrap64; omega]
theorem less_succM {k n : Nat} (h : k < n) (hn : n <= maxLen) : n - (intOf (.int .i64 (wrap64 ((k : Int) + 1)))).toNat < n - (intOf (.int .i64 (k : Int))).toNat := by
  unfold maxLen at hn
  rw [show wrap64 ((k : Int) + 1) = ((k + 1 : Nat) : Int) by unfold wrap64; omega]; simp only [intOf, Int.toNat_natCast]; omega
end Go.Proofs.YtadaoceidkagfaaGreatDoor
