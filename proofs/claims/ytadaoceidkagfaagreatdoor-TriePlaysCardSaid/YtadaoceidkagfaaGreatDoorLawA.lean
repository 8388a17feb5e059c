
import Derived.Test.YtadaoceidkagfaaGreatDoorRefA
import Derived.Test.YtadaoceidkagfaaGreatDoorNodeC
import Derived.Lib.SlBytesConst
namespace Go.Proofs.YtadaoceidkagfaaGreatDoor
open Go.RowKit Go.Bw
def pairOk (p : Bw.PV) : Bool := decide (p.1.length <= 100) && decide (p.2.length <= 100)
open Go.RowKit Go.Bw
mutual
def _root_.Bw.X.count : Bw.X -> Nat
  | .mk _ _ ps _ kids => ps.length + Bw.X.countL kids
def _root_.Bw.X.countL : List Bw.X -> Nat
  | [] => 0
  | k :: r => k.count + Bw.X.countL r
end
theorem _root_.Bw.X.countL_append (a b : List Bw.X) : Bw.X.countL (a ++ b) = Bw.X.countL a + Bw.X.countL b := by
  induction a with
  | nil => simp [Bw.X.countL]
  | cons k r ih => simp [Bw.X.countL, ih]; omega
def CountRel (n0 : Nat) (kids : List Bw.X) (w : World) (n i : Value) (wr : World) : Prop :=
  ∃ k : Nat, k <= kids.length /\ i = .int .i64 k /\ n = .int .i64 (n0 + Bw.X.countL (kids.take k) : Nat) /\ Below w.heap.size w wr
theorem _root_.Bw.X.countL_take (l : List Bw.X) (k : Nat) : Bw.X.countL (l.take k) <= Bw.X.countL l := by
  conv => rhs; rw [<- List.take_append_drop k l, Bw.X.countL_append]
  omega
theorem _root_.Bw.X.countL_mem {l : List Bw.X} {x : Bw.X} (h : x ∈ l) : x.count <= Bw.X.countL l := by
  induction l with
  | nil => simp at h
  | cons k r ih =>
    simp only [Bw.X.countL]
    rcases List.mem_cons.1 h with rfl | h
    · omega
    · have := ih h; omega
theorem int_succM {k n : Nat} (h : k < n) (hn : n <= maxLen) : Value.int .i64 (wrap64 ((k : Int) + 1)) = .int .i64 ((k + 1 : Nat) : Int) := by
  unfold maxLen at hn
  rw [show wrap64 ((k : Int) + 1) = ((k + 1 : Nat) : Int) by unfold wrap64; omega]
theorem less_succM {k n : Nat} (h : k < n) (hn : n <= maxLen) : n - (intOf (.int .i64 (wrap64 ((k : Int) + 1)))).toNat < n - (intOf (.int .i64 (k : Int))).toNat := by
  unfold maxLen at hn
  rw [show wrap64 ((k : Int) + 1) = ((k + 1 : Nat) : Int) by unfold wrap64; omega]; simp only [intOf, Int.toNat_natCast]; omega
end Go.Proofs.YtadaoceidkagfaaGreatDoor
