
import Derived.Test.YtadaoceidkagfaaGreatDoorLawA
import Derived.Test.YtadaoceidkagfaaGreatDoorListA
import Derived.Test.YtadaoceidkagfaaGreatDoorNodeC
namespace Go.Proofs.YtadaoceidkagfaaGreatDoor
open Go.RowKit Go.Bw
mutual
/-- bounded pairs, even and rising buckets, as many children as numbers -/
def _root_.Bw.N.fit : Bw.N → Prop
  | .leaf _ p => p.1.length ≤ 1048576 ∧ p.2.length ≤ 1048576
  | .bucket _ t => t.even ∧ Bw.Rises t.list ∧ (∀ p ∈ t.list, p.1.length ≤ 1048576 ∧ p.2.length ≤ 1048576) ∧ t.size ≤ 1048576
  | .branch m kids => m < 4294967296 ∧ kids.length = (Bw.bitsOf m).length ∧ Bw.N.fitL kids
def _root_.Bw.N.fitL : List Bw.N → Prop
  | [] => True
  | k :: r => k.fit ∧ Bw.N.fitL r
end
theorem _root_.Bw.N.fitL_iff (l : List Bw.N) : Bw.N.fitL l ↔ ∀ k ∈ l, k.fit := by
  induction l with
  | nil => simp [Bw.N.fitL]
  | cons k r ih => simp [Bw.N.fitL, ih]
end Go.Proofs.YtadaoceidkagfaaGreatDoor
namespace Go.Proofs.YtadaoceidkagfaaGreatDoor
open Go.RowKit Go.Bw
end Go.Proofs.YtadaoceidkagfaaGreatDoor
