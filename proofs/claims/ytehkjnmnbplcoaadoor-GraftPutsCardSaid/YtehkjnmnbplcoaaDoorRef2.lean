
import Derived.Test.YtehkjnmnbplcoaaDoorRef1
import Derived.Test.YtehkjnmnbplcoaaDoorOwn
import Derived.Test.YtehkjnmnbplcoaaDoorBwAll
namespace Go.Proofs.YtehkjnmnbplcoaaDoor
open Go.RowKit Go.Bw

theorem infoS : (Tryd.prog.info? 36).map (fun i => (i.zero, i.size, i.bytes)) = some (some (.agg #[.string ⟨#[]⟩, .string ⟨#[]⟩]), 2, 32) := by kernel_rfl

def OfRel (l : List Bw.PV) (w : World) (v i : Value) (wr : World) : Prop :=
  ∃ k : Nat, k ≤ l.length ∧ i = .int .i64 k ∧ OwnAt 36 2 spK (fun k => w.heap.size ≤ k) wr w.heap.size v (l.take k) ∧ Below w.heap.size w wr

end Go.Proofs.YtehkjnmnbplcoaaDoor
