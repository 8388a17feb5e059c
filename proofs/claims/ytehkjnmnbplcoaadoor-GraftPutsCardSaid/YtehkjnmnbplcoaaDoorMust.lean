
import Derived.Test.YtehkjnmnbplcoaaDoorNode8
import Derived.WalkLawsBesides
namespace Go.Proofs.YtehkjnmnbplcoaaDoor
open Go.RowKit Go.Bw

theorem kindm_leaf (a : Addr) (w : World) : (method 316 141 (.pointer (some a)) "Kind").run Tryd.prog w = .ok (161, .pointer (some a)) w := by kernel_rfl
theorem kindm_bucket (a : Addr) (w : World) : (method 316 144 (.pointer (some a)) "Kind").run Tryd.prog w = .ok (163, .pointer (some a)) w := by kernel_rfl
theorem kindm_branch (a : Addr) (w : World) : (method 316 124 (.pointer (some a)) "Kind").run Tryd.prog w = .ok (159, .pointer (some a)) w := by kernel_rfl

/-- the kind of a node -/
def kindO : Option Bw.N → Int
  | none => 0
  | some (.leaf ..) => 1
  | some (.bucket ..) => 2
  | some (.branch ..) => 3

end Go.Proofs.YtehkjnmnbplcoaaDoor
