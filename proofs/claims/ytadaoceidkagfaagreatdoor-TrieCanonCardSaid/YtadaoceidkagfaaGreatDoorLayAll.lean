
import Derived.Test.YtadaoceidkagfaaGreatDoorRef19
import Derived.Test.YtadaoceidkagfaaGreatDoorWay
import Derived.Test.YtadaoceidkagfaaGreatDoorRefA
import Derived.Deep.AppendLies
namespace Go.Proofs.YtadaoceidkagfaaGreatDoor
open Go.RowKit Go.Bw
end Go.Proofs.YtadaoceidkagfaaGreatDoor
namespace Go.Proofs.YtadaoceidkagfaaGreatDoor
open Go.RowKit Go.Bw
/-- the node on its way: its five cells -/
def Out5 (W : World) (ob : Nat) (sv kv : Value) : Prop := W.heap[ob]? = some (.cells #[.int .i64 3, .int .u64 0, .slice none 0 0, sv, kv] 51 (0, 0))
theorem Out5.below {n ob : Nat} {W W' : World} {sv kv : Value} (h : Out5 W ob sv kv) (hB : Below n W W') (hn : ob < n) : Out5 W' ob sv kv := (hB.block ob hn).trans h
theorem Out5.lt {ob : Nat} {W : World} {sv kv : Value} (h : Out5 W ob sv kv) : ob < W.heap.size := (Array.getElem?_eq_some_iff.1 h).1
section
variable {a : Act} {Q : Exit → Act → World → Prop} {o : Oper} {ops : Array Oper} {w : World} {ok : Nat → Prop}
end
end Go.Proofs.YtadaoceidkagfaaGreatDoor
namespace Go.Proofs.YtadaoceidkagfaaGreatDoor
open Go.RowKit Go.Bw
end Go.Proofs.YtadaoceidkagfaaGreatDoor
namespace Go.Proofs.YtadaoceidkagfaaGreatDoor
open Go.RowKit Go.Bw
theorem _root_.Bw.layX_nil (f level : Nat) : Bw.layX f level [] = .zero := by cases f <;> rfl
end Go.Proofs.YtadaoceidkagfaaGreatDoor
