
import Derived.Test.YtadaoceidkagfaaGreatDoorBits1
import Derived.Shelf.Abstract
import Derived.RangeFuncNested
import Derived.Laws.NewBlocks
import Derived.Lib.SmallJoins
namespace Go.Proofs.YtadaoceidkagfaaGreatDoor
open Go.RowKit Go.Bw
end Go.Proofs.YtadaoceidkagfaaGreatDoor
