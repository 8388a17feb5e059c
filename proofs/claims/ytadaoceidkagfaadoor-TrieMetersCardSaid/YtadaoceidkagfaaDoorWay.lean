
import Derived.Test.YtadaoceidkagfaaDoorBits1
import Derived.Shelf.Abstract
import Derived.RangeFuncNested
import Derived.Laws.NewBlocks
import Derived.Lib.SmallJoins
namespace Go.Proofs.YtadaoceidkagfaaDoor
open Go.RowKit Go.Bw

/-- the first k chunks of a hash -/
def wayA (h k : Nat) : Array Value := ((List.range 13).map fun j => if j < k then Value.int .i64 (Bw.chunkAt h j : Nat) else Value.int .i64 0).toArray
def wayV (h : Nat) : Value := .agg (wayA h 13)

theorem wayA_zero (h : Nat) : wayA h 0 = #[.int .i64 0, .int .i64 0, .int .i64 0, .int .i64 0, .int .i64 0, .int .i64 0, .int .i64 0, .int .i64 0, .int .i64 0, .int .i64 0, .int .i64 0, .int .i64 0, .int .i64 0] := rfl

theorem wayA_size (h k : Nat) : (wayA h k).size = 13 := by simp [wayA]
theorem wayA_succ (h k : Nat) : (wayA h k).setIfInBounds k (.int .i64 (Bw.chunkAt h k : Nat)) = wayA h (k + 1) := by
  apply Array.ext
  · simp [wayA]
  · intro i h1 h2
    simp only [wayA, List.setIfInBounds_toArray, List.getElem_toArray, List.getElem_set, List.getElem_map, List.getElem_range]
    by_cases hi : k = i
    · subst hi; simp
    · by_cases hlt : i < k
      · simp [hi, hlt, show i < k + 1 by omega]
      · simp [hi, hlt, show ¬ i < k + 1 by omega]

end Go.Proofs.YtadaoceidkagfaaDoor
