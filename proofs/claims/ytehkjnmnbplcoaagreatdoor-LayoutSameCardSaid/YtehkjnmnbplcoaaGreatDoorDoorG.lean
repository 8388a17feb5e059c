
import Derived.Test.YtehkjnmnbplcoaaGreatDoorReadG
import Derived.Test.YtehkjnmnbplcoaaGreatDoorRangeA
import Derived.Test.YtehkjnmnbplcoaaGreatDoorRows
import Derived.ProofKit
import Derived.LaidMore
import Derived.MakeChecks
import Derived.OpenShut
import Derived.Stop.Joined
import Derived.Lib.LaidTab
import Derived.SevenTiedAt
namespace Go.Proofs.YtehkjnmnbplcoaaGreatDoor
open Go.ChangeShapes Go.WideShapes Go.ChangeAt Go.RowKit Go.Bw

theorem Tryz.ownKnobB : ownKnob Tryz.prog.godebug = none := by kernel_rfl
theorem Tryz.laidOutBw : laidOutB Tryz.prog = true := by kernel_rfl
theorem tableReadable : Tryz.prog.readableRec 22 = true := by kernel_rfl
theorem tableRow : 22 < Tryz.prog.types.size := of_decide_eq_true (by kernel_rfl)
theorem pairsReadable : Tryz.prog.readableRec 23 = true := by kernel_rfl
theorem pairsRow : 23 < Tryz.prog.types.size := of_decide_eq_true (by kernel_rfl)
theorem gTab : Tryz.prog.globalNamed "math/bits.deBruijn32tab" = some 0 := by kernel_rfl
theorem tTab : (Tryz.prog.globals[0]?).map (·.type) = some 159 := by kernel_rfl
theorem c32 : Tryz.prog.cellsOf 159 = 32 := by kernel_rfl

abbrev laidR : List (String × DataW Unit) := [("math/bits.deBruijn32tab", Rows.laid_math_bits_deBruijn32tab)]

theorem tab_of_laid {W : World} (h : laidMetH Tryz.prog laidR W) : Tab W := by
  rw [MakeChecks.laidMetH_plain _ _ _ (by kernel_rfl)] at h
  have hT : Lib.TabIs Tryz.prog W "math/bits.deBruijn32tab" .u8 (Bw.tab.map fun (t : Nat) => (t : Int)) := Lib.tabIs_of_head gTab tTab Tryz.underlying159 Tryz.underlying5 c8 c32 h
  intro i t hi
  have hil := (List.getElem?_eq_some_iff.1 hi).1
  have := hT.cell gTab i (by rw [List.length_map]; exact hil)
  rw [this, List.getD_eq_getElem?_getD, List.getElem?_map, hi]
  rfl

theorem door_met (os : Os) (args : Array Value) : laidMetH Tryz.prog laidR ((World.doorLaid Tryz.prog 14 os).forCall (fun _ _ => 0) ⟨#[], args, []⟩).memory :=
  laidMetH_of_parts3 (fuel := 8) (laidMet_of_run' 8 (by kernel_rfl) (by kernel_rfl)) (by kernel_rfl) (by kernel_rfl)

end Go.Proofs.YtehkjnmnbplcoaaGreatDoor
