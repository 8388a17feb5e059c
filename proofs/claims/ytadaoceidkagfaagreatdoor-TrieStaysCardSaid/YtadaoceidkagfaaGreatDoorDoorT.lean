/- What the cards of layer 21 share: two listed variables. -/
import Derived.Test.YtadaoceidkagfaaGreatDoorFineT
import Derived.Test.YtadaoceidkagfaaGreatDoorRangeA
import Derived.Test.YtadaoceidkagfaaGreatDoorSipA
import Derived.Test.YtadaoceidkagfaaGreatDoorRows
import Derived.ProofKit
import Derived.LaidMore
import Derived.LaidSub
import Derived.MakeChecks
import Derived.OpenShut
import Derived.Stop.Joined
import Derived.Lib.LaidTab
import Derived.SevenTiedAt
namespace Go.Proofs.YtadaoceidkagfaaGreatDoor
open Go.ChangeShapes Go.WideShapes Go.ChangeAt Go.RowKit Go.Bw
theorem Tryz.ownKnobB : ownKnob Tryz.prog.godebug = none := by kernel_rfl
theorem Tryz.laidOutBw : laidOutB Tryz.prog = true := by kernel_rfl
theorem seedReadable : Tryz.prog.readableRec 23 = true := by kernel_rfl
theorem seedRow : 23 < Tryz.prog.types.size := of_decide_eq_true (by kernel_rfl)
theorem opsReadable : Tryz.prog.readableRec 24 = true := by kernel_rfl
theorem opsRow : 24 < Tryz.prog.types.size := of_decide_eq_true (by kernel_rfl)
theorem gTab : Tryz.prog.globalNamed "math/bits.deBruijn32tab" = some 2 := by kernel_rfl
theorem tTab : (Tryz.prog.globals[2]?).map (·.type) = some 221 := by kernel_rfl
theorem c32 : Tryz.prog.cellsOf 221 = 32 := by kernel_rfl
theorem gSta : Tryz.prog.globalNamed "brushwood/sip.start" = some 0 := by kernel_rfl
theorem tSta : (Tryz.prog.globals[0]?).map (·.type) = some 136 := by kernel_rfl
theorem c4w : Tryz.prog.cellsOf 136 = 4 := by kernel_rfl
theorem c64w : Tryz.prog.cellsOf 47 = 1 := by kernel_rfl
abbrev laidR : List (String × DataW Unit) := [("math/bits.deBruijn32tab", Rows.laid_math_bits_deBruijn32tab), ("brushwood/sip.start", Rows.laid_brushwood_sip_start)]
theorem tab_of_laid {W : World} (h : laidMetH Tryz.prog laidR W) : Tab W := by
  rw [MakeChecks.laidMetH_plain _ _ _ (by kernel_rfl)] at h
  have hT : Lib.TabIs Tryz.prog W "math/bits.deBruijn32tab" .u8 (Bw.tab.map fun (t : Nat) => (t : Int)) := Lib.tabIs_of_head gTab tTab Tryz.underlying221 Tryz.underlying5 c8 c32 h
  intro i t hi
  have hil := (List.getElem?_eq_some_iff.1 hi).1
  have := hT.cell gTab i (by rw [List.length_map]; exact hil)
  rw [this, List.getD_eq_getElem?_getD, List.getElem?_map, hi]
  rfl
theorem sta_of_laid {W : World} (h : laidMetH Tryz.prog laidR W) : Sta W := by
  rw [MakeChecks.laidMetH_plain _ _ _ (by kernel_rfl)] at h
  have h1 := laidMet.filter (fun x => x.1 == "brushwood/sip.start") h
  have e : laidR.filter (fun x => x.1 == "brushwood/sip.start") = [("brushwood/sip.start", Rows.laid_brushwood_sip_start)] := by
    rw [List.filter_cons_of_neg (by decide), List.filter_cons_of_pos (by decide), List.filter_nil]
  rw [e] at h1
  have hT : Lib.TabIs Tryz.prog W "brushwood/sip.start" .u64 [8317987319222330741, 7237128888997146477, 7816392313619706465, 8387220255154660723] := Lib.tabIs_of_head gSta tSta Tryz.underlying136 Tryz.underlying47 c64w c4w h1
  exact ⟨hT.cell gSta 0 (by decide), hT.cell gSta 1 (by decide), hT.cell gSta 2 (by decide), hT.cell gSta 3 (by decide)⟩
theorem door_met (os : Os) (args : Array Value) : laidMetH Tryz.prog laidR ((World.doorLaid Tryz.prog 19 os).forCall (fun _ _ => 0) ⟨#[], args, []⟩).memory :=
  laidMetH_of_parts3 (fuel := 8) (laidMet_of_run' 8 (by kernel_rfl) (by kernel_rfl)) (by kernel_rfl) (by kernel_rfl)
end Go.Proofs.YtadaoceidkagfaaGreatDoor
