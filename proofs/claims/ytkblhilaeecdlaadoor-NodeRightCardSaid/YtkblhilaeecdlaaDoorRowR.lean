/-
  Proved: whatever the plans and the level are, brushwoodlaw16.NodeRight returns true, and its arguments read as they did: the row over the listed table, and the tied card. No condition is added.
-/
import Derived.Test.YtkblhilaeecdlaaDoorRows
import Derived.Test.YtkblhilaeecdlaaDoorCards
import Derived.Test.YtkblhilaeecdlaaDoorTie
import Derived.Test.YtkblhilaeecdlaaDoorRead
import Derived.Test.YtkblhilaeecdlaaDoorLawR
import Derived.ProofKit
import Derived.LaidMore
import Derived.MakeChecks
import Derived.OpenShut
import Derived.Stop.Joined
import Derived.Lib.LaidTab
import Derived.SevenTiedAt
namespace Go.Proofs.YtkblhilaeecdlaaDoor
open Go.ChangeShapes Go.WideShapes Go.ChangeAt Go.RowKit Go.Bw

theorem Tryd.ownKnobB : ownKnob Tryd.prog.godebug = none := by kernel_rfl
theorem Tryd.laidOutBw : laidOutB Tryd.prog = true := by kernel_rfl
theorem plansReadable : Tryd.prog.readableRec 22 = true := by kernel_rfl
theorem plansRow : 22 < Tryd.prog.types.size := of_decide_eq_true (by kernel_rfl)
theorem gTab : Tryd.prog.globalNamed "math/bits.deBruijn32tab" = some 0 := by kernel_rfl
theorem tTab : (Tryd.prog.globals[0]?).map (·.type) = some 106 := by kernel_rfl
theorem c32 : Tryd.prog.cellsOf 106 = 32 := by kernel_rfl

abbrev laidR : List (String × DataW Unit) := [("math/bits.deBruijn32tab", Rows.laid_math_bits_deBruijn32tab)]

theorem tab_of_laid {W : World} (h : laidMetH Tryd.prog laidR W) : Tab W := by
  rw [MakeChecks.laidMetH_plain _ _ _ (by kernel_rfl)] at h
  have hT : Lib.TabIs Tryd.prog W "math/bits.deBruijn32tab" .u8 (Bw.tab.map fun (t : Nat) => (t : Int)) := Lib.tabIs_of_head gTab tTab Tryd.underlying106 Tryd.underlying5 c8 c32 h
  intro i t hi
  have hil := (List.getElem?_eq_some_iff.1 hi).1
  have := hT.cell gTab i (by rw [List.length_map]; exact hil)
  rw [this, List.getD_eq_getElem?_getD, List.getElem?_map, hi]
  rfl

theorem door_met (os : Os) (args : Array Value) : laidMetH Tryd.prog laidR ((World.doorLaid Tryd.prog 14 os).forCall (fun _ _ => 0) ⟨#[], args, []⟩).memory :=
  laidMetH_of_parts3 (fuel := 8) (laidMet_of_run' 8 (by kernel_rfl) (by kernel_rfl)) (by kernel_rfl) (by kernel_rfl)

theorem rights_law {l : List Bw.Plan} {v : Value} {w : World} (level : Int) (hr : PlansAt AllB w v l) (hT : Tab w) (hs : ∀ p ∈ l, p.set < 4294967296 ∧ p.hash < 18446744073709551616) :
    Calls Tryd.prog 3 #[v, .int .i64 level] w fun e w' => e = .returned (.bool true) ∧ Below w.heap.size w w' :=
  rights_any level hr hT (fun hf => rbuilds_any hr hs hf)

set_option maxRecDepth 100000 in
theorem rights_lifted (os : Os) (started : os.Started) (H : Type) (enc : TypeId × Value → H) :
    ReturnsInHanded {} Tryd.checked os 3 .any (fun w args => (Rows.nodeRightSpec.pre enc Tryd.prog Tryd.f3 [] false w args ∧ laidMetH Tryd.prog laidR w) ∧ sizedMet enc Tryd.prog Tryd.f3 (OpenSpec.ofChange Rows.nodeRightSpec) false w args)
      (Rows.nodeRightSpec.post enc Tryd.prog Tryd.f3 false true false false) := by
  refine returnsInHanded_of_change_and (C := Tryd.checked) (X := fun w _ => laidMetH Tryd.prog laidR w) (fun _ _ _ hh h => h.of_heap hh) Tryd.ownKnobB started (by kernel_rfl) Tryd.func3
    (ChangeSpec.witness_shaped (enc := enc) (C := Tryd.checked) (os := os) (X := fun w _ => laidMetH Tryd.prog laidR w) false (World.doorLaid Tryd.prog 14 os) #[.slice none 0 0, .int .i64 0] 8 rfl (World.shaped_of_RefB (by kernel_rfl) (by kernel_rfl)) (by kernel_rfl) (by kernel_rfl) (by kernel_rfl) (door_met os _)) ?_
  intro W base args ds gs before hval0 hW _ _ hL _
  have hval : ∀ (j : Nat) t v, Tryd.f3.params[j]? = some t → args[j]? = some v → Value.okWide Tryd.prog W .any base t v := hval0
  have hW' := hW
  obtain ⟨p, q, hA0, hV, rfl, hfz, hnd⟩ := hW
  have hA : DataW.TrodAll enc Tryd.prog W 0 (fun _ => true) true Tryd.f3.params.toList args.toList ds p := hA0
  rw [Tryd.params3] at hA hval
  obtain ⟨v0, v1, d0, d1, p0, p1, rfl, rfl, rfl, h0, h1⟩ := trodAll_two hA
  obtain ⟨rfl, rfl⟩ := trodVars_none hV
  obtain ⟨kk, rfl, rfl, rfl, wk⟩ := open_int Tryd.underlying3 (hval 1 _ v1 rfl rfl) h1
  obtain ⟨a0, len, cap, rfl⟩ := okWide_slice Tryd.underlying22 (hval 0 _ _ rfl rfl)
  obtain ⟨l, hl, hs⟩ := plans_of rfl h0
  have hlt : ∀ x ∈ p0, x.block < W.heap.size := fun x hx => hW'.lt x (by simpa using hx)
  clear hA0 hval0
  simp only [List.append_nil] at hW'
  refine (rights_law kk hl (tab_of_laid hL) hs).mono fun e W' ⟨he, hB⟩ => ?_
  subst he
  refine ⟨_, rfl, _, _, _, [], p0 ++ [], [], hW', trodAll_mk1 (shut_bool Tryd.underlying4 true), trodAll_mk2 (Below.trod Tryd.laidOutBw plansReadable plansRow h0 hB hlt) (shut_int Tryd.underlying3 wk), rfl, hB.frame _, fun h => by cases h⟩

theorem nodeRight_holds : Rows.NodeRightSaid :=
  OpenClaim.holds_of_wide 3 Tryd.f3 rfl rfl rfl rfl rfl rfl rfl ⟨rfl, rfl, rfl, rfl, rfl⟩ rfl rfl rfl rfl rfl (by kernel_rfl) Tryd.func3 (by kernel_rfl)
    (of_decide_eq_true (by kernel_rfl)) (by unfold Func.isWrapper; first | (rw [if_pos (by decide +kernel)]; kernel_rfl) | (rw [if_neg (by decide +kernel)]; exact ⟨rfl, rfl⟩))
    (fun os started H enc _ => rights_lifted os started H enc)

theorem nodeRight_card_holds : Rows.NodeRightCardSaid :=
  Claim7.holds_tied_plain_at .later [] [.data] true (true, "7316e2f063c0ce1a29a04bd775221e63cf1277015e8a63df496e9ae664d178e1") true
    nodeRight_holds (fun _ h => by cases h) (by kernel_rfl) (fun _ h => by cases h) nodeRight_row_tie rfl ⟨rfl, rfl⟩ (by kernel_rfl) rfl
    (fun f fn hf hfn => by
      obtain rfl : f = 3 := Option.some.inj ((show Tryd.prog.funcNamed "brushwood/brushwoodlaw16.NodeRight" = some 3 by kernel_rfl).symm.trans hf) |>.symm
      obtain rfl : fn = Tryd.f3 := (Option.some.inj (Tryd.func3.symm.trans hfn)).symm
      exact ⟨by kernel_rfl, fun j t ht => by
        rw [Tryd.params3] at ht
        have hm : t ∈ [22, 3] := by simpa using Array.mem_of_getElem? ht
        have hall : ([22, 3].all fun u => !Tryd.prog.wantsStandIn u) = true := by kernel_rfl
        exact (show Tryd.prog.wantsStandIn t = false by simpa using List.all_eq_true.1 hall t hm)⟩)
    (by kernel_rfl)
end Go.Proofs.YtkblhilaeecdlaaDoor
