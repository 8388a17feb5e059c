/-
  Proved: whatever the entries are, brushwoodlaw17.LayoutSums returns true, and its argument reads as it did: the row over the listed table, and the tied card. No condition is added.
-/
import Derived.Test.YtehkjnmnbplcoaaDoorRows
import Derived.Test.YtehkjnmnbplcoaaDoorCards
import Derived.Test.YtehkjnmnbplcoaaDoorTie
import Derived.Test.YtehkjnmnbplcoaaDoorDoorG
import Derived.Test.YtehkjnmnbplcoaaDoorLaw12
import Derived.ProofKit
import Derived.LaidMore
import Derived.MakeChecks
import Derived.OpenShut
import Derived.Stop.Joined
import Derived.Lib.LaidTab
import Derived.SevenTiedAt
namespace Go.Proofs.YtehkjnmnbplcoaaDoor
open Go.ChangeShapes Go.WideShapes Go.ChangeAt Go.RowKit Go.Bw

theorem entsReadable : Tryd.prog.readableRec 54 = true := by kernel_rfl
theorem entsRow : 54 < Tryd.prog.types.size := of_decide_eq_true (by kernel_rfl)

set_option maxRecDepth 100000 in
theorem layoutSums_lifted (os : Os) (started : os.Started) (H : Type) (enc : TypeId × Value → H) :
    ReturnsInHanded {} Tryd.checked os 7 .any (fun w args => (Rows.layoutSumsSpec.pre enc Tryd.prog Tryd.f7 [] false w args ∧ laidMetH Tryd.prog laidR w) ∧ sizedMet enc Tryd.prog Tryd.f7 (OpenSpec.ofChange Rows.layoutSumsSpec) false w args)
      (Rows.layoutSumsSpec.post enc Tryd.prog Tryd.f7 false true false false) := by
  refine returnsInHanded_of_change_and (C := Tryd.checked) (X := fun w _ => laidMetH Tryd.prog laidR w) (fun _ _ _ hh h => h.of_heap hh) Tryd.ownKnobB started (by kernel_rfl) Tryd.func7
    (ChangeSpec.witness_shaped (enc := enc) (C := Tryd.checked) (os := os) (X := fun w _ => laidMetH Tryd.prog laidR w) false (World.doorLaid Tryd.prog 14 os) #[.slice none 0 0] 8 rfl (World.shaped_of_RefB (by kernel_rfl) (by kernel_rfl)) (by kernel_rfl) (by kernel_rfl) (by kernel_rfl) (door_met os _)) ?_
  intro W base args ds gs before hval0 hW _ _ hL _
  have hval : ∀ (j : Nat) t v, Tryd.f7.params[j]? = some t → args[j]? = some v → Value.okWide Tryd.prog W .any base t v := hval0
  have hW' := hW
  obtain ⟨p, q, hA0, hV, rfl, hfz, hnd⟩ := hW
  have hA : DataW.TrodAll enc Tryd.prog W 0 (fun _ => true) true Tryd.f7.params.toList args.toList ds p := hA0
  rw [Tryd.params7] at hA hval
  obtain ⟨v0, d0, rfl, rfl, h0⟩ := trodAll_one hA
  obtain ⟨rfl, rfl⟩ := trodVars_none hV
  obtain ⟨a0, len0, cap, rfl⟩ := okWide_slice Tryd.underlying54 (hval 0 _ _ rfl rfl)
  obtain ⟨l, hl, hh⟩ := ents_of rfl h0
  have hlt0 : ∀ x ∈ p, x.block < W.heap.size := fun x hx => hW'.lt x (by simp [hx])
  clear hA0 hval0
  simp only [List.append_nil] at hW'
  refine (layoutsums_any hl hh (tab_of_laid hL)).mono fun e W' ⟨he, hB⟩ => ?_
  subst he
  have hT := trodAll_mk1 (Below.trod Tryd.laidOutBw entsReadable entsRow h0 hB hlt0)
  refine ⟨_, rfl, _, _, _, [], p, [], hW', trodAll_mk1 (shut_bool Tryd.underlying4 true), hT, rfl, hB.frame _, fun h => by cases h⟩

theorem layoutSums_holds : Rows.LayoutSumsSaid :=
  OpenClaim.holds_of_wide 7 Tryd.f7 rfl rfl rfl rfl rfl rfl rfl ⟨rfl, rfl, rfl, rfl, rfl⟩ rfl rfl rfl rfl rfl (by kernel_rfl) Tryd.func7 (by kernel_rfl)
    (of_decide_eq_true (by kernel_rfl)) (by unfold Func.isWrapper; first | (rw [if_pos (by decide +kernel)]; kernel_rfl) | (rw [if_neg (by decide +kernel)]; exact ⟨rfl, rfl⟩))
    (fun os started H enc _ => layoutSums_lifted os started H enc)

theorem layoutSums_card_holds : Rows.LayoutSumsCardSaid :=
  Claim7.holds_tied_plain_at .later [] [.data] true (true, "413fec3837babb5d473411db71a702f23f29c998bd00833c259dea0914f16826") true
    layoutSums_holds (fun _ h => by cases h) (by kernel_rfl) (fun _ h => by cases h) layoutSums_row_tie rfl ⟨rfl, rfl⟩ (by kernel_rfl) rfl
    (fun f fn hf hfn => by
      obtain rfl : f = 7 := Option.some.inj ((show Tryd.prog.funcNamed "brushwood/brushwoodlaw17.LayoutSums" = some 7 by kernel_rfl).symm.trans hf) |>.symm
      obtain rfl : fn = Tryd.f7 := (Option.some.inj (Tryd.func7.symm.trans hfn)).symm
      exact ⟨by kernel_rfl, fun j t ht => by
        rw [Tryd.params7] at ht
        have hm : t ∈ [54] := by simpa using Array.mem_of_getElem? ht
        have hall : ([54].all fun u => !Tryd.prog.wantsStandIn u) = true := by kernel_rfl
        exact (show Tryd.prog.wantsStandIn t = false by simpa using List.all_eq_true.1 hall t hm)⟩)
    (by kernel_rfl)
end Go.Proofs.YtehkjnmnbplcoaaDoor
