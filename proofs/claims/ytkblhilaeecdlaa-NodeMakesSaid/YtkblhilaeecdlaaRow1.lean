/-
  Proved: whatever the plans are, brushwoodlaw16.NodeMakes returns true, and its argument reads as it did. No condition is added.
-/
import Derived.Test.YtkblhilaeecdlaaRows
import Derived.Test.YtkblhilaeecdlaaRead
import Derived.Test.YtkblhilaeecdlaaFit
import Derived.ProofKit
namespace Go.Proofs.Ytkblhilaeecdlaa
open Go.ChangeShapes Go.WideShapes Go.ChangeAt Go.RowKit Go.Bw

theorem Try.ownKnobB : ownKnob Try.prog.godebug = none := by kernel_rfl
theorem Try.laidOutBw : laidOutB Try.prog = true := by kernel_rfl
theorem plansReadable : Try.prog.readableRec 22 = true := by kernel_rfl
theorem plansRow : 22 < Try.prog.types.size := of_decide_eq_true (by kernel_rfl)

theorem makes_law {l : List Bw.Plan} {v : Value} {w : World} (hr : PlansAt AllB w v l) (hs : ∀ p ∈ l, p.set < 4294967296) :
    Calls Try.prog 3 #[v] w fun e w' => e = .returned (.bool true) ∧ Below w.heap.size w w' := by
  exact makes_any hr (fun hf => builds_any hr hs hf)

set_option maxRecDepth 100000 in
theorem makes_lifted (os : Os) (started : os.Started) (H : Type) (enc : TypeId × Value → H) :
    ReturnsInHanded {} Try.checked os 3 .any (Rows.nodeMakesSpec.pre6 enc Try.prog Try.f3 Rows.nodeMakesRow.domain false) (Rows.nodeMakesSpec.post enc Try.prog Try.f3 false true false false) := by
  refine returnsInHanded_of_change (C := Try.checked) Try.ownKnobB started (by kernel_rfl) Try.func3
    (ChangeSpec.witness6 (enc := enc) (C := Try.checked) false ⟨#[], #[.slice none 0 0], []⟩ 8 (by kernel_rfl) (by kernel_rfl) (by kernel_rfl) (by kernel_rfl)) ?_
  intro W base args ds gs before hval0 hW hcnd _
  have hval : ∀ (j : Nat) t v, Try.f3.params[j]? = some t → args[j]? = some v → Value.okWide Try.prog W .any base t v := hval0
  have hW' := hW
  obtain ⟨p, q, hA0, hV, rfl, hfz, hnd⟩ := hW
  have hA : DataW.TrodAll enc Try.prog W 0 (fun _ => true) true Try.f3.params.toList args.toList ds p := hA0
  rw [Try.params3] at hA hval
  obtain ⟨v0, d0, rfl, rfl, h0⟩ := trodAll_one hA
  obtain ⟨rfl, rfl⟩ := trodVars_none hV
  obtain ⟨a0, len, cap, rfl⟩ := okWide_slice Try.underlying22 (hval 0 _ _ rfl rfl)
  obtain ⟨l, hl, hs⟩ := plans_of rfl h0
  have hlt : ∀ x ∈ p, x.block < W.heap.size := fun x hx => hW'.lt x (by simpa using hx)
  clear hA0 hval0
  simp only [List.append_nil] at hW'
  refine (makes_law hl hs).mono fun e W' ⟨he, hB⟩ => ?_
  subst he
  refine ⟨_, rfl, _, _, _, [], p, [], hW', trodAll_mk1 (shut_bool Try.underlying4 true), trodAll_mk1 (Below.trod Try.laidOutBw plansReadable plansRow h0 hB hlt), rfl, hB.frame _, fun h => by cases h⟩

theorem nodeMakes_holds : Rows.NodeMakesSaid :=
  OpenClaim.holds_of_wide 3 Try.f3 rfl rfl rfl rfl rfl rfl rfl ⟨rfl, rfl, rfl, rfl, rfl⟩ rfl rfl rfl rfl rfl (by kernel_rfl) Try.func3 (by kernel_rfl)
    (of_decide_eq_true (by kernel_rfl)) (by unfold Func.isWrapper; first | (rw [if_pos (by decide +kernel)]; kernel_rfl) | (rw [if_neg (by decide +kernel)]; exact ⟨rfl, rfl⟩))
    (fun os started H enc _ => makes_lifted os started H enc)

end Go.Proofs.Ytkblhilaeecdlaa
