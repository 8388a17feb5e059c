/-
  Proved: whatever the plans are, brushwoodlaw16.NodePairs returns true, and its argument reads as it did. No condition is added.
-/
import Derived.Test.YtkblhilaeecdlaaRows
import Derived.Test.YtkblhilaeecdlaaRead
import Derived.Test.YtkblhilaeecdlaaFit
import Derived.Test.YtkblhilaeecdlaaLaw5
import Derived.Test.YtkblhilaeecdlaaFew
import Derived.ProofKit
namespace Go.Proofs.Ytkblhilaeecdlaa
open Go.ChangeShapes Go.WideShapes Go.ChangeAt Go.RowKit Go.Bw

theorem Try.ownKnobB : ownKnob Try.prog.godebug = none := by kernel_rfl
theorem Try.laidOutBw : laidOutB Try.prog = true := by kernel_rfl
theorem plansReadable : Try.prog.readableRec 22 = true := by kernel_rfl
theorem plansRow : 22 < Try.prog.types.size := of_decide_eq_true (by kernel_rfl)

theorem pairs_law {l : List Bw.Plan} {v : Value} {w : World} (hr : PlansAt AllB w v l) (hs : ∀ p ∈ l, p.set < 4294967296) :
    Calls Try.prog 5 #[v] w fun e w' => e = .returned (.bool true) ∧ Below w.heap.size w w' := by
  exact npairs_law hr (fun hf => ⟨builds_any hr hs hf, fun i n h => few_all hf h⟩)

set_option maxRecDepth 100000 in
theorem pairs_lifted (os : Os) (started : os.Started) (H : Type) (enc : TypeId × Value → H) :
    ReturnsInHanded {} Try.checked os 5 .any (Rows.nodePairsSpec.pre6 enc Try.prog Try.f5 Rows.nodePairsRow.domain false) (Rows.nodePairsSpec.post enc Try.prog Try.f5 false true false false) := by
  refine returnsInHanded_of_change (C := Try.checked) Try.ownKnobB started (by kernel_rfl) Try.func5
    (ChangeSpec.witness6 (enc := enc) (C := Try.checked) false ⟨#[], #[.slice none 0 0], []⟩ 8 (by kernel_rfl) (by kernel_rfl) (by kernel_rfl) (by kernel_rfl)) ?_
  intro W base args ds gs before hval0 hW hcnd _
  have hval : ∀ (j : Nat) t v, Try.f5.params[j]? = some t → args[j]? = some v → Value.okWide Try.prog W .any base t v := hval0
  have hW' := hW
  obtain ⟨p, q, hA0, hV, rfl, hfz, hnd⟩ := hW
  have hA : DataW.TrodAll enc Try.prog W 0 (fun _ => true) true Try.f5.params.toList args.toList ds p := hA0
  rw [Try.params5] at hA hval
  obtain ⟨v0, d0, rfl, rfl, h0⟩ := trodAll_one hA
  obtain ⟨rfl, rfl⟩ := trodVars_none hV
  obtain ⟨a0, len, cap, rfl⟩ := okWide_slice Try.underlying22 (hval 0 _ _ rfl rfl)
  obtain ⟨l, hl, hs⟩ := plans_of rfl h0
  have hlt : ∀ x ∈ p, x.block < W.heap.size := fun x hx => hW'.lt x (by simpa using hx)
  clear hA0 hval0
  simp only [List.append_nil] at hW'
  refine (pairs_law hl hs).mono fun e W' ⟨he, hB⟩ => ?_
  subst he
  refine ⟨_, rfl, _, _, _, [], p, [], hW', trodAll_mk1 (shut_bool Try.underlying4 true), trodAll_mk1 (Below.trod Try.laidOutBw plansReadable plansRow h0 hB hlt), rfl, hB.frame _, fun h => by cases h⟩

theorem nodePairs_holds : Rows.NodePairsSaid :=
  OpenClaim.holds_of_wide 5 Try.f5 rfl rfl rfl rfl rfl rfl rfl ⟨rfl, rfl, rfl, rfl, rfl⟩ rfl rfl rfl rfl rfl (by kernel_rfl) Try.func5 (by kernel_rfl)
    (of_decide_eq_true (by kernel_rfl)) (by unfold Func.isWrapper; first | (rw [if_pos (by decide +kernel)]; kernel_rfl) | (rw [if_neg (by decide +kernel)]; exact ⟨rfl, rfl⟩))
    (fun os started H enc _ => pairs_lifted os started H enc)

end Go.Proofs.Ytkblhilaeecdlaa
