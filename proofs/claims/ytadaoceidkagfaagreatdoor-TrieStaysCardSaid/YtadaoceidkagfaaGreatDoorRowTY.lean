/-
  Proved: whatever the seeds and the calls are, brushwoodlaw21.TrieStays returns true, and its arguments read as they did: the row over the listed variables, and the tied card. No condition is added.
-/
import Derived.Test.YtadaoceidkagfaaGreatDoorRows
import Derived.Test.YtadaoceidkagfaaGreatDoorCards
import Derived.Test.YtadaoceidkagfaaGreatDoorTie
import Derived.Test.YtadaoceidkagfaaGreatDoorDoorT
import Derived.Test.YtadaoceidkagfaaGreatDoorLaw19
import Derived.ProofKit
import Derived.LaidMore
import Derived.MakeChecks
import Derived.OpenShut
import Derived.Stop.Joined
import Derived.Lib.LaidTab
import Derived.SevenTiedAt
namespace Go.Proofs.YtadaoceidkagfaaGreatDoor
open Go.ChangeShapes Go.WideShapes Go.ChangeAt Go.RowKit Go.Bw
set_option maxRecDepth 100000 in
theorem trieStays_lifted (os : Os) (started : os.Started) (H : Type) (enc : TypeId × Value -> H) :
    ReturnsInHanded {} Tryz.checked os 4 .any (fun w args => (Rows.trieStaysSpec.pre enc Tryz.prog Tryz.f4 [] false w args /\ laidMetH Tryz.prog laidR w) /\ sizedMet enc Tryz.prog Tryz.f4 (OpenSpec.ofChange Rows.trieStaysSpec) false w args)
      (Rows.trieStaysSpec.post enc Tryz.prog Tryz.f4 false true false false) := by
  refine returnsInHanded_of_change_and (C := Tryz.checked) (X := fun w _ => laidMetH Tryz.prog laidR w) (fun _ _ _ hh h => h.of_heap hh) Tryz.ownKnobB started (by kernel_rfl) Tryz.func4
    (ChangeSpec.witness_shaped (enc := enc) (C := Tryz.checked) (os := os) (X := fun w _ => laidMetH Tryz.prog laidR w) false (World.doorLaid Tryz.prog 19 os) #[.agg #[.int .u8 0, .int .u8 0, .int .u8 0, .int .u8 0, .int .u8 0, .int .u8 0, .int .u8 0, .int .u8 0, .int .u8 0, .int .u8 0, .int .u8 0, .int .u8 0, .int .u8 0, .int .u8 0, .int .u8 0, .int .u8 0], .slice none 0 0] 8 rfl (World.shaped_of_RefB (by kernel_rfl) (by kernel_rfl)) (by kernel_rfl) (by kernel_rfl) (by kernel_rfl) (door_met os _)) ?_
  intro W base args ds gs before hval0 hW _ _ hL _
  have hval : ∀ (j : Nat) t v, Tryz.f4.params[j]? = some t -> args[j]? = some v -> Value.okWide Tryz.prog W .any base t v := hval0
  have hW' := hW
  obtain ⟨p, q, hA0, hV, rfl, hfz, hnd⟩ := hW
  have hA : DataW.TrodAll enc Tryz.prog W 0 (fun _ => true) true Tryz.f4.params.toList args.toList ds p := hA0
  rw [Tryz.params4] at hA hval
  obtain ⟨v0, v1, d0, d1, p0, p1, rfl, rfl, rfl, h0, h1⟩ := trodAll_two hA
  obtain ⟨rfl, rfl⟩ := trodVars_none hV
  obtain ⟨cs0, rfl⟩ := okWide_seed (hval 0 _ _ rfl rfl)
  obtain ⟨s0, hs0, hse0⟩ := seed_of h0
  obtain ⟨a1, len1, cap1, rfl⟩ := okWide_slice Tryz.underlying24 (hval 1 _ _ rfl rfl)
  obtain ⟨l1, hl1⟩ := ops_of rfl h1
  have hlt0 : ∀ x ∈ p0, x.block < W.heap.size := fun x hx => hW'.lt x (by simp [hx])
  have hlt1 : ∀ x ∈ p1, x.block < W.heap.size := fun x hx => hW'.lt x (by simp [hx])
  clear hA0 hval0
  simp only [List.append_nil] at hW'
  have hC := triestays_any hs0 hl1 (tab_of_laid hL) (sta_of_laid hL)
  rw [<- hse0] at hC
  refine hC.mono fun e W' ⟨he, hB⟩ => ?_
  subst he
  refine ⟨_, rfl, _, _, _, [], p0 ++ p1, [], hW', trodAll_mk1 (shut_bool Tryz.underlying4 true), trodAll_mk2 (Below.trod Tryz.laidOutBw seedReadable seedRow h0 hB hlt0) (Below.trod Tryz.laidOutBw opsReadable opsRow h1 hB hlt1), rfl, hB.frame _, fun h => by cases h⟩
theorem trieStays_holds : Rows.TrieStaysSaid :=
  OpenClaim.holds_of_wide 4 Tryz.f4 rfl rfl rfl rfl rfl rfl rfl ⟨rfl, rfl, rfl, rfl, rfl⟩ rfl rfl rfl rfl rfl (by kernel_rfl) Tryz.func4 (by kernel_rfl)
    (of_decide_eq_true (by kernel_rfl)) (by unfold Func.isWrapper; first | (rw [if_pos (by decide +kernel)]; kernel_rfl) | (rw [if_neg (by decide +kernel)]; exact ⟨rfl, rfl⟩))
    (fun os started H enc _ => trieStays_lifted os started H enc)
theorem trieStays_card_holds : Rows.TrieStaysCardSaid :=
  Claim7.holds_tied_plain_at .later [] [.data, .data] true (true, "f84f57c633e618ddaa267e8995ade1a83e89bc599081a922b3bd4fb88292a552") true
    trieStays_holds (fun _ h => by cases h) (by kernel_rfl) (fun _ h => by cases h) trieStays_row_tie rfl ⟨rfl, rfl⟩ (by kernel_rfl) rfl
    (fun f fn hf hfn => by
      obtain rfl : f = 4 := Option.some.inj ((show Tryz.prog.funcNamed "brushwood/brushwoodlaw21.TrieStays" = some 4 by kernel_rfl).symm.trans hf) |>.symm
      obtain rfl : fn = Tryz.f4 := (Option.some.inj (Tryz.func4.symm.trans hfn)).symm
      exact ⟨by kernel_rfl, fun j t ht => by
        rw [Tryz.params4] at ht
        have hm : t ∈ [23, 24] := by simpa using Array.mem_of_getElem? ht
        have hall : ([23, 24].all fun u => !Tryz.prog.wantsStandIn u) = true := by kernel_rfl
        exact (show Tryz.prog.wantsStandIn t = false by simpa using List.all_eq_true.1 hall t hm)⟩)
    (by kernel_rfl)
end Go.Proofs.YtadaoceidkagfaaGreatDoor
