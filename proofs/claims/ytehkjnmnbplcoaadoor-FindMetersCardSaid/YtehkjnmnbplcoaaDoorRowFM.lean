/-
  Proved: whatever the entries, the hash and the key are, brushwoodlaw18.FindMeters returns true, and its arguments read as they did: the row over the listed table, and the tied card. No condition is added.
-/
import Derived.Test.YtehkjnmnbplcoaaDoorRows
import Derived.Test.YtehkjnmnbplcoaaDoorCards
import Derived.Test.YtehkjnmnbplcoaaDoorTie
import Derived.Test.YtehkjnmnbplcoaaDoorDoorG
import Derived.Test.YtehkjnmnbplcoaaDoorLaw10
import Derived.ProofKit
import Derived.LaidMore
import Derived.MakeChecks
import Derived.OpenShut
import Derived.Stop.Joined
import Derived.Lib.LaidTab
import Derived.SevenTiedAt
namespace Go.Proofs.YtehkjnmnbplcoaaDoor
open Go.ChangeShapes Go.WideShapes Go.ChangeAt Go.RowKit Go.Bw

theorem entsReadable : Tryd.prog.readableRec 54 = true := by kernel_rfl
theorem entsRow : 54 < Tryd.prog.types.size := of_decide_eq_true (by kernel_rfl)
theorem byteReadable : Tryd.prog.readableRec 29 = true := by kernel_rfl
theorem byteRow : 29 < Tryd.prog.types.size := of_decide_eq_true (by kernel_rfl)

set_option maxRecDepth 100000 in
theorem findMeters_lifted (os : Os) (started : os.Started) (H : Type) (enc : TypeId × Value → H) :
    ReturnsInHanded {} Tryd.checked os 11 .any (fun w args => (Rows.findMetersSpec.pre enc Tryd.prog Tryd.f11 [] false w args ∧ laidMetH Tryd.prog laidR w) ∧ sizedMet enc Tryd.prog Tryd.f11 (OpenSpec.ofChange Rows.findMetersSpec) false w args)
      (Rows.findMetersSpec.post enc Tryd.prog Tryd.f11 false true false false) := by
  refine returnsInHanded_of_change_and (C := Tryd.checked) (X := fun w _ => laidMetH Tryd.prog laidR w) (fun _ _ _ hh h => h.of_heap hh) Tryd.ownKnobB started (by kernel_rfl) Tryd.func11
    (ChangeSpec.witness_shaped (enc := enc) (C := Tryd.checked) (os := os) (X := fun w _ => laidMetH Tryd.prog laidR w) false (World.doorLaid Tryd.prog 14 os) #[.slice none 0 0, .int .u64 0, .slice none 0 0] 8 rfl (World.shaped_of_RefB (by kernel_rfl) (by kernel_rfl)) (by kernel_rfl) (by kernel_rfl) (by kernel_rfl) (door_met os _)) ?_
  intro W base args ds gs before hval0 hW _ _ hL _
  have hval : ∀ (j : Nat) t v, Tryd.f11.params[j]? = some t → args[j]? = some v → Value.okWide Tryd.prog W .any base t v := hval0
  have hW' := hW
  obtain ⟨p, q, hA0, hV, rfl, hfz, hnd⟩ := hW
  have hA : DataW.TrodAll enc Tryd.prog W 0 (fun _ => true) true Tryd.f11.params.toList args.toList ds p := hA0
  rw [Tryd.params11] at hA hval
  obtain ⟨v0, v1, v2, d0, d1, d2, p0, p1, p2, rfl, rfl, rfl, h0, h1, h2⟩ := trodAll_three hA
  obtain ⟨rfl, rfl⟩ := trodVars_none hV
  obtain ⟨a0, len0, cap0, rfl⟩ := okWide_slice Tryd.underlying54 (hval 0 _ _ rfl rfl)
  obtain ⟨l, hl, hh⟩ := ents_of rfl h0
  obtain ⟨kk, rfl, rfl, rfl, wk⟩ := open_int Tryd.underlying39 (hval 1 _ v1 rfl rfl) h1
  obtain ⟨n, rfl⟩ : ∃ n : Nat, kk = (n : Int) := ⟨kk.toNat, by have := bounds_u64 wk; omega⟩
  have hn : n < 18446744073709551616 := by have := bounds_u64 wk; omega
  obtain ⟨a2, len2, cap2, rfl⟩ := okWide_slice Tryd.underlying29 (hval 2 _ _ rfl rfl)
  obtain ⟨kb, hkb⟩ := bytes_of rfl h2
  have hlt0 : ∀ x ∈ p0, x.block < W.heap.size := fun x hx => hW'.lt x (by simp [hx])
  have hlt2 : ∀ x ∈ p2, x.block < W.heap.size := fun x hx => hW'.lt x (by simp [hx])
  clear hA0 hval0
  simp only [List.append_nil] at hW'
  refine (findmeters_any hl hh hn hkb (tab_of_laid hL)).mono fun e W' ⟨he, hB⟩ => ?_
  subst he
  have hT := trodAll_mk3 (Below.trod Tryd.laidOutBw entsReadable entsRow h0 hB hlt0) (shut_int Tryd.underlying39 wk) (Below.trod Tryd.laidOutBw byteReadable byteRow h2 hB hlt2)
  rw [List.nil_append] at hT
  refine ⟨_, rfl, _, _, _, [], p0 ++ p2, [], hW', trodAll_mk1 (shut_bool Tryd.underlying4 true), hT, rfl, hB.frame _, fun h => by cases h⟩

theorem findMeters_holds : Rows.FindMetersSaid :=
  OpenClaim.holds_of_wide 11 Tryd.f11 rfl rfl rfl rfl rfl rfl rfl ⟨rfl, rfl, rfl, rfl, rfl⟩ rfl rfl rfl rfl rfl (by kernel_rfl) Tryd.func11 (by kernel_rfl)
    (of_decide_eq_true (by kernel_rfl)) (by unfold Func.isWrapper; first | (rw [if_pos (by decide +kernel)]; kernel_rfl) | (rw [if_neg (by decide +kernel)]; exact ⟨rfl, rfl⟩))
    (fun os started H enc _ => findMeters_lifted os started H enc)

theorem findMeters_card_holds : Rows.FindMetersCardSaid :=
  Claim7.holds_tied_plain_at .later [] [.data] true (true, "413fec3837babb5d473411db71a702f23f29c998bd00833c259dea0914f16826") true
    findMeters_holds (fun _ h => by cases h) (by kernel_rfl) (fun _ h => by cases h) findMeters_row_tie rfl ⟨rfl, rfl⟩ (by kernel_rfl) rfl
    (fun f fn hf hfn => by
      obtain rfl : f = 11 := Option.some.inj ((show Tryd.prog.funcNamed "brushwood/brushwoodlaw18.FindMeters" = some 11 by kernel_rfl).symm.trans hf) |>.symm
      obtain rfl : fn = Tryd.f11 := (Option.some.inj (Tryd.func11.symm.trans hfn)).symm
      exact ⟨by kernel_rfl, fun j t ht => by
        rw [Tryd.params11] at ht
        have hm : t ∈ [54, 39, 29] := by simpa using Array.mem_of_getElem? ht
        have hall : ([54, 39, 29].all fun u => !Tryd.prog.wantsStandIn u) = true := by kernel_rfl
        exact (show Tryd.prog.wantsStandIn t = false by simpa using List.all_eq_true.1 hall t hm)⟩)
    (by kernel_rfl)
end Go.Proofs.YtehkjnmnbplcoaaDoor
