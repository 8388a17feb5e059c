
import Derived.Test.YtadaoceidkagfaaGreatDoorGA
import Derived.Test.YtadaoceidkagfaaGreatDoorLSameA
import Derived.Lib.ConvBytes
import Derived.Deep.DeepCutAuto
import Derived.Deep.RegionHeldLaw
import Derived.Test.YtadaoceidkagfaaGreatDoorTrieT
namespace Go.Proofs.YtadaoceidkagfaaGreatDoor
open Go.RowKit Go.Bw
theorem fit_thin (n : Bw.N) : n.fit -> n.thin := by
  refine Bw.N.ind (P := fun n => n.fit -> n.thin) ?_ ?_ ?_ n
  · intro h p _; trivial
  · intro h t _; trivial
  · intro m kids ih hf
    simp only [Bw.N.fit, Bw.N.fitL_iff] at hf
    simp only [Bw.N.thin, Bw.N.thinL_iff]
    exact ⟨hf.1, fun k hk => ih k hk (hf.2.2 k hk)⟩
end Go.Proofs.YtadaoceidkagfaaGreatDoor
/- A map's layout under any hash: what the document makes of it, how slim it is; two of one map are the same. -/
namespace Go.Proofs.YtadaoceidkagfaaGreatDoor
open Go.RowKit Go.Bw
theorem ents_abs {F : Bw.Bytes -> Nat} {m : List Bw.PV} {o : Option Bw.N} (hF : ∀ k, F k < 18446744073709551616) (hm : MapOk m) (h : Bw.OLays 0 o (Bw.ents F m)) : Bw.layX 13 0 (Bw.ents F m) = Bw.absO o := by
  cases o with
  | none =>
    simp only [Bw.OLays] at h
    rw [h]
    exact Bw.layX_nil _ _
  | some n => exact Bw.lays_abs h 13 _ rfl (Bw.unlike_ents hm.rises) (fun _ => Iff.rfl) ⟨0, fun _ _ => Nat.mod_one _⟩ (ents_hash hF)
theorem ents_slim {F : Bw.Bytes -> Nat} {m : List Bw.PV} {o : Option Bw.N} (hF : ∀ k, F k < 18446744073709551616) (hm : MapOk m) (hl : m.length <= 1000) (h : Bw.OLays 0 o (Bw.ents F m)) : ∀ n, o = some n -> Slim n := by
  rintro n rfl
  have hu := Bw.unlike_ents (F := F) hm.rises
  obtain ⟨_, h2, h3⟩ := lays_visits h _ hu (fun _ => Iff.rfl) (by decide) ⟨0, fun _ _ => Nat.mod_one _⟩ (ents_hash hF)
  have h4 := Bw.lays_count h _ hu (fun _ => Iff.rfl)
  rw [Bw.length_ents] at h3 h4
  refine ⟨ents_fit hm h n rfl, fun x hx => Nat.le_trans (h2 x hx) (by decide), ?_⟩
  rw [vol_wtE, held_count, h4]
  omega
end Go.Proofs.YtadaoceidkagfaaGreatDoor
