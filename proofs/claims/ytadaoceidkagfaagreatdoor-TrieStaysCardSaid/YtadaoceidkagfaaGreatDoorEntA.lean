
import Derived.Test.YtadaoceidkagfaaGreatDoorGA
import Derived.Test.YtadaoceidkagfaaGreatDoorLSameA
import Derived.Lib.ConvBytes
import Derived.Deep.DeepCutAuto
import Derived.Deep.RegionHeldLaw
import Derived.Test.YtadaoceidkagfaaGreatDoorTrieT
namespace Go.Proofs.YtadaoceidkagfaaGreatDoor
open Go.RowKit Go.Bw
end Go.Proofs.YtadaoceidkagfaaGreatDoor
/- A map's layout under any hash: what the document makes of it, how slim it is; two of one map are the same. -/
namespace Go.Proofs.YtadaoceidkagfaaGreatDoor
open Go.RowKit Go.Bw
theorem ents_abs {F : Bw.Bytes -> Nat} {m : List Bw.PV} {o : Option Bw.N} (hF : ∀ k, F k < 18446744073709551616) (hm : MapOk m) (h : Bw.OLays 0 o (Bw.ents F m)) : Bw.layX 13 0 (Bw.ents F m) = Bw.absO o := by
  cases o with
  | none =>
    simp only [Bw.OLays] at h
    rw [h]
    exact Bw.layX_nil _ _
  | some n => exact Bw.lays_abs h 13 _ rfl (Bw.unlike_ents hm.rises) (fun _ => Iff.rfl) ⟨0, fun _ _ => Nat.mod_one _⟩ (ents_hash hF)
end Go.Proofs.YtadaoceidkagfaaGreatDoor
