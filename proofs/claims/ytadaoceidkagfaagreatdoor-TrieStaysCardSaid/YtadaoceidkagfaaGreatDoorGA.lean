
import Derived.Test.YtadaoceidkagfaaGreatDoorSameA
import Derived.Test.YtadaoceidkagfaaGreatDoorFitL
import Derived.Test.YtadaoceidkagfaaGreatDoorIntoAll
import Derived.Test.YtadaoceidkagfaaGreatDoorLayAll
import Derived.Test.YtadaoceidkagfaaGreatDoorLawA
namespace Go.Proofs.YtadaoceidkagfaaGreatDoor
open Go.RowKit Go.Bw
theorem _root_.Bw.mem_entries {t : List Nat} {m : List Bw.PV} {e : Bw.En} : e ∈ Bw.entries t m ↔ e.2 ∈ m /\ e.1 = Bw.tabHash t e.2.1 := by
  unfold Bw.entries
  rw [List.mem_map]
  constructor
  · rintro ⟨p, hp, rfl⟩; exact ⟨hp, rfl⟩
  · rintro ⟨h1, h2⟩; exact ⟨e.2, h1, by rw [<- h2]⟩
structure MapOk (m : List Bw.PV) : Prop where
  rises : Bw.Rises m
  len : m.length <= 1048000
  bytes : ∀ p ∈ m, p.1.length <= 1048576 /\ p.2.length <= 1048576
theorem MapOk.entries {t : List Nat} {m : List Bw.PV} (h : MapOk m) : ∀ e ∈ Bw.entries t m, e.2.1.length <= 1048576 /\ e.2.2.length <= 1048576 := fun e he => h.bytes e.2 (Bw.mem_entries.1 he).1
open Go.RowKit Go.Bw
open Go.RowKit Go.Bw
theorem onode_form {ok : Nat -> Prop} {w : World} {v : Value} {o : Option Bw.N} (h : ONodeAt nt ok w v o) : v = .nilIface \/ ∃ t b, v = .iface t (.pointer (some ⟨b, 0, none⟩)) := by
  cases o with
  | none => exact .inl h
  | some n => obtain ⟨t, b, rfl⟩ := NodeAt.form h; exact .inr ⟨t, b, rfl⟩
end Go.Proofs.YtadaoceidkagfaaGreatDoor
