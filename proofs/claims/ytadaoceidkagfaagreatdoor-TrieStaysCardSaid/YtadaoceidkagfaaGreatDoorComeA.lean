
import Derived.Test.YtadaoceidkagfaaGreatDoorBwAll
import Derived.Test.YtadaoceidkagfaaGreatDoorRef19
import Derived.Shelf.SlicesQ.Reverse
import Derived.Shelf.SlSortCmp.WholeK
import Derived.Maps.Own
import Derived.Maps.OwnOps
import Derived.Maps.Views
import Derived.Test.YtadaoceidkagfaaGreatDoorLSameA
import Derived.Deep.RegionLaw
import Derived.Deep.QuietTactic
import Derived.BigQuiet
namespace Go.Proofs.YtadaoceidkagfaaGreatDoor
open Go.RowKit Go.Bw Go.Shelf Go.Lib Go.Sort Go.Proofs
structure Ge {α : Type} (d : Knd α) (ok : Nat -> Prop) (w : World) where
  x : α
  cs : List Value
  h : d ok w x cs
abbrev entO : Knd Bw.En := prK natK64 pairO
theorem entO_mk {ok : Nat -> Prop} {w : World} {e : Bw.En} {u v : Value} {b b' : Nat} (hu : OwnAt 5 1 byteK ok w b u e.2.1) (hv : OwnAt 5 1 byteK ok w b' v e.2.2) : entO ok w e [.int .u64 (e.1 : Nat), u, v] :=
  ⟨[.int .u64 (e.1 : Nat)], [u, v], rfl, rfl, pairO_mk hu hv⟩
instance (ok : Nat -> Prop) (w : World) : Inhabited (Ge entO ok w) := ⟨⟨(0, [], []), _, entO_mk (e := (0, [], [])) (b := 0) (b' := 0) OwnAt.nil OwnAt.nil⟩⟩
open Go.RowKit Go.Bw Go.Maps
def SeenAt (w : World) (b n : Nat) (l : List Bw.Bytes) : Prop :=
  ∃ D : DataW Unit, w.ownsMap Tryz.prog 9 (plainElem Tryz.prog 3) b n D /\ IsMap D /\ ∀ s : Bw.Bytes, D.atKey (.string s) (.lit (.int .i64 0)) = .lit (.int .i64 (l.count s : Nat))
theorem SeenAt.made (w : World) : SeenAt (w.alloc (.map #[] 0)) w.heap.size 0 [] :=
  ⟨.map [], World.ownsMap_made _ _ _ _, isMap_empty, fun s => by simp [DataW.atKey]⟩
theorem SeenAt.kept {w w' : World} {b n : Nat} {l : List Bw.Bytes} {row : Option Nat} (h : SeenAt w b n l) (hg : w.grownBy w' row) (hne : some b ≠ row) : SeenAt w' b n l := by
  obtain ⟨D, h1, h2, h3⟩ := h
  exact ⟨D, h1.kept hg hne, h2, h3⟩
theorem SeenAt.lt {w : World} {b n : Nat} {l : List Bw.Bytes} (h : SeenAt w b n l) : b < w.heap.size := by
  obtain ⟨D, h1, _, _⟩ := h
  exact h1.lt
open Go.RowKit Go.Bw
def _root_.Bw.lasts : List Bw.En -> List Bw.En
  | [] => []
  | e :: r => if (r.map (·.2.1)).count e.2.1 = 0 then e :: Bw.lasts r else Bw.lasts r
theorem lasts_len (l : List Bw.En) : (Bw.lasts l).length <= l.length := by
  induction l with
  | nil => simp [Bw.lasts]
  | cons e r ih => simp only [Bw.lasts]; split <;> simp <;> omega
theorem SeenAt.below {w w' : World} {b n : Nat} {l : List Bw.Bytes} (h : SeenAt w b n l) (hw : Below w.heap.size w w') : SeenAt w' b n l :=
  h.kept (row := none) ⟨hw.os, hw.tape, hw.output, hw.size, fun k hk _ => hw.block k hk⟩ (by simp)
open Go.RowKit Go.Bw
open Go.RowKit Go.Bw
end Go.Proofs.YtadaoceidkagfaaGreatDoor
