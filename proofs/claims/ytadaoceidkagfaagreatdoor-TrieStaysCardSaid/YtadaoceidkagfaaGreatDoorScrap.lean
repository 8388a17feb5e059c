/- What a call may scribble upon: rows of bytes of its own. -/
import Derived.Test.YtadaoceidkagfaaGreatDoorComeA
namespace Go.Proofs.YtadaoceidkagfaaGreatDoor
open Go.RowKit Go.Bw
structure Aside (D : Nat -> Prop) (w w' : World) : Prop where
  os : w'.os = w.os
  tape : w'.tape = w.tape
  output : w'.output = w.output
  size : w.heap.size <= w'.heap.size
  block : ∀ k, k < w.heap.size -> ¬ D k -> w'.heap[k]? = w.heap[k]?
theorem Aside.of_below {D : Nat -> Prop} {w w' : World} (h : Below w.heap.size w w') : Aside D w w' := ⟨h.os, h.tape, h.output, h.size, fun k hk _ => h.block k hk⟩
theorem Aside.refl (D : Nat -> Prop) (w : World) : Aside D w w := ⟨rfl, rfl, rfl, Nat.le_refl _, fun _ _ _ => rfl⟩
theorem Aside.trans {D : Nat -> Prop} {a b c : World} (h : Aside D a b) (k : Aside D b c) : Aside D a c :=
  ⟨k.os.trans h.os, k.tape.trans h.tape, k.output.trans h.output, Nat.le_trans h.size k.size, fun i hi hn => (k.block i (Nat.lt_of_lt_of_le hi h.size) hn).trans (h.block i hi hn)⟩
theorem Aside.set {D : Nat -> Prop} (w : World) {b : Nat} (o : Nat) (u : Value) (hb : D b) : Aside D w (w.setCell ⟨b, o, none⟩ u) :=
  ⟨rfl, rfl, rfl, by simp, fun k _ hn => Below.heap_setCell w ⟨b, o, none⟩ u k (fun e => hn (by simp only at e; rw [e]; exact hb))⟩
theorem Aside.grown {D : Nat -> Prop} {w w' : World} {r : Option Nat} (h : w.grownBy w' r) (hr : ∀ k, r = some k -> D k) : Aside D w w' :=
  ⟨h.os, h.tape, h.output, h.size, fun k hk hn => h.block k hk (fun e => hn (hr k e.symm))⟩
theorem Aside.moves {D ok : Nat -> Prop} {w w' : World} (h : Aside D w w') (hok : ∀ k, ok k -> ¬ D k) : Moves ok ok w w' := fun k hk hl => ⟨hk, h.block k hl (hok k hk)⟩
theorem Aside.below {D : Nat -> Prop} {n : Nat} {w w' : World} (h : Aside D w w') (hn : n <= w.heap.size) (hD : ∀ k, D k -> n <= k) : Below n w w' :=
  ⟨h.os, h.tape, h.output, h.size, fun k hk => h.block k (Nat.lt_of_lt_of_le hk hn) (fun hd => by have := hD k hd; omega)⟩
def Scrap (D : Nat -> Prop) (w : World) (v : Value) (n : Nat) : Prop :=
  ∃ A c, v = .slice A n c /\ ∀ j, j < n -> ∃ b o x, A = some ⟨b, o, none⟩ /\ D b /\ w.cell? ⟨b, o + j, none⟩ = some (.int .u8 x) /\ w.frozen? ⟨b, o + j, none⟩ = false
theorem Scrap.set {D : Nat -> Prop} {w : World} {v : Value} {n b o : Nat} {x : Int} (h : Scrap D w v n) : Scrap D (w.setCell ⟨b, o, none⟩ (.int .u8 x)) v n := by
  obtain ⟨A, c, rfl, h⟩ := h
  refine ⟨A, c, rfl, fun j hj => ?_⟩
  obtain ⟨b', o', y, rfl, hD, h1, h2⟩ := h j hj
  have hf : (w.setCell ⟨b, o, none⟩ (.int .u8 x)).frozen? ⟨b', o' + j, none⟩ = false := (World.frozen?_setCell _ _ _ _).trans h2
  by_cases e : (⟨b, o, none⟩ : Addr) = ⟨b', o' + j, none⟩
  · exact ⟨b', o', x, rfl, hD, by rw [e]; exact World.cell?_setCell_same w _ _ h1, hf⟩
  · exact ⟨b', o', y, rfl, hD, (World.cell?_setCell_other w _ _ _ e).trans h1, hf⟩
theorem Scrap.below {D : Nat -> Prop} {w w' : World} {v : Value} {n : Nat} (h : Scrap D w v n) (hB : Below w.heap.size w w') : Scrap D w' v n := by
  obtain ⟨A, c, rfl, h⟩ := h
  refine ⟨A, c, rfl, fun j hj => ?_⟩
  obtain ⟨b', o', y, rfl, hD, h1, h2⟩ := h j hj
  have hl := World.block_lt_of_cell? w _ h1
  exact ⟨b', o', y, rfl, hD, (hB.cell (p := ⟨b', o' + j, none⟩) hl).trans h1, (hB.frozen (p := ⟨b', o' + j, none⟩) hl).trans h2⟩
theorem Scrap.mono {D D' : Nat -> Prop} {w : World} {v : Value} {n : Nat} (h : Scrap D w v n) (hD : ∀ k, D k -> D' k) : Scrap D' w v n := by
  obtain ⟨A, c, rfl, h⟩ := h
  refine ⟨A, c, rfl, fun j hj => ?_⟩
  obtain ⟨b', o', y, rfl, h0, h1, h2⟩ := h j hj
  exact ⟨b', o', y, rfl, hD _ h0, h1, h2⟩
theorem Scrap.form {D : Nat -> Prop} {w : World} {v : Value} {n : Nat} (h : Scrap D w v n) : ∃ A c, v = .slice A n c := by
  obtain ⟨A, c, rfl, _⟩ := h
  exact ⟨A, c, rfl⟩
theorem Scrap.block {D : Nat -> Prop} {w w' : World} {v : Value} {n : Nat} (h : Scrap D w v n) (hB : ∀ k, D k -> k < w.heap.size -> w'.heap[k]? = w.heap[k]?) : Scrap D w' v n := by
  obtain ⟨A, c, rfl, h⟩ := h
  refine ⟨A, c, rfl, fun j hj => ?_⟩
  obtain ⟨b', o', y, rfl, hD, h1, h2⟩ := h j hj
  have hl := World.block_lt_of_cell? w _ h1
  have hb := hB b' hD hl
  exact ⟨b', o', y, rfl, hD, (World.cell?_of_block (w := w) (a := ⟨b', o' + j, none⟩) hb).trans h1, by rw [<- h2]; simp only [World.frozen?, hb]⟩
end Go.Proofs.YtadaoceidkagfaaGreatDoor
