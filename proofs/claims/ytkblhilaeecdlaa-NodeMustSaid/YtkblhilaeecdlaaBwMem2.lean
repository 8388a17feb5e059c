/- More of what lies in memory. -/
import Derived.Test.YtkblhilaeecdlaaBwNodeMem
namespace Go.Bw
open Go.RowKit

/-- The cells of a row, one behind the other. -/
theorem RowAt.newsG {α : Type} {sz : Nat} {d : Knd α} (hd : Good sz d) {ok : Nat → Prop} {w : World} {b o n c : Nat} {xs : List α} (h : RowAt sz d ok w (.slice (some ⟨b, o, none⟩) n c) xs) :
    ∀ k, k ≤ xs.length → ∃ news, Reps (d ok w) sz (xs.take k) news ∧ ∀ j u, news[j]? = some u → ok b ∧ w.cell? ⟨b, o + j, none⟩ = some u := by
  intro k
  induction k with
  | zero => intro _; exact ⟨[], by rw [List.take_zero]; exact Reps.nil _ _, fun j u hj => by simp at hj⟩
  | succ k ih =>
    intro hk
    obtain ⟨news, hr, hc⟩ := ih (by omega)
    have hlt : k < xs.length := by omega
    obtain ⟨b', o', cs, he, hx, hcs⟩ := h.get (List.getElem?_eq_getElem hlt)
    cases he
    have hl : news.length = k * sz := by rw [hr.1, List.length_take, Nat.min_eq_left (by omega)]
    refine ⟨news ++ cs, by rw [take_succ_snoc hlt]; exact hr.append (Reps.one hx (hd.len hx)), fun j u hj => ?_⟩
    rcases Nat.lt_or_ge j news.length with hj' | hj'
    · rw [List.getElem?_append_left hj'] at hj
      exact hc j u hj
    · rw [List.getElem?_append_right hj'] at hj
      have := hcs _ u hj
      rw [show o + (k * sz + (j - news.length)) = o + j by omega] at this
      exact this

theorem RowAt.news_all {α : Type} {sz : Nat} {d : Knd α} (hd : Good sz d) {ok : Nat → Prop} {w : World} {b o n c : Nat} {xs : List α} (h : RowAt sz d ok w (.slice (some ⟨b, o, none⟩) n c) xs) :
    ∃ news, Reps (d ok w) sz xs news ∧ ∀ j u, news[j]? = some u → ok b ∧ w.cell? ⟨b, o + j, none⟩ = some u := by
  have := h.newsG hd xs.length (Nat.le_refl _)
  rwa [List.take_length] at this

theorem Reps.move {α : Type} {sz : Nat} {d : Knd α} (hd : Good sz d) {ok ok' : Nat → Prop} {w w' : World} {xs : List α} {cs : List Value} (hm : Moves ok ok' w w') (h : Reps (d ok w) sz xs cs) : Reps (d ok' w') sz xs cs :=
  h.imp fun _ _ => hd.move hm

theorem RowAt.weaken {α : Type} {sz : Nat} {d : Knd α} (hd : Good sz d) {ok ok' : Nat → Prop} {w : World} {v : Value} {xs : List α} (h : RowAt sz d ok w v xs) (hk : ∀ k, ok k → ok' k) : RowAt sz d ok' w v xs :=
  h.move hd (Moves.weaken fun k h _ => hk k h)

/-- What is made in a call: all of its blocks are new, or let before. -/
theorem cell_new (w : World) (n : Nat) (cs : Array Value) (e : TypeId) (i : Nat) (v : Value) (h : cs[i]? = some v) : ((w.alloc (.cells cs e)).drewN n).cell? ⟨w.heap.size, i, none⟩ = some v := by
  show (w.alloc (.cells cs e)).cell? ⟨w.heap.size, i, none⟩ = some v
  unfold World.cell?
  simp only [heap_alloc_new w (.cells cs e)]
  exact h

end Go.Bw
