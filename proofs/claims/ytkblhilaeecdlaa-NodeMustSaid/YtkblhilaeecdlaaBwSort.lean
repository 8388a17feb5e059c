/- What pair.Come does, as plain lists: a stable insertion, then of each key the last one: it is 'come'. -/
import Derived.Test.YtkblhilaeecdlaaBwModel
namespace Bw

/-- behind all that are not greater -/
def insR (s : List PV) (x : PV) : List PV :=
  match s with
  | [] => [x]
  | q :: r => if lt x.1 q.1 then x :: q :: r else q :: insR r x

/-- of each run of one key the last one -/
def lastOf : List PV → List PV
  | [] => []
  | [p] => [p]
  | p :: q :: r => if p.1 = q.1 then lastOf (q :: r) else p :: lastOf (q :: r)

/-- the keys don't fall -/
def Sorted (m : List PV) : Prop := m.Pairwise fun p q => ¬ lt q.1 p.1

theorem not_lt_trans {a b c : Bytes} (h : ¬ lt b a) (k : ¬ lt c b) : ¬ lt c a := by
  rcases lt_or a b with x | x | x
  · rcases lt_or b c with y | y | y
    · exact lt_asymm (lt_trans x y)
    · subst y; exact lt_asymm x
    · exact absurd y k
  · subst x; exact k
  · exact absurd x h

theorem mem_insR {s : List PV} {x y : PV} (h : y ∈ insR s x) : y = x ∨ y ∈ s := by
  induction s with
  | nil => simp [insR] at h; exact .inl h
  | cons q r ih =>
    simp only [insR] at h
    split at h
    · simpa using h
    · simp only [List.mem_cons] at h ⊢
      rcases h with h | h
      · exact .inr (.inl h)
      · rcases ih h with h | h
        · exact .inl h
        · exact .inr (.inr h)

theorem sorted_insR {s : List PV} (hs : Sorted s) (x : PV) : Sorted (insR s x) := by
  induction s with
  | nil => simp [insR, Sorted]
  | cons q r ih =>
    obtain ⟨h1, h2⟩ := List.pairwise_cons.1 hs
    simp only [insR]
    by_cases a : lt x.1 q.1
    · simp only [a, if_true]
      refine List.pairwise_cons.2 ⟨fun y hy => ?_, hs⟩
      rcases List.mem_cons.1 hy with rfl | hy
      · exact lt_asymm a
      · exact not_lt_trans (lt_asymm a) (h1 y hy)
    · simp only [a, if_false]
      refine List.pairwise_cons.2 ⟨fun y hy => ?_, ih h2⟩
      rcases mem_insR hy with rfl | hy
      · exact a
      · exact h1 y hy

theorem lastOf_head {q : PV} {r : List PV} (hs : Sorted (q :: r)) : ∃ v t, lastOf (q :: r) = (q.1, v) :: t := by
  induction r generalizing q with
  | nil => exact ⟨q.2, [], rfl⟩
  | cons q2 r ih =>
    obtain ⟨_, h2⟩ := List.pairwise_cons.1 hs
    simp only [lastOf]
    by_cases e : q.1 = q2.1
    · simp only [e, if_true]
      exact ih h2
    · simp only [e, if_false]
      exact ⟨q.2, _, rfl⟩

theorem lastOf_insR {s : List PV} (hs : Sorted s) (x : PV) : lastOf (insR s x) = put (lastOf s) x := by
  induction s with
  | nil => rfl
  | cons q r ih =>
    obtain ⟨h1, h2⟩ := List.pairwise_cons.1 hs
    have ih := ih h2
    simp only [insR]
    by_cases a : lt x.1 q.1
    · simp only [a, if_true, lastOf]
      have ne : x.1 ≠ q.1 := lt_ne a
      obtain ⟨v, t, hv⟩ := lastOf_head hs
      rw [if_neg ne, hv]
      simp only [put]
      rw [if_neg (lt_asymm a), if_neg (fun e => ne e.symm)]
    · simp only [a, if_false]
      have hqx : lt q.1 x.1 ∨ q.1 = x.1 := by
        rcases lt_or q.1 x.1 with h | h | h
        · exact .inl h
        · exact .inr h
        · exact absurd h a
      cases r with
      | nil =>
        simp only [insR, lastOf, put]
        rcases hqx with h | h
        · rw [if_neg (lt_ne h), if_pos h]
        · rw [if_pos h, if_neg (by rw [h]; exact lt_irrefl _), if_pos h]
      | cons q2 r2 =>
        have hstep : lastOf (q :: insR (q2 :: r2) x) = if q.1 = (insR (q2 :: r2) x).head!.1 then lastOf (insR (q2 :: r2) x) else q :: lastOf (insR (q2 :: r2) x) := by
          simp only [insR]; split <;> rfl
        rw [hstep, ih]
        by_cases b : lt x.1 q2.1
        · have hh : (insR (q2 :: r2) x).head! = x := by simp only [insR, b, if_true]; rfl
          rw [hh]
          have hq2 : q.1 ≠ q2.1 := by
            intro e
            rcases hqx with h | h
            · exact lt_irrefl _ (e ▸ lt_trans h b)
            · exact lt_ne b (h.symm.trans e)
          have hl : lastOf (q :: q2 :: r2) = q :: lastOf (q2 :: r2) := by simp only [lastOf]; rw [if_neg hq2]
          rw [hl]
          simp only [put]
          rcases hqx with h | h
          · rw [if_neg (lt_ne h), if_pos h]
          · rw [if_pos h, if_neg (by rw [h]; exact lt_irrefl _), if_pos h]
            obtain ⟨v, t, hv⟩ := lastOf_head h2
            rw [hv]
            simp only [put]
            rw [if_neg (lt_asymm b), if_neg (fun e => lt_ne b e.symm)]
        · have hh : (insR (q2 :: r2) x).head! = q2 := by simp only [insR, b, if_false]; rfl
          rw [hh]
          by_cases e : q.1 = q2.1
          · have hl : lastOf (q :: q2 :: r2) = lastOf (q2 :: r2) := by simp only [lastOf]; rw [if_pos e]
            rw [if_pos e, hl]
          · have hl : lastOf (q :: q2 :: r2) = q :: lastOf (q2 :: r2) := by simp only [lastOf]; rw [if_neg e]
            rw [if_neg e, hl]
            simp only [put]
            have hlt : lt q.1 x.1 := by
              rcases lt_or q.1 q2.1 with y | y | y
              · rcases lt_or q2.1 x.1 with z | z | z
                · exact lt_trans y z
                · exact z ▸ y
                · exact absurd z b
              · exact absurd y e
              · exact absurd y (h1 q2 (by simp))
            rw [if_pos hlt]

/-- a stable insertion sort -/
def sortS (l : List PV) : List PV := l.foldl insR []

theorem sorted_sortS (l : List PV) : Sorted (sortS l) := by
  suffices h : ∀ s, Sorted s → Sorted (l.foldl insR s) from h [] (by simp [Sorted])
  induction l with
  | nil => intro s h; exact h
  | cons p r ih => intro s h; exact ih _ (sorted_insR h p)

theorem lastOf_sortS (l : List PV) : lastOf (sortS l) = come l := by
  suffices h : ∀ s, Sorted s → lastOf (l.foldl insR s) = l.foldl put (lastOf s) from h [] (by simp [Sorted])
  induction l with
  | nil => intro s _; rfl
  | cons p r ih =>
    intro s h
    simp only [List.foldl_cons]
    rw [ih _ (sorted_insR h p), lastOf_insR h]

theorem drop_two {L : List PV} {k : Nat} (h : k + 1 < L.length) : L.drop k = L[k] :: L[k + 1] :: L.drop (k + 2) := by
  rw [List.drop_eq_getElem_cons (by omega), List.drop_eq_getElem_cons h]
theorem lastOf_same {L : List PV} {k : Nat} (h : k + 1 < L.length) (hs : L[k + 1].1 = L[k].1) : lastOf (L.drop k) = lastOf (L.drop (k + 1)) := by
  rw [drop_two h, lastOf, if_pos hs.symm, ← List.drop_eq_getElem_cons h]
theorem lastOf_other {L : List PV} {k : Nat} (h : k + 1 < L.length) (hs : ¬ L[k + 1].1 = L[k].1) : lastOf (L.drop k) = L[k] :: lastOf (L.drop (k + 1)) := by
  rw [drop_two h, lastOf, if_neg (fun e => hs e.symm), ← List.drop_eq_getElem_cons h]
theorem lastOf_end {L : List PV} {k : Nat} (hk : k < L.length) (h : ¬ k + 1 < L.length) : lastOf (L.drop k) = L[k] :: lastOf (L.drop (k + 1)) := by
  have e : L.drop (k + 1) = [] := List.drop_eq_nil_of_le (by omega)
  rw [List.drop_eq_getElem_cons hk, e]; rfl

theorem length_insR (s : List PV) (x : PV) : (insR s x).length = s.length + 1 := by
  induction s with
  | nil => rfl
  | cons r s ih => simp only [insR]; split <;> simp [ih]

theorem length_sortS (l : List PV) : (sortS l).length = l.length := by
  suffices h : ∀ s : List PV, (l.foldl insR s).length = s.length + l.length from (h []).trans (by simp)
  induction l with
  | nil => intro s; simp
  | cons p r ih => intro s; rw [List.foldl_cons, ih, length_insR, List.length_cons]; omega

end Bw
