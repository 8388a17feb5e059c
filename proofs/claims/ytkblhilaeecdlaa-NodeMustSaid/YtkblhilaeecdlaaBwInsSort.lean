/- The library's insertion sort, over arrays, is the plain stable insertion of lists. -/
import Derived.Test.YtkblhilaeecdlaaBwSort
import Derived.Sort.Defs
namespace Bw
open Go.Sort (swp insInner insOuter insertionSort)

theorem insR_snoc {s : List PV} {q x : PV} (h : lt x.1 q.1) : insR (s ++ [q]) x = insR s x ++ [q] := by
  induction s with
  | nil => simp [insR, h]
  | cons r s ih =>
    simp only [List.cons_append, insR]
    split
    · rfl
    · rw [ih]; rfl

theorem insR_all {s : List PV} {x : PV} (h : ∀ r ∈ s, ¬ lt x.1 r.1) : insR s x = s ++ [x] := by
  induction s with
  | nil => rfl
  | cons r s ih =>
    simp only [insR, List.cons_append]
    rw [if_neg (h r (by simp)), ih (fun r hr => h r (by simp [hr]))]

section
variable {α : Type} [Inhabited α] (f : α → PV) (less : α → α → Bool) (hless : ∀ x y, less x y = true ↔ lt (f x).1 (f y).1)

theorem swp_toList {d : Array α} {s t : List α} {q x : α} (hd : d.toList = s ++ q :: x :: t) : (swp d (s.length + 1) s.length).toList = s ++ x :: q :: t := by
  have h1 : d[s.length]! = q := by
    have : d.toList[s.length]? = some q := by rw [hd]; simp
    simp only [Array.getElem?_toList] at this
    simp [getElem!_def, this]
  have h2 : d[s.length + 1]! = x := by
    have : d.toList[s.length + 1]? = some x := by
      rw [hd, List.getElem?_append_right (by omega)]
      have : s.length + 1 - s.length = 1 := by omega
      rw [this]; rfl
    simp only [Array.getElem?_toList] at this
    simp [getElem!_def, this]
  unfold swp
  rw [h1, h2]
  simp only [Array.toList_setIfInBounds, hd]
  rw [List.set_append_right _ _ (by omega), List.set_append_right _ _ (by omega)]
  have e1 : s.length + 1 - s.length = 1 := by omega
  rw [e1, Nat.sub_self]
  rfl

include hless in
theorem insInner_toList : ∀ (j : Nat) (d : Array α) (s t : List α) (x : α), d.toList = s ++ x :: t → s.length = j → Sorted (s.map f) →
    (insInner less 0 j d).toList.map f = insR (s.map f) (f x) ++ t.map f := by
  intro j
  induction j with
  | zero =>
    intro d s t x hd hs _
    obtain rfl : s = [] := List.eq_nil_of_length_eq_zero hs
    simp [insInner, hd, insR]
  | succ j ih =>
    intro d s t x hd hs hsorted
    obtain ⟨s', q, rfl⟩ : ∃ s' q, s = s' ++ [q] := by
      have hne : s ≠ [] := by intro e; subst e; simp at hs
      exact ⟨s.dropLast, s.getLast hne, (List.dropLast_concat_getLast hne).symm⟩
    have hs' : s'.length = j := by simpa using hs
    have hd' : d.toList = s' ++ q :: x :: t := by rw [hd]; simp
    have h1 : d[j]! = q := by
      have : d.toList[j]? = some q := by rw [hd', ← hs']; simp
      simp only [Array.getElem?_toList] at this
      simp [getElem!_def, this]
    have h2 : d[j + 1]! = x := by
      have : d.toList[j + 1]? = some x := by
        rw [hd', List.getElem?_append_right (by omega)]
        have : j + 1 - s'.length = 1 := by omega
        rw [this]; rfl
      simp only [Array.getElem?_toList] at this
      simp [getElem!_def, this]
    simp only [insInner, h1, h2]
    have hgt : decide (j + 1 > 0) = true := by simp
    rw [hgt, Bool.true_and]
    simp only [List.map_append, List.map_cons, List.map_nil] at hsorted ⊢
    by_cases hx : less x q = true
    · rw [if_pos hx]
      have hsw := swp_toList (d := d) hd'
      rw [hs'] at hsw
      rw [ih _ s' (q :: t) x hsw hs' (List.pairwise_append.1 hsorted).1]
      rw [insR_snoc ((hless x q).1 hx)]
      simp
    · rw [if_neg hx, hd']
      have hxq : ¬ lt (f x).1 (f q).1 := fun h => hx ((hless x q).2 h)
      rw [insR_all]
      · simp
      · intro r hr
        rcases List.mem_append.1 hr with hr | hr
        · have := (List.pairwise_append.1 hsorted).2.2 r hr (f q) (by simp)
          exact not_lt_trans this hxq
        · simp only [List.mem_singleton] at hr
          subst hr; exact hxq

include hless in
theorem insOuter_toList : ∀ (k i : Nat) (d : Array α) (s t : List α), t.length = k → d.toList.map f = s.map f ++ t.map f → s.length = i → Sorted (s.map f) →
    (insOuter less 0 (i + k) i d).toList.map f = (t.map f).foldl insR (s.map f) := by
  intro k
  induction k with
  | zero =>
    intro i d s t ht hd _ _
    obtain rfl : t = [] := List.eq_nil_of_length_eq_zero ht
    rw [insOuter, if_neg (by omega)]
    simpa using hd
  | succ k ih =>
    intro i d s t ht hd hs hsorted
    rw [insOuter, if_pos (by omega)]
    -- the array's own elements
    have hlen : d.toList.length = i + (k + 1) := by
      have := congrArg List.length hd
      simpa [hs, ht] using this
    obtain ⟨x, hx⟩ : ∃ x, d.toList[i]? = some x := ⟨_, List.getElem?_eq_getElem (by omega)⟩
    have hsplit : d.toList = d.toList.take i ++ x :: d.toList.drop (i + 1) := by
      obtain ⟨h1, h2⟩ := List.getElem?_eq_some_iff.1 hx
      rw [← h2, ← List.drop_eq_getElem_cons h1, List.take_append_drop]
    have htake : (d.toList.take i).map f = s.map f := by
      rw [List.map_take, hd, List.take_left' (by simpa using hs)]
    have hdrop : (d.toList.drop i).map f = t.map f := by
      rw [List.map_drop, hd, List.drop_left' (by simpa using hs)]
    have hin := insInner_toList f less hless i d (d.toList.take i) (d.toList.drop (i + 1)) x hsplit (by rw [List.length_take]; omega) (by rw [htake]; exact hsorted)
    rw [htake] at hin
    cases t with
    | nil => simp at ht
    | cons y t =>
      have hdr : d.toList.drop i = x :: d.toList.drop (i + 1) := by
        obtain ⟨h1, h2⟩ := List.getElem?_eq_some_iff.1 hx
        rw [← h2, ← List.drop_eq_getElem_cons h1]
      rw [hdr] at hdrop
      simp only [List.map_cons, List.cons.injEq] at hdrop
      obtain ⟨hxy, hdt⟩ := hdrop
      rw [hdt, hxy] at hin
      -- the prefix that is sorted now, as elements
      have hlen2 : (insInner less 0 i d).toList.length = i + (k + 1) := by
        have := congrArg List.length hin
        have hl : (insR (s.map f) (f y)).length = s.length + 1 := by
          clear hin this htake hd hs hsorted hlen hxy
          induction s with
          | nil => rfl
          | cons r s ih => simp only [List.map_cons, insR]; split <;> simp [ih]
        simp only [List.length_map, List.length_append, hl] at this
        simp at ht
        omega
      have e := ih (i + 1) (insInner less 0 i d) ((insInner less 0 i d).toList.take (i + 1)) ((insInner less 0 i d).toList.drop (i + 1)) (by simp at ht; simp; simp at hlen2; omega)
        (by rw [← List.map_append, List.take_append_drop]) (by simp; simp at hlen2; omega)
      have hl : (insR (s.map f) (f y)).length = i + 1 := by
        rw [← hs]
        clear hin htake hd hs hsorted hlen hlen2 e hxy
        induction s with
        | nil => rfl
        | cons r s ih => simp only [List.map_cons, insR]; split <;> simp [ih]
      have ht1 : ((insInner less 0 i d).toList.take (i + 1)).map f = insR (s.map f) (f y) := by
        rw [List.map_take, hin, List.take_left' hl]
      have ht2 : ((insInner less 0 i d).toList.drop (i + 1)).map f = t.map f := by
        rw [List.map_drop, hin, List.drop_left' hl]
      rw [ht1, ht2] at e
      have en : i + (k + 1) = i + 1 + k := by omega
      rw [en, e (sorted_insR hsorted _)]
      rfl

include hless in
theorem insertionSort_toList (d : Array α) : (insertionSort less d 0 d.size).toList.map f = sortS (d.toList.map f) := by
  unfold insertionSort
  cases hl : d.toList with
  | nil =>
    have h0 : d.size = 0 := by simpa using congrArg List.length hl
    rw [insOuter, if_neg (by omega), hl]
    rfl
  | cons x t =>
    have h0 : d.size = 1 + t.length := by
      have := congrArg List.length hl
      simp at this; omega
    rw [h0, insOuter_toList f less hless t.length 1 d [x] t rfl (by rw [hl]; rfl) rfl (by simp [Sorted])]
    simp [sortS, insR]
end
end Bw
