/- Two ways to one map: what is left of the second one is brought to the first one's. Plain. -/
import Derived.Test.YtadaoceidkagfaaGreatDoorBwT
import Derived.Test.YtadaoceidkagfaaGreatDoorBwG
namespace Bw
theorem rises_same {x M : List PV} (hx : Rises x) (hM : Rises M) (h1 : ∀ p ∈ x, p ∈ M) (h2 : ∀ q ∈ M, ∃ p ∈ x, p.1 = q.1) : M = x := by
  induction x generalizing M with
  | nil =>
    cases M with
    | nil => rfl
    | cons q r => obtain ⟨p, hp, _⟩ := h2 q (by simp); cases hp
  | cons a x ih =>
    obtain ⟨ha, hx'⟩ := List.pairwise_cons.1 hx
    cases M with
    | nil => exact absurd (h1 a (by simp)) (by simp)
    | cons q r =>
      obtain ⟨hq, hr⟩ := List.pairwise_cons.1 hM
      have haq : a = q := by
        rcases List.mem_cons.1 (h1 a (by simp)) with e | e
        · exact e
        · obtain ⟨p, hp, hpe⟩ := h2 q (by simp)
          rcases List.mem_cons.1 hp with e2 | e2
          · subst e2; exact absurd (hq p e) (by rw [hpe]; exact lt_irrefl _)
          · have l1 := ha p e2
            have l2 := hq a e
            rw [hpe] at l1
            exact absurd l1 (lt_asymm l2)
      subst haq
      rw [ih hx' hr (fun p hp => by
        rcases List.mem_cons.1 (h1 p (by simp [hp])) with e | e
        · exact absurd (ha p hp) (by rw [e]; exact lt_irrefl _)
        · exact e) (fun s hs => by
        obtain ⟨p, hp, hpe⟩ := h2 s (by simp [hs])
        rcases List.mem_cons.1 hp with e | e
        · subst e; exact absurd (hq s hs) (by rw [hpe]; exact lt_irrefl _)
        · exact ⟨p, e, hpe⟩)]
/-- while the second list's keys are gone through -/
def Cut1 (x y M : List PV) (j : Nat) : Prop := ∀ q ∈ M, q ∈ y ∧ ((∃ p ∈ x, p.1 = q.1) ∨ q ∈ y.drop j)
theorem cut1_start (x y : List PV) : Cut1 x y y 0 := fun q hq => ⟨hq, .inr (by simpa using hq)⟩
theorem cut1_in {x y M : List PV} {j : Nat} (h : Cut1 x y M j) (hj : j < y.length) (hi : ∃ p ∈ x, p.1 = y[j].1) : Cut1 x y M (j + 1) := fun q hq => by
  obtain ⟨h1, h2⟩ := h q hq
  refine ⟨h1, ?_⟩
  rcases h2 with h2 | h2
  · exact .inl h2
  · rw [List.drop_eq_getElem_cons hj] at h2
    rcases List.mem_cons.1 h2 with e | e
    · subst e; exact .inl hi
    · exact .inr e
theorem cut1_out {x y M : List PV} {j : Nat} (h : Cut1 x y M j) (hj : j < y.length) : Cut1 x y (without M y[j].1) (j + 1) := fun q hq => by
  obtain ⟨hq1, hq2⟩ := mem_without.1 hq
  obtain ⟨h1, h2⟩ := h q hq1
  refine ⟨h1, ?_⟩
  rcases h2 with h2 | h2
  · exact .inl h2
  · rw [List.drop_eq_getElem_cons hj] at h2
    rcases List.mem_cons.1 h2 with e | e
    · subst e; exact absurd rfl hq2
    · exact .inr e
theorem cut1_end {x y M : List PV} (h : Cut1 x y M y.length) : ∀ q ∈ M, ∃ p ∈ x, p.1 = q.1 := fun q hq => by
  rcases (h q hq).2 with h2 | h2
  · exact h2
  · simp at h2
/-- while the first list's pairs are put, the last one first: k are left -/
def Put1 (x M : List PV) (k : Nat) : Prop := (∀ q ∈ M, ∃ p ∈ x, p.1 = q.1) ∧ ∀ p ∈ x.drop k, p ∈ M
theorem put1_start {x M : List PV} (h : ∀ q ∈ M, ∃ p ∈ x, p.1 = q.1) : Put1 x M x.length := ⟨h, fun p hp => by simp at hp⟩
theorem put1_step {x M : List PV} {k : Nat} (hx : Rises x) (hM : Rises M) (hk : k < x.length) (h : Put1 x M (k + 1)) : Put1 x (put M x[k]) k := by
  refine ⟨fun q hq => ?_, fun p hp => ?_⟩
  · rcases mem_put hq with e | e
    · subst e; exact ⟨_, List.getElem_mem hk, rfl⟩
    · exact h.1 q e
  · rw [mem_put_iff hM]
    rw [List.drop_eq_getElem_cons hk] at hp
    rcases List.mem_cons.1 hp with e | e
    · exact .inl e
    · refine .inr ⟨h.2 p e, fun e2 => ?_⟩
      have hd : (x.drop k).Pairwise fun p q => lt p.1 q.1 := List.Pairwise.sublist (List.drop_sublist k x) hx
      rw [List.drop_eq_getElem_cons hk] at hd
      have := (List.pairwise_cons.1 hd).1 p e
      rw [e2] at this
      exact lt_irrefl _ this
theorem put1_end {x M : List PV} (hx : Rises x) (hM : Rises M) (h : Put1 x M 0) : M = x := rises_same hx hM (fun p hp => h.2 p (by simpa using hp)) h.1
end Bw
