/- A layout is right at its level; its hashes are those of its entries. Plain. -/
import Derived.Test.YtehkjnmnbplcoaaGreatDoorBwG
import Derived.Test.YtehkjnmnbplcoaaGreatDoorBwAll
namespace Bw

theorem rightL_of {level : Nat} : ∀ (kids : List N) (cs : List Nat), kids.length ≤ cs.length → (∀ (j c : Nat) (k : N), cs[j]? = some c → kids[j]? = some k → k.right (level + 1) = true ∧ k.under level c = true) → N.rightL level cs kids = true
  | [], _, _, _ => rfl
  | k :: r, [], h, _ => by simp at h
  | k :: r, c :: cs, h, hk => by
    simp only [N.rightL, List.headD_cons, List.tail_cons]
    obtain ⟨h1, h2⟩ := hk 0 c k rfl rfl
    rw [h1, h2, rightL_of r cs (by simpa using h) fun j d y h3 h4 => hk (j + 1) d y (by simpa using h3) (by simpa using h4)]
    rfl

theorem hashesL_mem {h : Nat} : ∀ {kids : List N}, h ∈ X.hashesL (N.absL kids) → ∃ k ∈ kids, h ∈ k.abs.hashes
  | [], hh => by simp [N.absL, X.hashesL] at hh
  | k :: r, hh => by
    simp only [N.absL, X.hashesL, List.mem_append] at hh
    rcases hh with hh | hh
    · exact ⟨k, by simp, hh⟩
    · obtain ⟨y, hy, h2⟩ := hashesL_mem hh
      exact ⟨y, by simp [hy], h2⟩

theorem lays_onehash {level : Nat} {n : N} {S : En → Prop} (h : Lays level n S) (hn : n.isBranch = false) {a b : En} (ha : S a) (hb : S b) : a.1 = b.1 := by
  cases h with
  | leaf hs => rw [(hs a).1 ha, (hs b).1 hb]
  | bucket _ _ _ hs => rw [((hs a).1 ha).1, ((hs b).1 hb).1]
  | branch => simp [N.isBranch] at hn

theorem lays_right {level : Nat} {n : N} {S : En → Prop} (h : Lays level n S) : level ≤ 13 → (∃ r, ∀ e, S e → e.1 % 32 ^ level = r) → (∀ e, S e → e.1 < 18446744073709551616) →
    n.wf ∧ (∀ x ∈ n.abs.hashes, ∃ e, S e ∧ e.1 = x) ∧ n.right level = true := by
  induction h with
  | @leaf level h p S hs =>
    intro _ _ _
    refine ⟨trivial, fun x hx => ?_, rfl⟩
    simp only [N.abs, X.hashes] at hx
    rw [if_neg (by decide), List.mem_singleton] at hx
    exact ⟨(h, p), (hs _).2 rfl, hx.symm⟩
  | @bucket level h t S he hr h2 hs =>
    intro _ _ _
    refine ⟨trivial, fun x hx => ?_, rfl⟩
    simp only [N.abs, X.hashes] at hx
    rw [if_neg (by decide), List.mem_singleton] at hx
    obtain ⟨a, b, r, hl⟩ := two_of_length h2
    exact ⟨(h, a), (hs _).2 ⟨rfl, by rw [hl]; simp⟩, hx.symm⟩
  | @branch level m kids S hm32 hl h2 hc hk ih =>
    intro hlv hr hb
    obtain ⟨a, b, ha, hb', hne⟩ := h2
    obtain ⟨r, hr⟩ := hr
    have h13 : level ≠ 13 := by
      rintro rfl
      exact hne (hash_end (hb a ha) (hb b hb') ((hr a ha).trans (hr b hb').symm))
    have IH : ∀ (j c : Nat) (k : N), (bitsOf m)[j]? = some c → kids[j]? = some k → k.wf ∧ (∀ x ∈ k.abs.hashes, ∃ e, (S e ∧ chunkAt e.1 level = c) ∧ e.1 = x) ∧ k.right (level + 1) = true := fun j c k hj hkj =>
      ih j c k hj hkj (by omega) ⟨r + 32 ^ level * c, fun e he => by rw [mod_chunk, hr e he.1, he.2]⟩ fun e he => hb e he.1
    have hat : ∀ k ∈ kids, ∃ (j c : Nat), (bitsOf m)[j]? = some c ∧ kids[j]? = some k := fun k hk => by
      obtain ⟨j, hj⟩ := List.mem_iff_getElem?.1 hk
      have hjl : j < (bitsOf m).length := by rw [← hl]; exact (List.getElem?_eq_some_iff.1 hj).1
      exact ⟨j, _, List.getElem?_eq_getElem hjl, hj⟩
    refine ⟨?_, ?_, ?_⟩
    · simp only [N.wf]
      refine ⟨fun e => ?_, hl, (N.wfL_iff _).2 fun k hk => ?_⟩
      · have := hc a ha
        rw [List.length_eq_zero_iff.1 (hl.symm.trans (by rw [e]; rfl))] at this
        simp at this
      · obtain ⟨j, c, h1, h2⟩ := hat k hk
        exact (IH j c k h1 h2).1
    · intro x hx
      simp only [N.abs, X.hashes, if_true] at hx
      obtain ⟨k, hk, hxk⟩ := hashesL_mem hx
      obtain ⟨j, c, h1, h2⟩ := hat k hk
      obtain ⟨e, he, hex⟩ := (IH j c k h1 h2).2.1 x hxk
      exact ⟨e, he.1, hex⟩
    · simp only [N.right]
      have e1 : (level == 13) = false := by rw [beq_eq_false_iff_ne]; exact h13
      have e2 : (kids.length == 1 && !N.anyBranch kids) = false := by
        rw [Bool.and_eq_false_iff]
        by_cases h1 : kids.length = 1
        · right
          match kids, h1 with
          | [k], _ =>
            have hb1 : (bitsOf m).length = 1 := hl.symm
            cases hbr : k.isBranch with
            | true => simp [N.anyBranch, hbr]
            | false =>
              obtain ⟨c, hq⟩ := List.length_eq_one_iff.1 hb1
              have hall : ∀ e, S e → chunkAt e.1 level = c := fun e he => by
                have := hc e he
                rw [hq, List.mem_singleton] at this
                exact this
              have hz : (bitsOf m)[0]? = some c := by rw [hq]; rfl
              exact absurd (lays_onehash (hk 0 _ k hz rfl) hbr ⟨ha, hall a ha⟩ ⟨hb', hall b hb'⟩) hne
        · left
          rw [beq_eq_false_iff_ne]
          exact h1
      rw [e1, e2, rightL_of kids (bitsOf m) (Nat.le_of_eq hl) fun j c k hj hkj => ?_]
      · rfl
      · obtain ⟨_, h2, h3⟩ := IH j c k hj hkj
        refine ⟨h3, ?_⟩
        rw [← under_abs, List.all_eq_true]
        intro x hx
        obtain ⟨e, he, hex⟩ := h2 x hx
        rw [beq_iff_eq, ← hex, he.2]
end Bw
