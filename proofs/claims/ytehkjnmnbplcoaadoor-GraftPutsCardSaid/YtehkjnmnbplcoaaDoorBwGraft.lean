/- A trie with a pair more, as plain data: two nodes made one, a branch with another child; each is the layout of what there is then. -/
import Derived.Test.YtehkjnmnbplcoaaDoorBwLay
namespace Bw

/-- the children of a branch, with one for the number c, by their numbers -/
def withKids (m : Nat) (kids : List N) (c : Nat) (k : Option N) : List (Option N) :=
  (bitsOf (m ||| 2 ^ c)).map fun i => if i = c then k else if m.testBit i then kids[ones i m]? else none

/-- two nodes of unlike hashes made one -/
def forkO : Nat → N → Nat → N → Nat → Nat → Option N
  | 0, _, _, _, _, _ => none
  | f + 1, a, g, b, h, level =>
    if chunkAt g level = chunkAt h level then branchO (2 ^ chunkAt g level) [forkO f a g b h (level + 1)]
    else if chunkAt h level < chunkAt g level then branchO (2 ^ chunkAt g level ||| 2 ^ chunkAt h level) [some b, some a]
    else branchO (2 ^ chunkAt g level ||| 2 ^ chunkAt h level) [some a, some b]

/-- entries, and one more that takes the place of that of its key -/
def PutS (S : En → Prop) (h : Nat) (p : PV) : En → Prop := fun e => e = (h, p) ∨ S e ∧ e.2.1 ≠ p.1

theorem testBit_or_pow (m c i : Nat) : (m ||| 2 ^ c).testBit i = (m.testBit i || decide (c = i)) := by
  rw [Nat.testBit_or, Nat.testBit_two_pow]

theorem mem_bits_or {m c i : Nat} (hc : c < 32) : i ∈ bitsOf (m ||| 2 ^ c) ↔ i = c ∨ i ∈ bitsOf m := by
  rw [mem_bitsOf, mem_bitsOf, testBit_or_pow]
  simp only [Bool.or_eq_true, decide_eq_true_iff]
  constructor
  · rintro ⟨h1, h2 | h2⟩
    · exact .inr ⟨h1, h2⟩
    · exact .inl h2.symm
  · rintro (rfl | ⟨h1, h2⟩)
    · exact ⟨hc, .inr rfl⟩
    · exact ⟨h1, .inl h2⟩

theorem or_lt {m c : Nat} (hm : m < 4294967296) (hc : c < 32) : m ||| 2 ^ c < 4294967296 :=
  Nat.or_lt_two_pow (n := 32) hm (Nat.pow_lt_pow_right (by decide) hc)

theorem bits_at_mem {m i : Nat} (h : i ∈ bitsOf m) : (bitsOf m)[ones i m]? = some i := bitsOf_at m i (mem_bitsOf.1 h).1 (mem_bitsOf.1 h).2

theorem seqO_map {α : Type} (f : α → Option N) (g : α → N) : ∀ l : List α, (∀ x ∈ l, f x = some (g x)) → seqO (l.map f) = some (l.map g)
  | [], _ => rfl
  | x :: r, h => by
    rw [List.map_cons, h x (by simp), seqO, seqO_map f g r fun y hy => h y (by simp [hy])]
    rfl

/-- a branch of these children, by their numbers -/
theorem branchO_map {m : Nat} {f : Nat → Option N} {g : Nat → N} (hne : bitsOf m ≠ []) (h : ∀ i ∈ bitsOf m, f i = some (g i)) : branchO m ((bitsOf m).map f) = some (.branch m ((bitsOf m).map g)) := by
  unfold branchO
  rw [if_neg (by
    rw [not_or, List.length_map]
    exact ⟨fun e => hne (List.eq_nil_of_length_eq_zero e), fun e => e rfl⟩), seqO_map f g _ h]
  rfl

theorem lays_with {level m c h : Nat} {kids : List N} {S : En → Prop} {k : N} {p : PV} (hL : Lays level (.branch m kids) S) (hch : chunkAt h level = c) (hcons : ∀ e, S e → e.2.1 = p.1 → e.1 = h)
    (hk : Lays (level + 1) k (PutS (fun e => S e ∧ chunkAt e.1 level = c) h p)) :
    ∃ kids', branchO (m ||| 2 ^ c) (withKids m kids c (some k)) = some (.branch (m ||| 2 ^ c) kids') ∧ Lays level (.branch (m ||| 2 ^ c) kids') (PutS S h p) := by
  cases hL with
  | branch hm hl h2 hc hkk =>
    have hc32 : c < 32 := hch ▸ chunkAt_lt h level
    let d : N := .leaf 0 ([], [])
    let g : Nat → N := fun i => if i = c then k else (kids[ones i m]?).getD d
    have hkid : ∀ i ∈ bitsOf m, kids[ones i m]? = some ((kids[ones i m]?).getD d) := by
      intro i hi
      have := bits_at_mem hi
      have hlt : ones i m < kids.length := by rw [hl]; exact (List.getElem?_eq_some_iff.1 this).1
      rw [List.getElem?_eq_getElem hlt]; rfl
    have hf : ∀ i ∈ bitsOf (m ||| 2 ^ c), (if i = c then some k else if m.testBit i then kids[ones i m]? else none) = some (g i) := by
      intro i hi
      by_cases e : i = c
      · simp [e, g]
      · rcases (mem_bits_or hc32).1 hi with e' | hi'
        · exact absurd e' e
        · rw [if_neg e, if_pos (mem_bitsOf.1 hi').2, hkid i hi']
          simp only [g]
          rw [if_neg e]
    have hcm : c ∈ bitsOf (m ||| 2 ^ c) := (mem_bits_or hc32).2 (.inl rfl)
    refine ⟨_, branchO_map (List.ne_nil_of_mem hcm) hf, .branch (or_lt hm hc32) (by rw [List.length_map]) ?_ ?_ ?_⟩
    · obtain ⟨a, b, ha, hb, hne⟩ := h2
      have key : ∀ e, S e → ∃ e', PutS S h p e' ∧ e'.1 = e.1 := by
        intro e he
        by_cases x : e.2.1 = p.1
        · exact ⟨(h, p), .inl rfl, (hcons e he x).symm⟩
        · exact ⟨e, .inr ⟨he, x⟩, rfl⟩
      obtain ⟨a', ha', ea⟩ := key a ha
      obtain ⟨b', hb', eb⟩ := key b hb
      exact ⟨a', b', ha', hb', by rw [ea, eb]; exact hne⟩
    · rintro e (rfl | ⟨he, _⟩)
      · exact (mem_bits_or hc32).2 (.inl hch)
      · exact (mem_bits_or hc32).2 (.inr (hc e he))
    · intro j i k' hj hk'
      rw [List.getElem?_map, hj] at hk'
      simp only [Option.map, Option.some.injEq] at hk'
      subst hk'
      have hi := List.mem_of_getElem? hj
      by_cases e : i = c
      · subst e
        simp only [g, if_true]
        refine hk.congr fun e => ?_
        unfold PutS
        constructor
        · rintro (rfl | ⟨⟨h1, h2⟩, h3⟩)
          · exact ⟨.inl rfl, hch⟩
          · exact ⟨.inr ⟨h1, h3⟩, h2⟩
        · rintro ⟨rfl | ⟨h1, h3⟩, h2⟩
          · exact .inl rfl
          · exact .inr ⟨⟨h1, h2⟩, h3⟩
      · rcases (mem_bits_or hc32).1 hi with e' | hi'
        · exact absurd e' e
        · simp only [g]
          rw [if_neg e]
          refine (hkk _ i _ (bits_at_mem hi') (hkid i hi')).congr fun e' => ?_
          unfold PutS
          constructor
          · rintro ⟨h1, h2⟩
            refine ⟨.inr ⟨h1, fun hx => ?_⟩, h2⟩
            have := hcons e' h1 hx
            rw [this, hch] at h2
            exact e h2.symm
          · rintro ⟨rfl | ⟨h1, _⟩, h2⟩
            · rw [hch] at h2
              exact absurd h2.symm e
            · exact ⟨h1, h2⟩

theorem bits_one : ∀ c : Fin 32, bitsOf (2 ^ c.val) = [c.val] := by decide +kernel
theorem bits_two : ∀ c d : Fin 32, c.val < d.val → bitsOf (2 ^ c.val ||| 2 ^ d.val) = [c.val, d.val] := by decide +kernel

theorem pow_lt32 {c : Nat} (hc : c < 32) : 2 ^ c < 4294967296 := show 2 ^ c < 2 ^ 32 from Nat.pow_lt_pow_right (by decide) hc

theorem branchO_one {c : Nat} {k : N} (hc : c < 32) : branchO (2 ^ c) [some k] = some (.branch (2 ^ c) [k]) := by
  have := branchO_map (m := 2 ^ c) (f := fun _ => some k) (g := fun _ => k) (by rw [bits_one ⟨c, hc⟩]; simp) (fun _ _ => rfl)
  rw [bits_one ⟨c, hc⟩] at this
  exact this

theorem branchO_two {c d : Nat} {a b : N} (hcd : c < d) (hd : d < 32) : branchO (2 ^ c ||| 2 ^ d) [some a, some b] = some (.branch (2 ^ c ||| 2 ^ d) [a, b]) := by
  have hb := bits_two ⟨c, by omega⟩ ⟨d, hd⟩ hcd
  have := branchO_map (m := 2 ^ c ||| 2 ^ d) (f := fun i => if i = c then some a else some b) (g := fun i => if i = c then a else b) (by rw [hb]; simp) (fun i _ => by split <;> rfl)
  rw [hb] at this
  have hdc : ¬ d = c := by omega
  simp only [List.map_cons, List.map_nil, if_true, hdc, if_false] at this
  exact this

theorem lays_one {level c : Nat} {k : N} {S : En → Prop} (hc : c < 32) (hk : Lays (level + 1) k S) (h2 : ∃ a b, S a ∧ S b ∧ a.1 ≠ b.1) (hS : ∀ e, S e → chunkAt e.1 level = c) : Lays level (.branch (2 ^ c) [k]) S := by
  refine .branch (pow_lt32 hc) (by rw [bits_one ⟨c, hc⟩]; rfl) h2 (fun e he => by rw [bits_one ⟨c, hc⟩, hS e he]; simp) ?_
  intro j c' k' hj hk'
  rw [bits_one ⟨c, hc⟩] at hj
  match j, hj, hk' with
  | 0, hj, hk' =>
    simp only [List.getElem?_cons_zero, Option.some.injEq] at hj hk'
    subst hj; subst hk'
    exact hk.congr fun e => ⟨fun he => ⟨he, hS e he⟩, fun he => he.1⟩
  | j + 1, hj, _ => simp at hj

theorem lays_two {level c d : Nat} {a b : N} {Sa Sb : En → Prop} (hcd : c < d) (hd : d < 32) (ha : Lays (level + 1) a Sa) (hb : Lays (level + 1) b Sb) (hSa : ∀ e, Sa e → chunkAt e.1 level = c) (hSb : ∀ e, Sb e → chunkAt e.1 level = d) : Lays level (.branch (2 ^ c ||| 2 ^ d) [a, b]) fun e => Sa e ∨ Sb e := by
  have hbt := bits_two ⟨c, by omega⟩ ⟨d, hd⟩ hcd
  refine .branch (or_lt (pow_lt32 (by omega)) hd) (by rw [hbt]; rfl) ?_ ?_ ?_
  · obtain ⟨x, hx⟩ := ha.some
    obtain ⟨y, hy⟩ := hb.some
    refine ⟨x, y, .inl hx, .inr hy, fun e => ?_⟩
    have h1 := hSa x hx
    rw [e, hSb y hy] at h1
    omega
  · rintro e (he | he)
    · rw [hbt, hSa e he]; simp
    · rw [hbt, hSb e he]; simp
  · intro j c' k' hj hk'
    rw [hbt] at hj
    match j, hj, hk' with
    | 0, hj, hk' =>
      simp only [List.getElem?_cons_zero, Option.some.injEq] at hj hk'
      subst hj; subst hk'
      refine ha.congr fun e => ⟨fun he => ⟨.inl he, hSa e he⟩, ?_⟩
      rintro ⟨he | he, h2⟩
      · exact he
      · have := hSb e he; omega
    | 1, hj, hk' =>
      simp only [List.getElem?_cons_succ, List.getElem?_cons_zero, Option.some.injEq] at hj hk'
      subst hj; subst hk'
      refine hb.congr fun e => ⟨fun he => ⟨.inr he, hSb e he⟩, ?_⟩
      rintro ⟨he | he, h2⟩
      · have := hSa e he; omega
      · exact he
    | j + 2, hj, _ => simp at hj

theorem lays_fork {a b : N} {g h : Nat} {Sa Sb : En → Prop} (ha : ∀ level, Lays level a Sa) (hb : ∀ level, Lays level b Sb) (hga : ∀ e, Sa e → e.1 = g) (hhb : ∀ e, Sb e → e.1 = h) (hne : g ≠ h) (hg : g < 18446744073709551616) (hh : h < 18446744073709551616) :
    ∀ f level, level + f = 13 → g % 32 ^ level = h % 32 ^ level → ∃ n, forkO f a g b h level = some n ∧ Lays level n fun e => Sa e ∨ Sb e := by
  intro f
  induction f with
  | zero =>
    intro level hl he
    have : level = 13 := by omega
    subst this
    exact absurd (hash_end hg hh he) hne
  | succ f ih =>
    intro level hl he
    simp only [forkO]
    by_cases hc : chunkAt g level = chunkAt h level
    · rw [if_pos hc]
      obtain ⟨k, hk, hL⟩ := ih (level + 1) (by omega) (chunk_inj he hc)
      refine ⟨_, by rw [hk]; exact branchO_one (chunkAt_lt g level), lays_one (chunkAt_lt g level) hL ?_ ?_⟩
      · obtain ⟨x, hx⟩ := (ha 0).some
        obtain ⟨y, hy⟩ := (hb 0).some
        exact ⟨x, y, .inl hx, .inr hy, by rw [hga x hx, hhb y hy]; exact hne⟩
      · rintro e (he' | he')
        · rw [hga e he']
        · rw [hhb e he', hc]
    · rw [if_neg hc]
      by_cases hlt : chunkAt h level < chunkAt g level
      · rw [if_pos hlt]
        refine ⟨_, by rw [Nat.or_comm]; exact branchO_two hlt (chunkAt_lt g level), ?_⟩
        exact (lays_two hlt (chunkAt_lt g level) (hb _) (ha _) (fun e he' => by rw [hhb e he']) (fun e he' => by rw [hga e he'])).congr fun e => Or.comm
      · rw [if_neg hlt]
        have hlt' : chunkAt g level < chunkAt h level := by omega
        exact ⟨_, branchO_two hlt' (chunkAt_lt h level), lays_two hlt' (chunkAt_lt h level) (ha _) (hb _) (fun e he' => by rw [hga e he']) (fun e he' => by rw [hhb e he'])⟩

/-! ### a pair into a leaf, into a bucket -/
theorem lays_any_level {level : Nat} {n : N} {S : En → Prop} (hn : n.isBranch = false) (h : Lays level n S) : ∀ level', Lays level' n S := by
  intro level'
  cases h with
  | leaf hs => exact .leaf hs
  | bucket h1 h2 h3 h4 => exact .bucket h1 h2 h3 h4
  | branch => simp [N.isBranch] at hn

theorem bucketO_two {h : Nat} {t : T} (h2 : 2 ≤ t.list.length) : bucketO h t = some (.bucket h t) := by
  rw [T.length_list] at h2
  unfold bucketO
  rw [if_neg (by omega), if_neg (by omega)]

theorem length_put_ge {m : List PV} (hm : Rises m) (p : PV) : m.length ≤ (put m p).length := by rw [length_put_get hm]; omega

theorem lays_bucket_put {level h : Nat} {t : T} {S : En → Prop} {p : PV} (hL : Lays level (.bucket h t) S) : bucketO h (t.put p) = some (.bucket h (t.put p)) ∧ Lays level (.bucket h (t.put p)) (PutS S h p) := by
  cases hL with
  | bucket he hr h2 hs =>
    have hlen : 2 ≤ (t.put p).list.length := by rw [T.list_put p t hr]; have := length_put_ge hr p; omega
    refine ⟨bucketO_two hlen, .bucket (T.even_put p t he) (by rw [T.list_put p t hr]; exact rises_put hr p) hlen fun e => ?_⟩
    unfold PutS
    rw [T.list_put p t hr, mem_put_iff hr, hs]
    constructor
    · rintro (rfl | ⟨⟨h1, h2⟩, h3⟩)
      · exact ⟨rfl, .inl rfl⟩
      · exact ⟨h1, .inr ⟨h2, h3⟩⟩
    · rintro ⟨h1, h2 | ⟨h2, h3⟩⟩
      · exact .inl (by rw [← h1, ← h2])
      · exact .inr ⟨⟨h1, h2⟩, h3⟩

theorem lays_bucket_new {level h : Nat} {S : En → Prop} {q p : PV} (hL : Lays level (.leaf h q) S) (hne : q.1 ≠ p.1) : bucketO h ((T.from [q]).put p) = some (.bucket h ((T.from [q]).put p)) ∧ Lays level (.bucket h ((T.from [q]).put p)) (PutS S h p) := by
  cases hL with
  | leaf hs =>
    have hq : (T.from [q]).list = [q] := T.list_from [q]
    have hr : Rises (T.from [q]).list := by rw [hq]; simp [Rises]
    have hg : get [q] p.1 = none := by simp [get, hne]
    have hlen : 2 ≤ ((T.from [q]).put p).list.length := by rw [T.list_put p _ hr, length_put_get hr, hq, hg]; simp
    refine ⟨bucketO_two hlen, .bucket (T.even_put p _ (T.even_from _)) (by rw [T.list_put p _ hr]; exact rises_put hr p) hlen fun e => ?_⟩
    unfold PutS
    rw [T.list_put p _ hr, mem_put_iff hr, hq, hs, List.mem_singleton]
    constructor
    · rintro (rfl | ⟨rfl, h3⟩)
      · exact ⟨rfl, .inl rfl⟩
      · exact ⟨rfl, .inr ⟨rfl, hne⟩⟩
    · rintro ⟨h1, h2 | ⟨h2, h3⟩⟩
      · exact .inl (by rw [← h1, ← h2])
      · exact .inr ⟨by rw [← h1, ← h2], h3⟩

theorem lays_leaf_same {level h : Nat} {S : En → Prop} {q p : PV} (hL : Lays level (.leaf h q) S) (he : q.1 = p.1) : Lays level (.leaf h p) (PutS S h p) := by
  cases hL with
  | leaf hs =>
    refine .leaf fun e => ?_
    unfold PutS
    rw [hs]
    constructor
    · rintro (h | ⟨rfl, h⟩)
      · exact h
      · exact absurd he h
    · exact .inl

theorem lays_leaf_new {level h : Nat} {S : En → Prop} {p : PV} (hS : ∀ e, ¬ S e) : Lays level (.leaf h p) (PutS S h p) :=
  .leaf fun e => ⟨fun h => h.elim id fun h => absurd h.1 (hS e), .inl⟩

/-- the hash of a leaf, a bucket -/
def N.hash1 : N → Nat
  | .leaf h _ => h
  | .bucket h _ => h
  | .branch .. => 0

theorem lays_hash {level : Nat} {n : N} {S : En → Prop} (hn : n.isBranch = false) (h : Lays level n S) : ∀ e, S e → e.1 = n.hash1 := by
  intro e he
  cases h with
  | leaf hs => rw [(hs e).1 he]; rfl
  | bucket _ _ _ hs => exact ((hs e).1 he).1
  | branch => simp [N.isBranch] at hn

theorem lays_fork_put {level h : Nat} {n : N} {S : En → Prop} {p : PV} (hn : n.isBranch = false) (hL : Lays level n S) (hne : n.hash1 ≠ h) (hg : n.hash1 < 18446744073709551616) (hh : h < 18446744073709551616) (hcons : ∀ e, S e → e.2.1 = p.1 → e.1 = h) (f : Nat) (hf : level + f = 13) (hpre : n.hash1 % 32 ^ level = h % 32 ^ level) :
    ∃ n', forkO f n n.hash1 (.leaf h p) h level = some n' ∧ Lays level n' (PutS S h p) := by
  obtain ⟨n', h1, h2⟩ := lays_fork (Sb := fun e => e = (h, p)) (lays_any_level hn hL) (fun level => .leaf fun e => Iff.rfl) (lays_hash hn hL) (fun e he => by rw [he]) hne hg hh f level hf hpre
  refine ⟨n', h1, h2.congr fun e => ?_⟩
  unfold PutS
  constructor
  · rintro (he | he)
    · exact .inr ⟨he, fun hx => hne ((lays_hash hn hL e he).symm.trans (hcons e he hx))⟩
    · exact .inl he
  · rintro (he | ⟨he, _⟩)
    · exact .inr he
    · exact .inl he

end Bw
