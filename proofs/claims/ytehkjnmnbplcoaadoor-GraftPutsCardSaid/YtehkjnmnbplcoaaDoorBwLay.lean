/- The layout of entries of unlike keys, as a node, and as the document has it; that of a pair more. -/
import Derived.Test.YtehkjnmnbplcoaaDoorBwTurn
import Derived.Test.YtehkjnmnbplcoaaDoorBwAll
namespace Bw

/-- an entry: a hash, and a pair -/
abbrev En := Nat × PV

theorem mem_bitsOf {m x : Nat} : x ∈ bitsOf m ↔ x < 32 ∧ m.testBit x = true := by
  unfold bitsOf
  rw [List.mem_filter, List.mem_range]
theorem nodup_bitsOf (m : Nat) : (bitsOf m).Nodup := List.Pairwise.filter _ List.nodup_range
theorem chunkAt_lt (h level : Nat) : chunkAt h level < 32 := Nat.mod_lt _ (by decide)
theorem mod_chunk (h level : Nat) : h % 32 ^ (level + 1) = h % 32 ^ level + 32 ^ level * chunkAt h level := by
  unfold chunkAt
  rw [Nat.pow_succ, Nat.mod_mul]
theorem chunk_inj {g h level : Nat} (h1 : g % 32 ^ level = h % 32 ^ level) (h2 : chunkAt g level = chunkAt h level) : g % 32 ^ (level + 1) = h % 32 ^ (level + 1) := by
  rw [mod_chunk, mod_chunk, h1, h2]
theorem hash_end {g h : Nat} (hg : g < 18446744073709551616) (hh : h < 18446744073709551616) (e : g % 32 ^ 13 = h % 32 ^ 13) : g = h := by
  rw [Nat.mod_eq_of_lt (by omega), Nat.mod_eq_of_lt (by omega)] at e
  exact e

/-! ### lists of pairs -/
theorem mem_put_iff {m : List PV} (hm : Rises m) {p x : PV} : x ∈ put m p ↔ x = p ∨ x ∈ m ∧ x.1 ≠ p.1 := by
  induction m with
  | nil => simp [put]
  | cons q r ih =>
    obtain ⟨h1, h2⟩ := List.pairwise_cons.1 hm
    simp only [put]
    split
    · rename_i a
      simp only [List.mem_cons, ih h2]
      constructor
      · rintro (rfl | rfl | ⟨hx, hn⟩)
        · exact .inr ⟨.inl rfl, lt_ne a⟩
        · exact .inl rfl
        · exact .inr ⟨.inr hx, hn⟩
      · rintro (rfl | ⟨rfl | hx, hn⟩)
        · exact .inr (.inl rfl)
        · exact .inl rfl
        · exact .inr (.inr ⟨hx, hn⟩)
    · rename_i a
      split
      · rename_i b
        simp only [List.mem_cons]
        constructor
        · rintro (rfl | hx)
          · exact .inl rfl
          · exact .inr ⟨.inr hx, fun e => lt_ne (h1 x hx) (b.trans e.symm)⟩
        · rintro (rfl | ⟨rfl | hx, hn⟩)
          · exact .inl rfl
          · exact absurd b hn
          · exact .inr hx
      · rename_i b
        have hpq : lt p.1 q.1 := by
          rcases lt_or p.1 q.1 with h | h | h
          · exact h
          · exact absurd h.symm b
          · exact absurd h a
        simp only [List.mem_cons]
        constructor
        · rintro (rfl | rfl | hx)
          · exact .inl rfl
          · exact .inr ⟨.inl rfl, fun e => lt_ne hpq e.symm⟩
          · exact .inr ⟨.inr hx, fun e => lt_ne (lt_trans hpq (h1 x hx)) e.symm⟩
        · rintro (rfl | ⟨hx, _⟩)
          · exact .inl rfl
          · exact .inr hx

theorem rises_ext : ∀ {a b : List PV}, Rises a → Rises b → (∀ x, x ∈ a ↔ x ∈ b) → a = b
  | [], [], _, _, _ => rfl
  | [], y :: b, _, _, h => by have := (h y).2 (by simp); simp at this
  | x :: a, [], _, _, h => by have := (h x).1 (by simp); simp at this
  | x :: a, y :: b, ha, hb, h => by
    obtain ⟨a1, a2⟩ := List.pairwise_cons.1 ha
    obtain ⟨b1, b2⟩ := List.pairwise_cons.1 hb
    have e : x = y := by
      rcases List.mem_cons.1 ((h x).1 (by simp)) with e | hx
      · exact e
      · rcases List.mem_cons.1 ((h y).2 (by simp)) with e | hy
        · exact e.symm
        · exact absurd (a1 y hy) (lt_asymm (b1 x hx))
    subst e
    rw [rises_ext a2 b2 fun z => ?_]
    constructor
    · intro hz
      rcases List.mem_cons.1 ((h z).1 (by simp [hz])) with e | hz'
      · subst e; exact absurd (a1 z hz) (lt_irrefl _)
      · exact hz'
    · intro hz
      rcases List.mem_cons.1 ((h z).2 (by simp [hz])) with e | hz'
      · subst e; exact absurd (b1 z hz) (lt_irrefl _)
      · exact hz'

theorem mem_foldl_put {l : List PV} (hl : l.Pairwise fun a b => a.1 ≠ b.1) : ∀ {m : List PV}, Rises m → ∀ x, x ∈ l.foldl put m ↔ x ∈ l ∨ x ∈ m ∧ ∀ y ∈ l, x.1 ≠ y.1 := by
  induction l with
  | nil => intro m _ x; simp
  | cons p r ih =>
    intro m hm x
    obtain ⟨h1, h2⟩ := List.pairwise_cons.1 hl
    rw [List.foldl_cons, ih h2 (rises_put hm p), mem_put_iff hm]
    simp only [List.mem_cons]
    constructor
    · rintro (h | ⟨rfl | ⟨hx, hn⟩, hy⟩)
      · exact .inl (.inr h)
      · exact .inl (.inl rfl)
      · refine .inr ⟨hx, ?_⟩
        rintro y (rfl | hy')
        · exact hn
        · exact hy y hy'
    · rintro ((rfl | h) | ⟨hx, hy⟩)
      · exact .inr ⟨.inl rfl, fun y hy => h1 y hy⟩
      · exact .inl h
      · exact .inr ⟨.inr ⟨hx, hy p (.inl rfl)⟩, fun y hy' => hy y (.inr hy')⟩

theorem mem_come_iff {l : List PV} (hl : l.Pairwise fun a b => a.1 ≠ b.1) (x : PV) : x ∈ come l ↔ x ∈ l := by
  unfold come
  rw [mem_foldl_put hl (by simp [Rises])]
  simp

theorem length_put_get {m : List PV} (hm : Rises m) (p : PV) : (put m p).length = m.length + if (get m p.1).isSome then 0 else 1 := by
  induction m with
  | nil => simp [put, get]
  | cons q r ih =>
    obtain ⟨h1, h2⟩ := List.pairwise_cons.1 hm
    by_cases a : lt q.1 p.1
    · have e1 : put (q :: r) p = q :: put r p := by simp only [put, a, if_true]
      have e2 : get (q :: r) p.1 = get r p.1 := by simp only [get]; rw [if_neg (lt_ne a)]
      rw [e1, e2, List.length_cons, ih h2, List.length_cons]; omega
    · by_cases b : q.1 = p.1
      · have e1 : put (q :: r) p = p :: r := by simp only [put]; rw [if_neg a, if_pos b]
        have e2 : get (q :: r) p.1 = some q.2 := by simp only [get]; rw [if_pos b]
        rw [e1, e2]; simp
      · have e1 : put (q :: r) p = p :: q :: r := by simp only [put, a, b, if_false]
        have hpq : lt p.1 q.1 := by
          rcases lt_or p.1 q.1 with h | h | h
          · exact h
          · exact absurd h.symm b
          · exact absurd h a
        have hn : get r p.1 = none := by
          clear ih h2 hm e1
          induction r with
          | nil => rfl
          | cons z r ihr =>
            simp only [get]
            rw [if_neg (fun e => lt_ne (lt_trans hpq (h1 z (by simp))) e.symm)]
            exact ihr fun y hy => h1 y (by simp [hy])
        have e2 : get (q :: r) p.1 = none := by simp only [get]; rw [if_neg b, hn]
        rw [e1, e2]; simp

theorem get_isSome {m : List PV} {k : Bytes} : (get m k).isSome = true ↔ ∃ x ∈ m, x.1 = k := by
  induction m with
  | nil => simp [get]
  | cons q r ih =>
    simp only [get]
    split
    · rename_i h; simp [h]
    · rename_i h; rw [ih]; simp [h]

/-! ### layouts -/
inductive Lays : Nat → N → (En → Prop) → Prop
  | leaf {level h : Nat} {p : PV} {S : En → Prop} (hs : ∀ e, S e ↔ e = (h, p)) : Lays level (.leaf h p) S
  | bucket {level h : Nat} {t : T} {S : En → Prop} (he : t.even) (hr : Rises t.list) (h2 : 2 ≤ t.list.length) (hs : ∀ e, S e ↔ e.1 = h ∧ e.2 ∈ t.list) : Lays level (.bucket h t) S
  | branch {level m : Nat} {kids : List N} {S : En → Prop} (hm : m < 4294967296) (hl : kids.length = (bitsOf m).length) (h2 : ∃ a b, S a ∧ S b ∧ a.1 ≠ b.1)
      (hc : ∀ e, S e → chunkAt e.1 level ∈ bitsOf m) (hk : ∀ (j c : Nat) (k : N), (bitsOf m)[j]? = some c → kids[j]? = some k → Lays (level + 1) k fun e => S e ∧ chunkAt e.1 level = c) : Lays level (.branch m kids) S

theorem Lays.congr {level : Nat} {n : N} {S S' : En → Prop} (h : Lays level n S) (e : ∀ x, S x ↔ S' x) : Lays level n S' := by
  have : S = S' := funext fun x => propext (e x)
  exact this ▸ h

theorem two_of_length {α : Type} {l : List α} (h : 2 ≤ l.length) : ∃ a b r, l = a :: b :: r := by
  match l, h with
  | a :: b :: r, _ => exact ⟨a, b, r, rfl⟩

theorem Lays.some {level : Nat} {n : N} {S : En → Prop} (h : Lays level n S) : ∃ e, S e := by
  cases h with
  | leaf hs => exact ⟨_, (hs _).2 rfl⟩
  | bucket _ _ h2 hs =>
    obtain ⟨a, b, r, e⟩ := two_of_length h2
    exact ⟨(_, a), (hs _).2 ⟨rfl, by rw [e]; simp⟩⟩
  | branch _ _ h2 =>
    obtain ⟨a, _, ha, _⟩ := h2
    exact ⟨a, ha⟩

def Unlike (l : List En) : Prop := l.Pairwise fun a b => a.2.1 ≠ b.2.1
theorem Unlike.filter {l : List En} (h : Unlike l) (f : En → Bool) : Unlike (l.filter f) := List.Pairwise.filter f h
theorem Unlike.pairs {l : List En} (h : Unlike l) : (l.map (·.2)).Pairwise fun a b => a.1 ≠ b.1 := List.pairwise_map.2 h
theorem Unlike.nodup {l : List En} (h : Unlike l) : l.Nodup := List.Pairwise.imp (fun h e => h (by rw [e])) h

def partOf (level c : Nat) (l : List En) : List En := l.filter fun x => chunkAt x.1 level == c
theorem mem_partOf {level c : Nat} {l : List En} {e : En} : e ∈ partOf level c l ↔ e ∈ l ∧ chunkAt e.1 level = c := by simp [partOf]

/-- what the document has for entries of unlike keys at a level; f levels are left -/
def layX : Nat → Nat → List En → X
  | _, _, [] => .zero
  | 0, _, e :: r => if (e :: r).all (fun x => x.1 == e.1) then .mk (if (e :: r).length = 1 then 1 else 2) e.1 (come ((e :: r).map (·.2))) [] [] else .zero
  | f + 1, level, e :: r =>
    if (e :: r).all (fun x => x.1 == e.1) then .mk (if (e :: r).length = 1 then 1 else 2) e.1 (come ((e :: r).map (·.2))) [] []
    else .mk 3 0 [] ((List.range 32).filter fun c => (e :: r).any fun x => chunkAt x.1 level == c) (((List.range 32).filter fun c => (e :: r).any fun x => chunkAt x.1 level == c).map fun c => layX f (level + 1) (partOf level c (e :: r)))

theorem layX_same {f level : Nat} {l : List En} {e : En} (hl : e ∈ l) (hs : ∀ x ∈ l, x.1 = e.1) : layX f level l = .mk (if l.length = 1 then 1 else 2) e.1 (come (l.map (·.2))) [] [] := by
  match l, hl with
  | y :: r, hl =>
    have hy : y.1 = e.1 := hs y (by simp)
    have ha : (y :: r).all (fun x => x.1 == y.1) = true := by
      rw [List.all_eq_true]
      intro x hx
      rw [beq_iff_eq, hs x hx, hy]
    cases f <;> (simp only [layX]; rw [if_pos ha, hy])

theorem layX_split {f level : Nat} {l : List En} {a b : En} (ha : a ∈ l) (hb : b ∈ l) (hne : a.1 ≠ b.1) :
    layX (f + 1) level l = .mk 3 0 [] ((List.range 32).filter fun c => l.any fun x => chunkAt x.1 level == c) (((List.range 32).filter fun c => l.any fun x => chunkAt x.1 level == c).map fun c => layX f (level + 1) (partOf level c l)) := by
  match l, ha with
  | y :: r, ha =>
    have hn : ¬ (y :: r).all (fun x => x.1 == y.1) = true := by
      intro h
      rw [List.all_eq_true] at h
      have h1 := beq_iff_eq.1 (h a ha)
      have h2 := beq_iff_eq.1 (h b hb)
      exact hne (h1.trans h2.symm)
    simp only [layX]
    rw [if_neg hn]

theorem lays_abs {level : Nat} {n : N} {S : En → Prop} (h : Lays level n S) : ∀ (f : Nat) (l : List En), level + f = 13 → Unlike l → (∀ e, e ∈ l ↔ S e) → (∃ r, ∀ e, S e → e.1 % 32 ^ level = r) → (∀ e, S e → e.1 < 18446744073709551616) → layX f level l = n.abs := by
  induction h with
  | @leaf level h p S hs =>
    intro f l _ hu hm _ _
    have hl : l = [(h, p)] := by
      have h1 : ∀ e, e ∈ l ↔ e = (h, p) := fun e => (hm e).trans (hs e)
      match l, hu, h1 with
      | [], _, h1 => have := (h1 (h, p)).2 rfl; simp at this
      | [a], _, h1 => rw [(h1 a).1 (by simp)]
      | a :: b :: r, hu, h1 =>
        have ea := (h1 a).1 (by simp)
        have eb := (h1 b).1 (by simp)
        have := (List.pairwise_cons.1 hu).1 b (by simp)
        rw [ea, eb] at this
        exact absurd rfl this
    subst hl
    rw [layX_same (e := (h, p)) (by simp) (by simp)]
    simp [come, put, N.abs]
  | @bucket level h t S he hr h2 hs =>
    intro f l _ hu hm _ _
    obtain ⟨a, b, r, e⟩ := two_of_length h2
    have hab : a ≠ b := fun h => by
      rw [e] at hr
      have := (List.pairwise_cons.1 hr).1 b (by simp)
      rw [h] at this
      exact lt_irrefl _ this
    have ha : (h, a) ∈ l := (hm _).2 ((hs _).2 ⟨rfl, by rw [e]; simp⟩)
    have hb : (h, b) ∈ l := (hm _).2 ((hs _).2 ⟨rfl, by rw [e]; simp⟩)
    have h1 : ¬ l.length = 1 := by
      intro h1
      match l, h1, ha, hb with
      | [x], _, ha, hb =>
        simp only [List.mem_singleton] at ha hb
        have := ha.trans hb.symm
        simp only [Prod.mk.injEq, true_and] at this
        exact hab this
    have hmem : ∀ x, x ∈ l.map (·.2) ↔ x ∈ t.list := by
      intro x
      rw [List.mem_map]
      constructor
      · rintro ⟨e, he, rfl⟩
        exact ((hs e).1 ((hm e).1 he)).2
      · intro hx
        exact ⟨(h, x), (hm _).2 ((hs _).2 ⟨rfl, hx⟩), rfl⟩
    rw [layX_same (e := (h, a)) ha (fun x hx => ((hs x).1 ((hm x).1 hx)).1), if_neg h1]
    have : come (l.map (·.2)) = t.list := rises_ext (rises_come _) hr fun x => (mem_come_iff hu.pairs x).trans (hmem x)
    rw [this]
    simp [N.abs]
  | @branch level m kids S hm32 hl h2 hc hk ih =>
    intro f l hf hu hm hr hb
    obtain ⟨a, b, ha, hb', hne⟩ := h2
    obtain ⟨r, hr⟩ := hr
    match f, hf with
    | 0, hf =>
      have : level = 13 := by omega
      subst this
      exact absurd (hash_end (hb a ha) (hb b hb') ((hr a ha).trans (hr b hb').symm)) hne
    | f + 1, hf =>
      rw [layX_split ((hm a).2 ha) ((hm b).2 hb') hne]
      have hcs : ((List.range 32).filter fun c => l.any fun x => chunkAt x.1 level == c) = bitsOf m := by
        unfold bitsOf
        refine List.filter_congr fun c hc32 => ?_
        rw [Bool.eq_iff_iff, List.any_eq_true]
        constructor
        · rintro ⟨x, hx, hxc⟩
          have := hc x ((hm x).1 hx)
          rw [beq_iff_eq.1 hxc] at this
          exact (mem_bitsOf.1 this).2
        · intro ht
          have hmem : c ∈ bitsOf m := mem_bitsOf.2 ⟨List.mem_range.1 hc32, ht⟩
          obtain ⟨j, hj⟩ := List.mem_iff_getElem?.1 hmem
          have hjl : j < kids.length := by rw [hl]; exact (List.getElem?_eq_some_iff.1 hj).1
          obtain ⟨e, he, hec⟩ := (hk j c kids[j] hj (List.getElem?_eq_getElem hjl)).some
          exact ⟨e, (hm e).2 he, beq_iff_eq.2 hec⟩
      rw [hcs]
      simp only [N.abs]
      congr 1
      rw [N.absL_eq]
      refine List.ext_getElem (by simp [hl]) fun j h1 h2 => ?_
      rw [List.length_map] at h1 h2
      rw [List.getElem_map, List.getElem_map]
      refine ih j _ _ (List.getElem?_eq_getElem h1) (List.getElem?_eq_getElem h2) f _ (by omega) (hu.filter _) (fun e => by rw [mem_partOf, hm]) ⟨r + 32 ^ level * (bitsOf m)[j], ?_⟩ (fun e he => hb e he.1)
      rintro e ⟨he, hec⟩
      rw [mod_chunk, hr e he, hec]

/-! ### how many pairs -/
theorem sum_parts (f : En → Nat) : ∀ (l : List En) (cs : List Nat), cs.Nodup → (∀ e ∈ l, f e ∈ cs) → (cs.map fun c => (l.filter fun x => f x == c).length).sum = l.length := by
  intro l
  induction l with
  | nil =>
    intro cs _ _
    induction cs with
    | nil => rfl
    | cons c s ihs => rw [List.map_cons, List.sum_cons, ihs (by simp_all) (by simp)]; rfl
  | cons e r ih =>
    intro cs hn hc
    have h1 : ∀ cs : List Nat, (cs.map fun c => ((e :: r).filter fun x => f x == c).length).sum = (cs.map fun c => (r.filter fun x => f x == c).length).sum + cs.count (f e) := by
      intro cs
      induction cs with
      | nil => rfl
      | cons c s ihs =>
        rw [List.map_cons, List.sum_cons, ihs, List.map_cons, List.sum_cons, List.filter_cons, List.count_cons]
        by_cases h : f e = c
        · have hb : (f e == c) = true := by rw [beq_iff_eq]; exact h
          have hb' : (c == f e) = true := by rw [beq_iff_eq]; exact h.symm
          rw [if_pos hb, if_pos hb', List.length_cons]; omega
        · have hb : ¬ (f e == c) = true := by rw [beq_iff_eq]; exact h
          have hb' : ¬ (c == f e) = true := by rw [beq_iff_eq]; exact fun x => h x.symm
          rw [if_neg hb, if_neg hb']; omega
    have h2 : cs.count (f e) = 1 := by rw [List.Nodup.count hn, if_pos (hc e (by simp))]
    rw [h1, ih cs hn (fun x hx => hc x (by simp [hx])), h2, List.length_cons]

theorem countL_map {kids : List N} {cs : List Nat} {g : Nat → Nat} (hl : kids.length = cs.length) (h : ∀ (j c : Nat) (k : N), cs[j]? = some c → kids[j]? = some k → k.count = g c) : N.countL kids = (cs.map g).sum := by
  induction kids generalizing cs with
  | nil =>
    cases cs with
    | nil => rfl
    | cons c s => simp at hl
  | cons k r ih =>
    cases cs with
    | nil => simp at hl
    | cons c s =>
      simp only [N.countL, List.map_cons, List.sum_cons]
      rw [h 0 c k rfl rfl, ih (by simpa using hl) (fun j c k hj hk => h (j + 1) c k (by simpa using hj) (by simpa using hk))]

theorem lays_count {level : Nat} {n : N} {S : En → Prop} (h : Lays level n S) : ∀ l : List En, Unlike l → (∀ e, e ∈ l ↔ S e) → n.count = l.length := by
  induction h with
  | @leaf level h p S hs =>
    intro l hu hm
    have h1 : ∀ e, e ∈ l ↔ e = (h, p) := fun e => (hm e).trans (hs e)
    have := ((List.perm_ext_iff_of_nodup hu.nodup (by simp : [(h, p)].Nodup)).2 fun e => (h1 e).trans List.mem_singleton.symm).length_eq
    rw [this]; rfl
  | @bucket level h t S he hr h2 hs =>
    intro l hu hm
    have hn : (t.list.map fun x => (h, x)).Nodup := by
      refine List.pairwise_map.2 (List.Pairwise.imp (fun {a b} hab e => ?_) hr)
      simp only [Prod.mk.injEq, true_and] at e
      rw [e] at hab
      exact lt_irrefl _ hab
    have := ((List.perm_ext_iff_of_nodup hu.nodup hn).2 fun e => by
      rw [hm, hs, List.mem_map]
      constructor
      · rintro ⟨h1, h2⟩
        exact ⟨e.2, h2, by rw [← h1]⟩
      · rintro ⟨x, hx, rfl⟩
        exact ⟨rfl, hx⟩).length_eq
    rw [this, List.length_map, T.length_list]; rfl
  | @branch level m kids S hm32 hl h2 hc hk ih =>
    intro l hu hm
    simp only [N.count]
    rw [countL_map (g := fun c => (partOf level c l).length) hl fun j c k hj hkj => ih j c k hj hkj _ (hu.filter _) fun e => by rw [mem_partOf, hm]]
    exact sum_parts (fun e => chunkAt e.1 level) l _ (nodup_bitsOf m) fun e he => hc e ((hm e).1 he)

theorem lays_branch_level {level m : Nat} {kids : List N} {S : En → Prop} (h : Lays level (.branch m kids) S) (hl : level ≤ 13) (hr : ∃ r, ∀ e, S e → e.1 % 32 ^ level = r) (hb : ∀ e, S e → e.1 < 18446744073709551616) : level ≤ 12 := by
  cases h with
  | branch _ _ h2 =>
    obtain ⟨a, b, ha, hb', hne⟩ := h2
    obtain ⟨r, hr⟩ := hr
    by_cases h : level ≤ 12
    · exact h
    · have : level = 13 := by omega
      subst this
      exact absurd (hash_end (hb a ha) (hb b hb') ((hr a ha).trans (hr b hb').symm)) hne

end Bw
