
import Derived.Test.YtadaoceidkagfaaGreatDoorBwAll
/- Trees with a pair more, turned as the program turns them: their lists, that they stay even, how many steps are gone. -/
namespace Bw
open Go.Lib (compareBytes)
def evenB (l r : Nat) : Bool := decide (l + 1 <= 3 * (r + 1) /\ r + 1 <= 3 * (l + 1))
theorem evenB_iff {l r : Nat} : evenB l r = true ↔ evenN l r := by simp [evenB, evenN]
def singleB (l i o : Nat) : Bool := evenB l i && evenB (l + i + 1) o
def T.turnL (l : T) (p : PV) : T -> T
  | .nil => .nil
  | .node i q o =>
    if singleB l.size i.size o.size then .node (.node l p i) q o
    else match i with
      | .nil => .nil
      | .node il ip ir => if evenB l.size il.size && evenB ir.size o.size && evenB (l.size + 1 + il.size) (ir.size + 1 + o.size) then .node (.node l p il) ip (.node ir q o) else .nil
def T.turnR (r : T) (p : PV) : T -> T
  | .nil => .nil
  | .node o q i =>
    if singleB r.size i.size o.size then .node o q (.node i p r)
    else match i with
      | .nil => .nil
      | .node il ip ir => if evenB r.size ir.size && evenB il.size o.size && evenB (r.size + 1 + ir.size) (il.size + 1 + o.size) then .node (.node o q il) ip (.node ir p r) else .nil
def T.orFrom (t : T) (l : List PV) : T := match t with | .nil => T.from l | t => t
def T.evened (l : T) (p : PV) (r : T) : T :=
  if evenB l.size r.size then .node l p r
  else if l.size < r.size then (T.turnL l p r).orFrom (l.list ++ p :: r.list)
  else (T.turnR r p l).orFrom (l.list ++ p :: r.list)
theorem T.list_turnL {l r : T} {p : PV} (h : T.turnL l p r ≠ .nil) : (T.turnL l p r).list = l.list ++ p :: r.list := by
  cases r with
  | nil => exact absurd rfl h
  | node i q o =>
    simp only [T.turnL] at h ⊢
    split
    · simp [T.list]
    · rename_i hs
      rw [if_neg hs] at h
      cases i with
      | nil => exact absurd rfl h
      | node il ip ir =>
        simp only at h ⊢
        split
        · simp [T.list]
        · rename_i hs2
          rw [if_neg hs2] at h
          exact absurd rfl h
theorem T.list_turnR {l r : T} {p : PV} (h : T.turnR r p l ≠ .nil) : (T.turnR r p l).list = l.list ++ p :: r.list := by
  cases l with
  | nil => exact absurd rfl h
  | node o q i =>
    simp only [T.turnR] at h ⊢
    split
    · simp [T.list]
    · rename_i hs
      rw [if_neg hs] at h
      cases i with
      | nil => exact absurd rfl h
      | node il ip ir =>
        simp only at h ⊢
        split
        · simp [T.list]
        · rename_i hs2
          rw [if_neg hs2] at h
          exact absurd rfl h
theorem T.list_orFrom {t : T} {l : List PV} (h : t ≠ .nil -> t.list = l) : (t.orFrom l).list = l := by
  cases t with
  | nil => exact T.list_from l
  | node a p b => exact h (by intro e; cases e)
theorem T.list_evened (l : T) (p : PV) (r : T) : (T.evened l p r).list = l.list ++ p :: r.list := by
  unfold T.evened
  split
  · rfl
  · split
    · exact T.list_orFrom T.list_turnL
    · exact T.list_orFrom T.list_turnR
theorem evenN_symm {l r : Nat} (h : evenN l r) : evenN r l := ⟨h.2, h.1⟩
theorem T.even_turnL {l r : T} {p : PV} (hl : l.even) (hr : r.even) : (T.turnL l p r).even := by
  cases r with
  | nil => trivial
  | node i q o =>
    obtain ⟨hi, ho, _⟩ := hr
    simp only [T.turnL]
    split
    · rename_i hs
      simp only [singleB, Bool.and_eq_true, evenB_iff] at hs
      exact ⟨⟨hl, hi, hs.1⟩, ho, by have := hs.2; simpa [T.size, Nat.add_right_comm] using this⟩
    · cases i with
      | nil => trivial
      | node il ip ir =>
        simp only
        split
        · rename_i hs
          simp only [Bool.and_eq_true, evenB_iff] at hs
          exact ⟨⟨hl, hi.1, hs.1.1⟩, ⟨hi.2.1, ho, hs.1.2⟩, by simpa [T.size] using hs.2⟩
        · trivial
theorem T.even_turnR {l r : T} {p : PV} (hl : l.even) (hr : r.even) : (T.turnR r p l).even := by
  cases l with
  | nil => trivial
  | node o q i =>
    obtain ⟨ho, hi, _⟩ := hl
    simp only [T.turnR]
    split
    · rename_i hs
      simp only [singleB, Bool.and_eq_true, evenB_iff] at hs
      refine ⟨ho, ⟨hi, hr, evenN_symm hs.1⟩, ?_⟩
      have := evenN_symm hs.2
      simp only [T.size]
      rwa [show i.size + 1 + r.size = r.size + i.size + 1 by omega]
    · cases i with
      | nil => trivial
      | node il ip ir =>
        simp only
        split
        · rename_i hs
          simp only [Bool.and_eq_true, evenB_iff] at hs
          refine ⟨⟨ho, hi.1, evenN_symm hs.1.2⟩, ⟨hi.2.1, hr, evenN_symm hs.1.1⟩, ?_⟩
          have := evenN_symm hs.2
          simp only [T.size]
          rwa [show o.size + 1 + il.size = il.size + 1 + o.size by omega, show ir.size + 1 + r.size = r.size + 1 + ir.size by omega]
        · trivial
theorem T.even_orFrom {t : T} {l : List PV} (h : t.even) : (t.orFrom l).even := by
  cases t with
  | nil => exact T.even_from l
  | node a p b => exact h
theorem T.even_evened {l r : T} (p : PV) (hl : l.even) (hr : r.even) : (T.evened l p r).even := by
  unfold T.evened
  split
  · rename_i h
    exact ⟨hl, hr, evenB_iff.1 h⟩
  · split
    · exact T.even_orFrom (T.even_turnL hl hr)
    · exact T.even_orFrom (T.even_turnR hl hr)
theorem T.size_evened (l : T) (p : PV) (r : T) : (T.evened l p r).size = l.size + 1 + r.size := by
  rw [<- T.length_list, T.list_evened, List.length_append, List.length_cons, T.length_list, T.length_list]; omega
def T.put (p : PV) : T -> T
  | .nil => .node .nil p .nil
  | .node l q r => if compareBytes p.1 q.1 = 0 then .node l p r else if compareBytes p.1 q.1 = 1 then T.evened l q (r.put p) else T.evened (l.put p) q r
def T.steps (k : Bytes) : T -> Nat
  | .nil => 0
  | .node l q r => if compareBytes k q.1 = 0 then 1 else if compareBytes k q.1 = 1 then r.steps k + 1 else l.steps k + 1
theorem put_append_left {m : List PV} {p q : PV} {s : List PV} (h : lt p.1 q.1) : put (m ++ q :: s) p = put m p ++ q :: s := by
  induction m with
  | nil =>
    simp only [List.nil_append, put]
    rw [if_neg (lt_asymm h), if_neg (fun e => lt_ne h e.symm)]; rfl
  | cons a r ih =>
    simp only [List.cons_append, put, ih]
    split
    · rfl
    · split <;> rfl
theorem put_append_right {m : List PV} {p q : PV} {s : List PV} (hm : Rises (m ++ q :: s)) (h : lt q.1 p.1) : put (m ++ q :: s) p = m ++ q :: put s p := by
  induction m with
  | nil => simp only [List.nil_append, put]; rw [if_pos h]
  | cons a r ih =>
    obtain ⟨h1, h2⟩ := List.pairwise_cons.1 hm
    simp only [List.cons_append, put]
    rw [if_pos (lt_trans (h1 q (by simp)) h), ih h2]
theorem put_append_same {m : List PV} {p q : PV} {s : List PV} (hm : Rises (m ++ q :: s)) (h : p.1 = q.1) : put (m ++ q :: s) p = m ++ p :: s := by
  induction m with
  | nil => simp only [List.nil_append, put]; rw [if_neg (by rw [h]; exact lt_irrefl _), if_pos h.symm]
  | cons a r ih =>
    obtain ⟨h1, h2⟩ := List.pairwise_cons.1 hm
    simp only [List.cons_append, put]
    rw [if_pos (by rw [h]; exact h1 q (by simp)), ih h2]
theorem rises_left {m s : List PV} (h : Rises (m ++ s)) : Rises m := (List.pairwise_append.1 h).1
theorem rises_right {m s : List PV} {q : PV} (h : Rises (m ++ q :: s)) : Rises s := (List.pairwise_cons.1 (List.pairwise_append.1 h).2.1).2
theorem T.list_put (p : PV) : ∀ t : T, Rises t.list -> (t.put p).list = Bw.put t.list p
  | .nil, _ => rfl
  | .node l q r, h => by
    have hl := T.list_put p l (rises_left h)
    have hr := T.list_put p r (rises_right h)
    simp only [T.list] at h
    simp only [T.put]
    split
    · rename_i e
      have e := (cmp_eq_zero _ _).1 e
      simp only [T.list]
      rw [put_append_same h e]
    · split
      · rename_i e
        simp only [T.list_evened, T.list]
        rw [hr, put_append_right h (cmp_one.1 e)]
      · rename_i e0 e1
        have : lt p.1 q.1 := by
          rcases cmp_range p.1 q.1 with x | x | x
          · exact absurd x e0
          · exact absurd x e1
          · exact x
        simp only [T.list_evened, T.list]
        rw [hl, put_append_left this]
theorem T.even_put (p : PV) : ∀ t : T, t.even -> (t.put p).even
  | .nil, _ => ⟨trivial, trivial, by simp [evenN, T.size]⟩
  | .node l q r, h => by
    simp only [T.put]
    split
    · exact h
    · split
      · exact T.even_evened q h.1 (T.even_put p r h.2.1)
      · exact T.even_evened q (T.even_put p l h.1) h.2.1
theorem T.size_put_le (p : PV) : ∀ t : T, (t.put p).size <= t.size + 1
  | .nil => by simp [T.put, T.size]
  | .node l q r => by
    simp only [T.put]
    split
    · simp [T.size]
    · split
      · rw [T.size_evened]; have := T.size_put_le p r; simp only [T.size]; omega
      · rw [T.size_evened]; have := T.size_put_le p l; simp only [T.size]; omega
theorem T.steps_le (k : Bytes) : ∀ t : T, t.steps k <= t.size
  | .nil => Nat.le_refl _
  | .node l q r => by
    simp only [T.steps, T.size]
    split
    · omega
    · split
      · have := T.steps_le k r; omega
      · have := T.steps_le k l; omega
theorem mem_T_put {p : PV} : ∀ (t : T) {x : PV}, x ∈ (t.put p).list -> x = p \/ x ∈ t.list
  | .nil, x, h => by simp [T.put, T.list] at h; exact .inl h
  | .node l q r, x, h => by
    simp only [T.put] at h
    split at h
    · simp only [T.list, List.mem_append, List.mem_cons] at h ⊢
      rcases h with h | h | h
      · exact .inr (.inl h)
      · exact .inl h
      · exact .inr (.inr (.inr h))
    · split at h
      · rw [T.list_evened] at h
        simp only [T.list, List.mem_append, List.mem_cons] at h ⊢
        rcases h with h | h | h
        · exact .inr (.inl h)
        · exact .inr (.inr (.inl h))
        · rcases mem_T_put r h with h | h
          · exact .inl h
          · exact .inr (.inr (.inr h))
      · rw [T.list_evened] at h
        simp only [T.list, List.mem_append, List.mem_cons] at h ⊢
        rcases h with h | h | h
        · rcases mem_T_put l h with h | h
          · exact .inl h
          · exact .inr (.inl h)
        · exact .inr (.inr (.inl h))
        · exact .inr (.inr (.inr h))
theorem T.size_put_ge (p : PV) : ∀ t : T, t.size <= (t.put p).size
  | .nil => Nat.zero_le _
  | .node l q r => by
    simp only [T.put]
    split
    · simp [T.size]
    · split
      · rw [T.size_evened]; have := T.size_put_ge p r; simp only [T.size]; omega
      · rw [T.size_evened]; have := T.size_put_ge p l; simp only [T.size]; omega
def Near (a t : Nat) : Prop := 3 * (t + 1) <= 13 * (a + 1) \/ evenN (a + 1) t
theorem near_twice {a i o il ir : Nat} (h1 : evenN i o) (h2 : ¬ evenN a (i + 1 + o)) (h3 : Near a (i + 1 + o)) (hlt : a < i + 1 + o) (hi : i = il + 1 + ir) (h4 : evenN il ir) (hs : ¬ (evenN a i /\ evenN (a + i + 1) o)) :
    evenN a il /\ evenN ir o /\ evenN (a + 1 + il) (ir + 1 + o) := by
  have _ := And.intro h1 (And.intro h2 (And.intro h3 (And.intro hi (And.intro h4 (And.intro hlt hs)))))
  unfold Near evenN at *
  omega
theorem near_once {a o : Nat} (h1 : evenN 0 o) (h2 : ¬ evenN a (0 + 1 + o)) (h3 : Near a (0 + 1 + o)) (hlt : a < 0 + 1 + o) (hs : ¬ (evenN a 0 /\ evenN (a + 0 + 1) o)) : False := by
  have _ := And.intro h1 (And.intro h2 (And.intro h3 (And.intro hlt hs)))
  unfold Near evenN at *
  omega
theorem near_put {a t : Nat} (h : evenN a t) : Near a (t + 1) := by unfold Near evenN at *; omega
theorem near_del {a t : Nat} (h : evenN (a + 1) t) : Near a t := .inr h
theorem near_join {a lr rs : Nat} (h : evenN a lr) (hr : ¬ evenN (a + 1 + lr) rs) (hlt : rs < a + 1 + lr) : Near a (lr + 1 + rs) := by
  have _ := And.intro h (And.intro hr hlt)
  unfold Near evenN at *
  omega
theorem near_even {a t : Nat} (h : evenN a t) : Near a t := by unfold Near evenN at *; omega
theorem T.turnL_ne {l r : T} (p : PV) (hr : r.even) (he : evenB l.size r.size = false) (hlt : l.size < r.size) (hn : Near l.size r.size) : T.turnL l p r ≠ .nil := by
  have he : ¬ evenN l.size r.size := fun h => by rw [evenB_iff.2 h] at he; cases he
  cases r with
  | nil => simp [T.size] at hlt
  | node i q o =>
    obtain ⟨hi, _, hio⟩ := hr
    simp only [T.size] at he hn hlt
    simp only [T.turnL]
    split
    · intro e; cases e
    · rename_i hs
      simp only [singleB, Bool.and_eq_true, evenB_iff] at hs
      cases i with
      | nil => exact (near_once hio he hn hlt hs).elim
      | node il ip ir =>
        obtain ⟨e1, e2, e3⟩ := near_twice (i := (T.node il ip ir).size) hio he hn hlt rfl hi.2.2 hs
        simp only
        rw [if_pos (by simp only [Bool.and_eq_true, evenB_iff]; exact ⟨⟨e1, e2⟩, e3⟩)]
        intro e; cases e
theorem T.turnR_ne {l r : T} (p : PV) (hl : l.even) (he : evenB l.size r.size = false) (hle : r.size <= l.size) (hn : Near r.size l.size) : T.turnR r p l ≠ .nil := by
  have he : ¬ evenN r.size l.size := fun h => by rw [evenB_iff.2 (evenN_symm h)] at he; cases he
  have hlt : r.size < l.size := by
    rcases Nat.lt_or_ge r.size l.size with h | h
    · exact h
    · exact absurd (show evenN r.size l.size by unfold evenN; omega) he
  cases l with
  | nil => simp [T.size] at hlt
  | node o q i =>
    obtain ⟨_, hi, hio⟩ := hl
    have hio := evenN_symm hio
    have e0 : o.size + 1 + i.size = i.size + 1 + o.size := by omega
    simp only [T.size] at he hn hlt
    rw [e0] at he hn hlt
    simp only [T.turnR]
    split
    · intro e; cases e
    · rename_i hs
      simp only [singleB, Bool.and_eq_true, evenB_iff] at hs
      cases i with
      | nil => exact (near_once hio he hn hlt hs).elim
      | node il ip ir =>
        obtain ⟨e1, e2, e3⟩ := near_twice (i := (T.node il ip ir).size) (il := ir.size) (ir := il.size) hio he hn hlt (by simp only [T.size]; omega) (evenN_symm hi.2.2) hs
        simp only
        rw [if_pos (by simp only [Bool.and_eq_true, evenB_iff]; exact ⟨⟨e1, e2⟩, e3⟩)]
        intro e; cases e
theorem T.orFrom_ne {t : T} {l : List PV} (h : t ≠ .nil) : t.orFrom l = t := by
  cases t with
  | nil => exact absurd rfl h
  | node a p b => rfl
def Fair (l r : T) : Prop := l.even /\ r.even /\ (l.size < r.size -> Near l.size r.size) /\ (r.size <= l.size -> Near r.size l.size)
theorem fair_put_right {l r : T} (p : PV) (hl : l.even) (hr : r.even) (h : evenN l.size r.size) : Fair l (r.put p) := by
  have h1 := T.size_put_le p r
  have h2 := T.size_put_ge p r
  refine ⟨hl, T.even_put p r hr, fun _ => ?_, fun hle => ?_⟩
  · rcases Nat.lt_or_ge r.size (r.put p).size with x | x
    · rw [show (r.put p).size = r.size + 1 by omega]; exact near_put h
    · rw [show (r.put p).size = r.size by omega]; exact near_even h
  · have : evenN (r.put p).size l.size := by unfold evenN at *; omega
    exact near_even this
theorem fair_put_left {l r : T} (p : PV) (hl : l.even) (hr : r.even) (h : evenN l.size r.size) : Fair (l.put p) r := by
  have h1 := T.size_put_le p l
  have h2 := T.size_put_ge p l
  refine ⟨T.even_put p l hl, hr, fun hlt => ?_, fun _ => ?_⟩
  · have : evenN (l.put p).size r.size := by unfold evenN at *; omega
    exact near_even this
  · rcases Nat.lt_or_ge l.size (l.put p).size with x | x
    · rw [show (l.put p).size = l.size + 1 by omega]; exact near_put (evenN_symm h)
    · rw [show (l.put p).size = l.size by omega]; exact near_even (evenN_symm h)
end Bw
/- The layout of entries of unlike keys, as a node, and as the document has it; that of a pair more. -/
namespace Bw
abbrev En := Nat × PV
theorem mem_bitsOf {m x : Nat} : x ∈ bitsOf m ↔ x < 32 /\ m.testBit x = true := by
  unfold bitsOf
  rw [List.mem_filter, List.mem_range]
theorem nodup_bitsOf (m : Nat) : (bitsOf m).Nodup := List.Pairwise.filter _ List.nodup_range
theorem chunkAt_lt (h level : Nat) : chunkAt h level < 32 := Nat.mod_lt _ (by decide)
theorem mod_chunk (h level : Nat) : h % 32 ^ (level + 1) = h % 32 ^ level + 32 ^ level * chunkAt h level := by
  unfold chunkAt
  rw [Nat.pow_succ, Nat.mod_mul]
theorem chunk_inj {g h level : Nat} (h1 : g % 32 ^ level = h % 32 ^ level) (h2 : chunkAt g level = chunkAt h level) : g % 32 ^ (level + 1) = h % 32 ^ (level + 1) := by
  rw [mod_chunk, mod_chunk, h1, h2]
theorem hash_end {g h : Nat} (hg : g < 18446744073709551616) (hh : h < 18446744073709551616) (e : g % 32 ^ 13 = h % 32 ^ 13) : g = h := by
  rw [Nat.mod_eq_of_lt (by omega), Nat.mod_eq_of_lt (by omega)] at e
  exact e
theorem mem_put_iff {m : List PV} (hm : Rises m) {p x : PV} : x ∈ put m p ↔ x = p \/ x ∈ m /\ x.1 ≠ p.1 := by
  induction m with
  | nil => simp [put]
  | cons q r ih =>
    obtain ⟨h1, h2⟩ := List.pairwise_cons.1 hm
    simp only [put]
    split
    · rename_i a
      simp only [List.mem_cons, ih h2]
      constructor
      · rintro (rfl | rfl | ⟨hx, hn⟩)
        · exact .inr ⟨.inl rfl, lt_ne a⟩
        · exact .inl rfl
        · exact .inr ⟨.inr hx, hn⟩
      · rintro (rfl | ⟨rfl | hx, hn⟩)
        · exact .inr (.inl rfl)
        · exact .inl rfl
        · exact .inr (.inr ⟨hx, hn⟩)
    · rename_i a
      split
      · rename_i b
        simp only [List.mem_cons]
        constructor
        · rintro (rfl | hx)
          · exact .inl rfl
          · exact .inr ⟨.inr hx, fun e => lt_ne (h1 x hx) (b.trans e.symm)⟩
        · rintro (rfl | ⟨rfl | hx, hn⟩)
          · exact .inl rfl
          · exact absurd b hn
          · exact .inr hx
      · rename_i b
        have hpq : lt p.1 q.1 := by
          rcases lt_or p.1 q.1 with h | h | h
          · exact h
          · exact absurd h.symm b
          · exact absurd h a
        simp only [List.mem_cons]
        constructor
        · rintro (rfl | rfl | hx)
          · exact .inl rfl
          · exact .inr ⟨.inl rfl, fun e => lt_ne hpq e.symm⟩
          · exact .inr ⟨.inr hx, fun e => lt_ne (lt_trans hpq (h1 x hx)) e.symm⟩
        · rintro (rfl | ⟨hx, _⟩)
          · exact .inl rfl
          · exact .inr hx
theorem rises_ext : ∀ {a b : List PV}, Rises a -> Rises b -> (∀ x, x ∈ a ↔ x ∈ b) -> a = b
  | [], [], _, _, _ => rfl
  | [], y :: b, _, _, h => by have := (h y).2 (by simp); simp at this
  | x :: a, [], _, _, h => by have := (h x).1 (by simp); simp at this
  | x :: a, y :: b, ha, hb, h => by
    obtain ⟨a1, a2⟩ := List.pairwise_cons.1 ha
    obtain ⟨b1, b2⟩ := List.pairwise_cons.1 hb
    have e : x = y := by
      rcases List.mem_cons.1 ((h x).1 (by simp)) with e | hx
      · exact e
      · rcases List.mem_cons.1 ((h y).2 (by simp)) with e | hy
        · exact e.symm
        · exact absurd (a1 y hy) (lt_asymm (b1 x hx))
    subst e
    rw [rises_ext a2 b2 fun z => ?_]
    constructor
    · intro hz
      rcases List.mem_cons.1 ((h z).1 (by simp [hz])) with e | hz'
      · subst e; exact absurd (a1 z hz) (lt_irrefl _)
      · exact hz'
    · intro hz
      rcases List.mem_cons.1 ((h z).2 (by simp [hz])) with e | hz'
      · subst e; exact absurd (b1 z hz) (lt_irrefl _)
      · exact hz'
theorem mem_foldl_put {l : List PV} (hl : l.Pairwise fun a b => a.1 ≠ b.1) : ∀ {m : List PV}, Rises m -> ∀ x, x ∈ l.foldl put m ↔ x ∈ l \/ x ∈ m /\ ∀ y ∈ l, x.1 ≠ y.1 := by
  induction l with
  | nil => intro m _ x; simp
  | cons p r ih =>
    intro m hm x
    obtain ⟨h1, h2⟩ := List.pairwise_cons.1 hl
    rw [List.foldl_cons, ih h2 (rises_put hm p), mem_put_iff hm]
    simp only [List.mem_cons]
    constructor
    · rintro (h | ⟨rfl | ⟨hx, hn⟩, hy⟩)
      · exact .inl (.inr h)
      · exact .inl (.inl rfl)
      · refine .inr ⟨hx, ?_⟩
        rintro y (rfl | hy')
        · exact hn
        · exact hy y hy'
    · rintro ((rfl | h) | ⟨hx, hy⟩)
      · exact .inr ⟨.inl rfl, fun y hy => h1 y hy⟩
      · exact .inl h
      · exact .inr ⟨.inr ⟨hx, hy p (.inl rfl)⟩, fun y hy' => hy y (.inr hy')⟩
theorem mem_come_iff {l : List PV} (hl : l.Pairwise fun a b => a.1 ≠ b.1) (x : PV) : x ∈ come l ↔ x ∈ l := by
  unfold come
  rw [mem_foldl_put hl (by simp [Rises])]
  simp
theorem length_put_get {m : List PV} (hm : Rises m) (p : PV) : (put m p).length = m.length + if (get m p.1).isSome then 0 else 1 := by
  induction m with
  | nil => simp [put, get]
  | cons q r ih =>
    obtain ⟨h1, h2⟩ := List.pairwise_cons.1 hm
    by_cases a : lt q.1 p.1
    · have e1 : put (q :: r) p = q :: put r p := by simp only [put, a, if_true]
      have e2 : get (q :: r) p.1 = get r p.1 := by simp only [get]; rw [if_neg (lt_ne a)]
      rw [e1, e2, List.length_cons, ih h2, List.length_cons]; omega
    · by_cases b : q.1 = p.1
      · have e1 : put (q :: r) p = p :: r := by simp only [put]; rw [if_neg a, if_pos b]
        have e2 : get (q :: r) p.1 = some q.2 := by simp only [get]; rw [if_pos b]
        rw [e1, e2]; simp
      · have e1 : put (q :: r) p = p :: q :: r := by simp only [put, a, b, if_false]
        have hpq : lt p.1 q.1 := by
          rcases lt_or p.1 q.1 with h | h | h
          · exact h
          · exact absurd h.symm b
          · exact absurd h a
        have hn : get r p.1 = none := by
          clear ih h2 hm e1
          induction r with
          | nil => rfl
          | cons z r ihr =>
            simp only [get]
            rw [if_neg (fun e => lt_ne (lt_trans hpq (h1 z (by simp))) e.symm)]
            exact ihr fun y hy => h1 y (by simp [hy])
        have e2 : get (q :: r) p.1 = none := by simp only [get]; rw [if_neg b, hn]
        rw [e1, e2]; simp
theorem get_isSome {m : List PV} {k : Bytes} : (get m k).isSome = true ↔ ∃ x ∈ m, x.1 = k := by
  induction m with
  | nil => simp [get]
  | cons q r ih =>
    simp only [get]
    split
    · rename_i h; simp [h]
    · rename_i h; rw [ih]; simp [h]
inductive Lays : Nat -> N -> (En -> Prop) -> Prop
  | leaf {level h : Nat} {p : PV} {S : En -> Prop} (hs : ∀ e, S e ↔ e = (h, p)) : Lays level (.leaf h p) S
  | bucket {level h : Nat} {t : T} {S : En -> Prop} (he : t.even) (hr : Rises t.list) (h2 : 2 <= t.list.length) (hs : ∀ e, S e ↔ e.1 = h /\ e.2 ∈ t.list) : Lays level (.bucket h t) S
  | branch {level m : Nat} {kids : List N} {S : En -> Prop} (hm : m < 4294967296) (hl : kids.length = (bitsOf m).length) (h2 : ∃ a b, S a /\ S b /\ a.1 ≠ b.1)
      (hc : ∀ e, S e -> chunkAt e.1 level ∈ bitsOf m) (hk : ∀ (j c : Nat) (k : N), (bitsOf m)[j]? = some c -> kids[j]? = some k -> Lays (level + 1) k fun e => S e /\ chunkAt e.1 level = c) : Lays level (.branch m kids) S
theorem Lays.congr {level : Nat} {n : N} {S S' : En -> Prop} (h : Lays level n S) (e : ∀ x, S x ↔ S' x) : Lays level n S' := by
  have : S = S' := funext fun x => propext (e x)
  exact this ▸ h
theorem two_of_length {α : Type} {l : List α} (h : 2 <= l.length) : ∃ a b r, l = a :: b :: r := by
  match l, h with
  | a :: b :: r, _ => exact ⟨a, b, r, rfl⟩
theorem Lays.some {level : Nat} {n : N} {S : En -> Prop} (h : Lays level n S) : ∃ e, S e := by
  cases h with
  | leaf hs => exact ⟨_, (hs _).2 rfl⟩
  | bucket _ _ h2 hs =>
    obtain ⟨a, b, r, e⟩ := two_of_length h2
    exact ⟨(_, a), (hs _).2 ⟨rfl, by rw [e]; simp⟩⟩
  | branch _ _ h2 =>
    obtain ⟨a, _, ha, _⟩ := h2
    exact ⟨a, ha⟩
def Unlike (l : List En) : Prop := l.Pairwise fun a b => a.2.1 ≠ b.2.1
theorem Unlike.filter {l : List En} (h : Unlike l) (f : En -> Bool) : Unlike (l.filter f) := List.Pairwise.filter f h
theorem Unlike.pairs {l : List En} (h : Unlike l) : (l.map (·.2)).Pairwise fun a b => a.1 ≠ b.1 := List.pairwise_map.2 h
theorem Unlike.nodup {l : List En} (h : Unlike l) : l.Nodup := List.Pairwise.imp (fun h e => h (by rw [e])) h
def partOf (level c : Nat) (l : List En) : List En := l.filter fun x => chunkAt x.1 level == c
theorem mem_partOf {level c : Nat} {l : List En} {e : En} : e ∈ partOf level c l ↔ e ∈ l /\ chunkAt e.1 level = c := by simp [partOf]
def layX : Nat -> Nat -> List En -> X
  | _, _, [] => .zero
  | 0, _, e :: r => if (e :: r).all (fun x => x.1 == e.1) then .mk (if (e :: r).length = 1 then 1 else 2) e.1 (come ((e :: r).map (·.2))) [] [] else .zero
  | f + 1, level, e :: r =>
    if (e :: r).all (fun x => x.1 == e.1) then .mk (if (e :: r).length = 1 then 1 else 2) e.1 (come ((e :: r).map (·.2))) [] []
    else .mk 3 0 [] ((List.range 32).filter fun c => (e :: r).any fun x => chunkAt x.1 level == c) (((List.range 32).filter fun c => (e :: r).any fun x => chunkAt x.1 level == c).map fun c => layX f (level + 1) (partOf level c (e :: r)))
theorem layX_same {f level : Nat} {l : List En} {e : En} (hl : e ∈ l) (hs : ∀ x ∈ l, x.1 = e.1) : layX f level l = .mk (if l.length = 1 then 1 else 2) e.1 (come (l.map (·.2))) [] [] := by
  match l, hl with
  | y :: r, hl =>
    have hy : y.1 = e.1 := hs y (by simp)
    have ha : (y :: r).all (fun x => x.1 == y.1) = true := by
      rw [List.all_eq_true]
      intro x hx
      rw [beq_iff_eq, hs x hx, hy]
    cases f <;> (simp only [layX]; rw [if_pos ha, hy])
theorem layX_split {f level : Nat} {l : List En} {a b : En} (ha : a ∈ l) (hb : b ∈ l) (hne : a.1 ≠ b.1) :
    layX (f + 1) level l = .mk 3 0 [] ((List.range 32).filter fun c => l.any fun x => chunkAt x.1 level == c) (((List.range 32).filter fun c => l.any fun x => chunkAt x.1 level == c).map fun c => layX f (level + 1) (partOf level c l)) := by
  match l, ha with
  | y :: r, ha =>
    have hn : ¬ (y :: r).all (fun x => x.1 == y.1) = true := by
      intro h
      rw [List.all_eq_true] at h
      have h1 := beq_iff_eq.1 (h a ha)
      have h2 := beq_iff_eq.1 (h b hb)
      exact hne (h1.trans h2.symm)
    simp only [layX]
    rw [if_neg hn]
theorem lays_abs {level : Nat} {n : N} {S : En -> Prop} (h : Lays level n S) : ∀ (f : Nat) (l : List En), level + f = 13 -> Unlike l -> (∀ e, e ∈ l ↔ S e) -> (∃ r, ∀ e, S e -> e.1 % 32 ^ level = r) -> (∀ e, S e -> e.1 < 18446744073709551616) -> layX f level l = n.abs := by
  induction h with
  | @leaf level h p S hs =>
    intro f l _ hu hm _ _
    have hl : l = [(h, p)] := by
      have h1 : ∀ e, e ∈ l ↔ e = (h, p) := fun e => (hm e).trans (hs e)
      match l, hu, h1 with
      | [], _, h1 => have := (h1 (h, p)).2 rfl; simp at this
      | [a], _, h1 => rw [(h1 a).1 (by simp)]
      | a :: b :: r, hu, h1 =>
        have ea := (h1 a).1 (by simp)
        have eb := (h1 b).1 (by simp)
        have := (List.pairwise_cons.1 hu).1 b (by simp)
        rw [ea, eb] at this
        exact absurd rfl this
    subst hl
    rw [layX_same (e := (h, p)) (by simp) (by simp)]
    simp [come, put, N.abs]
  | @bucket level h t S he hr h2 hs =>
    intro f l _ hu hm _ _
    obtain ⟨a, b, r, e⟩ := two_of_length h2
    have hab : a ≠ b := fun h => by
      rw [e] at hr
      have := (List.pairwise_cons.1 hr).1 b (by simp)
      rw [h] at this
      exact lt_irrefl _ this
    have ha : (h, a) ∈ l := (hm _).2 ((hs _).2 ⟨rfl, by rw [e]; simp⟩)
    have hb : (h, b) ∈ l := (hm _).2 ((hs _).2 ⟨rfl, by rw [e]; simp⟩)
    have h1 : ¬ l.length = 1 := by
      intro h1
      match l, h1, ha, hb with
      | [x], _, ha, hb =>
        simp only [List.mem_singleton] at ha hb
        have := ha.trans hb.symm
        simp only [Prod.mk.injEq, true_and] at this
        exact hab this
    have hmem : ∀ x, x ∈ l.map (·.2) ↔ x ∈ t.list := by
      intro x
      rw [List.mem_map]
      constructor
      · rintro ⟨e, he, rfl⟩
        exact ((hs e).1 ((hm e).1 he)).2
      · intro hx
        exact ⟨(h, x), (hm _).2 ((hs _).2 ⟨rfl, hx⟩), rfl⟩
    rw [layX_same (e := (h, a)) ha (fun x hx => ((hs x).1 ((hm x).1 hx)).1), if_neg h1]
    have : come (l.map (·.2)) = t.list := rises_ext (rises_come _) hr fun x => (mem_come_iff hu.pairs x).trans (hmem x)
    rw [this]
    simp [N.abs]
  | @branch level m kids S hm32 hl h2 hc hk ih =>
    intro f l hf hu hm hr hb
    obtain ⟨a, b, ha, hb', hne⟩ := h2
    obtain ⟨r, hr⟩ := hr
    match f, hf with
    | 0, hf =>
      have : level = 13 := by omega
      subst this
      exact absurd (hash_end (hb a ha) (hb b hb') ((hr a ha).trans (hr b hb').symm)) hne
    | f + 1, hf =>
      rw [layX_split ((hm a).2 ha) ((hm b).2 hb') hne]
      have hcs : ((List.range 32).filter fun c => l.any fun x => chunkAt x.1 level == c) = bitsOf m := by
        unfold bitsOf
        refine List.filter_congr fun c hc32 => ?_
        rw [Bool.eq_iff_iff, List.any_eq_true]
        constructor
        · rintro ⟨x, hx, hxc⟩
          have := hc x ((hm x).1 hx)
          rw [beq_iff_eq.1 hxc] at this
          exact (mem_bitsOf.1 this).2
        · intro ht
          have hmem : c ∈ bitsOf m := mem_bitsOf.2 ⟨List.mem_range.1 hc32, ht⟩
          obtain ⟨j, hj⟩ := List.mem_iff_getElem?.1 hmem
          have hjl : j < kids.length := by rw [hl]; exact (List.getElem?_eq_some_iff.1 hj).1
          obtain ⟨e, he, hec⟩ := (hk j c kids[j] hj (List.getElem?_eq_getElem hjl)).some
          exact ⟨e, (hm e).2 he, beq_iff_eq.2 hec⟩
      rw [hcs]
      simp only [N.abs]
      congr 1
      rw [N.absL_eq]
      refine List.ext_getElem (by simp [hl]) fun j h1 h2 => ?_
      rw [List.length_map] at h1 h2
      rw [List.getElem_map, List.getElem_map]
      refine ih j _ _ (List.getElem?_eq_getElem h1) (List.getElem?_eq_getElem h2) f _ (by omega) (hu.filter _) (fun e => by rw [mem_partOf, hm]) ⟨r + 32 ^ level * (bitsOf m)[j], ?_⟩ (fun e he => hb e he.1)
      rintro e ⟨he, hec⟩
      rw [mod_chunk, hr e he, hec]
theorem sum_parts (f : En -> Nat) : ∀ (l : List En) (cs : List Nat), cs.Nodup -> (∀ e ∈ l, f e ∈ cs) -> (cs.map fun c => (l.filter fun x => f x == c).length).sum = l.length := by
  intro l
  induction l with
  | nil =>
    intro cs _ _
    induction cs with
    | nil => rfl
    | cons c s ihs => rw [List.map_cons, List.sum_cons, ihs (by simp_all) (by simp)]; rfl
  | cons e r ih =>
    intro cs hn hc
    have h1 : ∀ cs : List Nat, (cs.map fun c => ((e :: r).filter fun x => f x == c).length).sum = (cs.map fun c => (r.filter fun x => f x == c).length).sum + cs.count (f e) := by
      intro cs
      induction cs with
      | nil => rfl
      | cons c s ihs =>
        rw [List.map_cons, List.sum_cons, ihs, List.map_cons, List.sum_cons, List.filter_cons, List.count_cons]
        by_cases h : f e = c
        · have hb : (f e == c) = true := by rw [beq_iff_eq]; exact h
          have hb' : (c == f e) = true := by rw [beq_iff_eq]; exact h.symm
          rw [if_pos hb, if_pos hb', List.length_cons]; omega
        · have hb : ¬ (f e == c) = true := by rw [beq_iff_eq]; exact h
          have hb' : ¬ (c == f e) = true := by rw [beq_iff_eq]; exact fun x => h x.symm
          rw [if_neg hb, if_neg hb']; omega
    have h2 : cs.count (f e) = 1 := by rw [List.Nodup.count hn, if_pos (hc e (by simp))]
    rw [h1, ih cs hn (fun x hx => hc x (by simp [hx])), h2, List.length_cons]
theorem countL_map {kids : List N} {cs : List Nat} {g : Nat -> Nat} (hl : kids.length = cs.length) (h : ∀ (j c : Nat) (k : N), cs[j]? = some c -> kids[j]? = some k -> k.count = g c) : N.countL kids = (cs.map g).sum := by
  induction kids generalizing cs with
  | nil =>
    cases cs with
    | nil => rfl
    | cons c s => simp at hl
  | cons k r ih =>
    cases cs with
    | nil => simp at hl
    | cons c s =>
      simp only [N.countL, List.map_cons, List.sum_cons]
      rw [h 0 c k rfl rfl, ih (by simpa using hl) (fun j c k hj hk => h (j + 1) c k (by simpa using hj) (by simpa using hk))]
theorem lays_count {level : Nat} {n : N} {S : En -> Prop} (h : Lays level n S) : ∀ l : List En, Unlike l -> (∀ e, e ∈ l ↔ S e) -> n.count = l.length := by
  induction h with
  | @leaf level h p S hs =>
    intro l hu hm
    have h1 : ∀ e, e ∈ l ↔ e = (h, p) := fun e => (hm e).trans (hs e)
    have := ((List.perm_ext_iff_of_nodup hu.nodup (by simp : [(h, p)].Nodup)).2 fun e => (h1 e).trans List.mem_singleton.symm).length_eq
    rw [this]; rfl
  | @bucket level h t S he hr h2 hs =>
    intro l hu hm
    have hn : (t.list.map fun x => (h, x)).Nodup := by
      refine List.pairwise_map.2 (List.Pairwise.imp (fun {a b} hab e => ?_) hr)
      simp only [Prod.mk.injEq, true_and] at e
      rw [e] at hab
      exact lt_irrefl _ hab
    have := ((List.perm_ext_iff_of_nodup hu.nodup hn).2 fun e => by
      rw [hm, hs, List.mem_map]
      constructor
      · rintro ⟨h1, h2⟩
        exact ⟨e.2, h2, by rw [<- h1]⟩
      · rintro ⟨x, hx, rfl⟩
        exact ⟨rfl, hx⟩).length_eq
    rw [this, List.length_map, T.length_list]; rfl
  | @branch level m kids S hm32 hl h2 hc hk ih =>
    intro l hu hm
    simp only [N.count]
    rw [countL_map (g := fun c => (partOf level c l).length) hl fun j c k hj hkj => ih j c k hj hkj _ (hu.filter _) fun e => by rw [mem_partOf, hm]]
    exact sum_parts (fun e => chunkAt e.1 level) l _ (nodup_bitsOf m) fun e he => hc e ((hm e).1 he)
theorem lays_branch_level {level m : Nat} {kids : List N} {S : En -> Prop} (h : Lays level (.branch m kids) S) (hl : level <= 13) (hr : ∃ r, ∀ e, S e -> e.1 % 32 ^ level = r) (hb : ∀ e, S e -> e.1 < 18446744073709551616) : level <= 12 := by
  cases h with
  | branch _ _ h2 =>
    obtain ⟨a, b, ha, hb', hne⟩ := h2
    obtain ⟨r, hr⟩ := hr
    by_cases h : level <= 12
    · exact h
    · have : level = 13 := by omega
      subst this
      exact absurd (hash_end (hb a ha) (hb b hb') ((hr a ha).trans (hr b hb').symm)) hne
end Bw
/- A trie with a pair more, as plain data: two nodes made one, a branch with another child; each is the layout of what there is then. -/
namespace Bw
def withKids (m : Nat) (kids : List N) (c : Nat) (k : Option N) : List (Option N) :=
  (bitsOf (m ||| 2 ^ c)).map fun i => if i = c then k else if m.testBit i then kids[ones i m]? else none
def forkO : Nat -> N -> Nat -> N -> Nat -> Nat -> Option N
  | 0, _, _, _, _, _ => none
  | f + 1, a, g, b, h, level =>
    if chunkAt g level = chunkAt h level then branchO (2 ^ chunkAt g level) [forkO f a g b h (level + 1)]
    else if chunkAt h level < chunkAt g level then branchO (2 ^ chunkAt g level ||| 2 ^ chunkAt h level) [some b, some a]
    else branchO (2 ^ chunkAt g level ||| 2 ^ chunkAt h level) [some a, some b]
def PutS (S : En -> Prop) (h : Nat) (p : PV) : En -> Prop := fun e => e = (h, p) \/ S e /\ e.2.1 ≠ p.1
theorem testBit_or_pow (m c i : Nat) : (m ||| 2 ^ c).testBit i = (m.testBit i || decide (c = i)) := by
  rw [Nat.testBit_or, Nat.testBit_two_pow]
theorem mem_bits_or {m c i : Nat} (hc : c < 32) : i ∈ bitsOf (m ||| 2 ^ c) ↔ i = c \/ i ∈ bitsOf m := by
  rw [mem_bitsOf, mem_bitsOf, testBit_or_pow]
  simp only [Bool.or_eq_true, decide_eq_true_iff]
  constructor
  · rintro ⟨h1, h2 | h2⟩
    · exact .inr ⟨h1, h2⟩
    · exact .inl h2.symm
  · rintro (rfl | ⟨h1, h2⟩)
    · exact ⟨hc, .inr rfl⟩
    · exact ⟨h1, .inl h2⟩
theorem or_lt {m c : Nat} (hm : m < 4294967296) (hc : c < 32) : m ||| 2 ^ c < 4294967296 :=
  Nat.or_lt_two_pow (n := 32) hm (Nat.pow_lt_pow_right (by decide) hc)
theorem bits_at_mem {m i : Nat} (h : i ∈ bitsOf m) : (bitsOf m)[ones i m]? = some i := bitsOf_at m i (mem_bitsOf.1 h).1 (mem_bitsOf.1 h).2
theorem seqO_map {α : Type} (f : α -> Option N) (g : α -> N) : ∀ l : List α, (∀ x ∈ l, f x = some (g x)) -> seqO (l.map f) = some (l.map g)
  | [], _ => rfl
  | x :: r, h => by
    rw [List.map_cons, h x (by simp), seqO, seqO_map f g r fun y hy => h y (by simp [hy])]
    rfl
theorem branchO_map {m : Nat} {f : Nat -> Option N} {g : Nat -> N} (hne : bitsOf m ≠ []) (h : ∀ i ∈ bitsOf m, f i = some (g i)) : branchO m ((bitsOf m).map f) = some (.branch m ((bitsOf m).map g)) := by
  unfold branchO
  rw [if_neg (by
    rw [not_or, List.length_map]
    exact ⟨fun e => hne (List.eq_nil_of_length_eq_zero e), fun e => e rfl⟩), seqO_map f g _ h]
  rfl
theorem lays_with {level m c h : Nat} {kids : List N} {S : En -> Prop} {k : N} {p : PV} (hL : Lays level (.branch m kids) S) (hch : chunkAt h level = c) (hcons : ∀ e, S e -> e.2.1 = p.1 -> e.1 = h)
    (hk : Lays (level + 1) k (PutS (fun e => S e /\ chunkAt e.1 level = c) h p)) :
    ∃ kids', branchO (m ||| 2 ^ c) (withKids m kids c (some k)) = some (.branch (m ||| 2 ^ c) kids') /\ Lays level (.branch (m ||| 2 ^ c) kids') (PutS S h p) := by
  cases hL with
  | branch hm hl h2 hc hkk =>
    have hc32 : c < 32 := hch ▸ chunkAt_lt h level
    let d : N := .leaf 0 ([], [])
    let g : Nat -> N := fun i => if i = c then k else (kids[ones i m]?).getD d
    have hkid : ∀ i ∈ bitsOf m, kids[ones i m]? = some ((kids[ones i m]?).getD d) := by
      intro i hi
      have := bits_at_mem hi
      have hlt : ones i m < kids.length := by rw [hl]; exact (List.getElem?_eq_some_iff.1 this).1
      rw [List.getElem?_eq_getElem hlt]; rfl
    have hf : ∀ i ∈ bitsOf (m ||| 2 ^ c), (if i = c then some k else if m.testBit i then kids[ones i m]? else none) = some (g i) := by
      intro i hi
      by_cases e : i = c
      · simp [e, g]
      · rcases (mem_bits_or hc32).1 hi with e' | hi'
        · exact absurd e' e
        · rw [if_neg e, if_pos (mem_bitsOf.1 hi').2, hkid i hi']
          simp only [g]
          rw [if_neg e]
    have hcm : c ∈ bitsOf (m ||| 2 ^ c) := (mem_bits_or hc32).2 (.inl rfl)
    refine ⟨_, branchO_map (List.ne_nil_of_mem hcm) hf, .branch (or_lt hm hc32) (by rw [List.length_map]) ?_ ?_ ?_⟩
    · obtain ⟨a, b, ha, hb, hne⟩ := h2
      have key : ∀ e, S e -> ∃ e', PutS S h p e' /\ e'.1 = e.1 := by
        intro e he
        by_cases x : e.2.1 = p.1
        · exact ⟨(h, p), .inl rfl, (hcons e he x).symm⟩
        · exact ⟨e, .inr ⟨he, x⟩, rfl⟩
      obtain ⟨a', ha', ea⟩ := key a ha
      obtain ⟨b', hb', eb⟩ := key b hb
      exact ⟨a', b', ha', hb', by rw [ea, eb]; exact hne⟩
    · rintro e (rfl | ⟨he, _⟩)
      · exact (mem_bits_or hc32).2 (.inl hch)
      · exact (mem_bits_or hc32).2 (.inr (hc e he))
    · intro j i k' hj hk'
      rw [List.getElem?_map, hj] at hk'
      simp only [Option.map, Option.some.injEq] at hk'
      subst hk'
      have hi := List.mem_of_getElem? hj
      by_cases e : i = c
      · subst e
        simp only [g, if_true]
        refine hk.congr fun e => ?_
        unfold PutS
        constructor
        · rintro (rfl | ⟨⟨h1, h2⟩, h3⟩)
          · exact ⟨.inl rfl, hch⟩
          · exact ⟨.inr ⟨h1, h3⟩, h2⟩
        · rintro ⟨rfl | ⟨h1, h3⟩, h2⟩
          · exact .inl rfl
          · exact .inr ⟨⟨h1, h2⟩, h3⟩
      · rcases (mem_bits_or hc32).1 hi with e' | hi'
        · exact absurd e' e
        · simp only [g]
          rw [if_neg e]
          refine (hkk _ i _ (bits_at_mem hi') (hkid i hi')).congr fun e' => ?_
          unfold PutS
          constructor
          · rintro ⟨h1, h2⟩
            refine ⟨.inr ⟨h1, fun hx => ?_⟩, h2⟩
            have := hcons e' h1 hx
            rw [this, hch] at h2
            exact e h2.symm
          · rintro ⟨rfl | ⟨h1, _⟩, h2⟩
            · rw [hch] at h2
              exact absurd h2.symm e
            · exact ⟨h1, h2⟩
theorem bits_one : ∀ c : Fin 32, bitsOf (2 ^ c.val) = [c.val] := by decide +kernel
theorem bits_two : ∀ c d : Fin 32, c.val < d.val -> bitsOf (2 ^ c.val ||| 2 ^ d.val) = [c.val, d.val] := by decide +kernel
theorem pow_lt32 {c : Nat} (hc : c < 32) : 2 ^ c < 4294967296 := show 2 ^ c < 2 ^ 32 from Nat.pow_lt_pow_right (by decide) hc
theorem branchO_one {c : Nat} {k : N} (hc : c < 32) : branchO (2 ^ c) [some k] = some (.branch (2 ^ c) [k]) := by
  have := branchO_map (m := 2 ^ c) (f := fun _ => some k) (g := fun _ => k) (by rw [bits_one ⟨c, hc⟩]; simp) (fun _ _ => rfl)
  rw [bits_one ⟨c, hc⟩] at this
  exact this
theorem branchO_two {c d : Nat} {a b : N} (hcd : c < d) (hd : d < 32) : branchO (2 ^ c ||| 2 ^ d) [some a, some b] = some (.branch (2 ^ c ||| 2 ^ d) [a, b]) := by
  have hb := bits_two ⟨c, by omega⟩ ⟨d, hd⟩ hcd
  have := branchO_map (m := 2 ^ c ||| 2 ^ d) (f := fun i => if i = c then some a else some b) (g := fun i => if i = c then a else b) (by rw [hb]; simp) (fun i _ => by split <;> rfl)
  rw [hb] at this
  have hdc : ¬ d = c := by omega
  simp only [List.map_cons, List.map_nil, if_true, hdc, if_false] at this
  exact this
theorem lays_one {level c : Nat} {k : N} {S : En -> Prop} (hc : c < 32) (hk : Lays (level + 1) k S) (h2 : ∃ a b, S a /\ S b /\ a.1 ≠ b.1) (hS : ∀ e, S e -> chunkAt e.1 level = c) : Lays level (.branch (2 ^ c) [k]) S := by
  refine .branch (pow_lt32 hc) (by rw [bits_one ⟨c, hc⟩]; rfl) h2 (fun e he => by rw [bits_one ⟨c, hc⟩, hS e he]; simp) ?_
  intro j c' k' hj hk'
  rw [bits_one ⟨c, hc⟩] at hj
  match j, hj, hk' with
  | 0, hj, hk' =>
    simp only [List.getElem?_cons_zero, Option.some.injEq] at hj hk'
    subst hj; subst hk'
    exact hk.congr fun e => ⟨fun he => ⟨he, hS e he⟩, fun he => he.1⟩
  | j + 1, hj, _ => simp at hj
theorem lays_two {level c d : Nat} {a b : N} {Sa Sb : En -> Prop} (hcd : c < d) (hd : d < 32) (ha : Lays (level + 1) a Sa) (hb : Lays (level + 1) b Sb) (hSa : ∀ e, Sa e -> chunkAt e.1 level = c) (hSb : ∀ e, Sb e -> chunkAt e.1 level = d) : Lays level (.branch (2 ^ c ||| 2 ^ d) [a, b]) fun e => Sa e \/ Sb e := by
  have hbt := bits_two ⟨c, by omega⟩ ⟨d, hd⟩ hcd
  refine .branch (or_lt (pow_lt32 (by omega)) hd) (by rw [hbt]; rfl) ?_ ?_ ?_
  · obtain ⟨x, hx⟩ := ha.some
    obtain ⟨y, hy⟩ := hb.some
    refine ⟨x, y, .inl hx, .inr hy, fun e => ?_⟩
    have h1 := hSa x hx
    rw [e, hSb y hy] at h1
    omega
  · rintro e (he | he)
    · rw [hbt, hSa e he]; simp
    · rw [hbt, hSb e he]; simp
  · intro j c' k' hj hk'
    rw [hbt] at hj
    match j, hj, hk' with
    | 0, hj, hk' =>
      simp only [List.getElem?_cons_zero, Option.some.injEq] at hj hk'
      subst hj; subst hk'
      refine ha.congr fun e => ⟨fun he => ⟨.inl he, hSa e he⟩, ?_⟩
      rintro ⟨he | he, h2⟩
      · exact he
      · have := hSb e he; omega
    | 1, hj, hk' =>
      simp only [List.getElem?_cons_succ, List.getElem?_cons_zero, Option.some.injEq] at hj hk'
      subst hj; subst hk'
      refine hb.congr fun e => ⟨fun he => ⟨.inr he, hSb e he⟩, ?_⟩
      rintro ⟨he | he, h2⟩
      · have := hSa e he; omega
      · exact he
    | j + 2, hj, _ => simp at hj
theorem lays_fork {a b : N} {g h : Nat} {Sa Sb : En -> Prop} (ha : ∀ level, Lays level a Sa) (hb : ∀ level, Lays level b Sb) (hga : ∀ e, Sa e -> e.1 = g) (hhb : ∀ e, Sb e -> e.1 = h) (hne : g ≠ h) (hg : g < 18446744073709551616) (hh : h < 18446744073709551616) :
    ∀ f level, level + f = 13 -> g % 32 ^ level = h % 32 ^ level -> ∃ n, forkO f a g b h level = some n /\ Lays level n fun e => Sa e \/ Sb e := by
  intro f
  induction f with
  | zero =>
    intro level hl he
    have : level = 13 := by omega
    subst this
    exact absurd (hash_end hg hh he) hne
  | succ f ih =>
    intro level hl he
    simp only [forkO]
    by_cases hc : chunkAt g level = chunkAt h level
    · rw [if_pos hc]
      obtain ⟨k, hk, hL⟩ := ih (level + 1) (by omega) (chunk_inj he hc)
      refine ⟨_, by rw [hk]; exact branchO_one (chunkAt_lt g level), lays_one (chunkAt_lt g level) hL ?_ ?_⟩
      · obtain ⟨x, hx⟩ := (ha 0).some
        obtain ⟨y, hy⟩ := (hb 0).some
        exact ⟨x, y, .inl hx, .inr hy, by rw [hga x hx, hhb y hy]; exact hne⟩
      · rintro e (he' | he')
        · rw [hga e he']
        · rw [hhb e he', hc]
    · rw [if_neg hc]
      by_cases hlt : chunkAt h level < chunkAt g level
      · rw [if_pos hlt]
        refine ⟨_, by rw [Nat.or_comm]; exact branchO_two hlt (chunkAt_lt g level), ?_⟩
        exact (lays_two hlt (chunkAt_lt g level) (hb _) (ha _) (fun e he' => by rw [hhb e he']) (fun e he' => by rw [hga e he'])).congr fun e => Or.comm
      · rw [if_neg hlt]
        have hlt' : chunkAt g level < chunkAt h level := by omega
        exact ⟨_, branchO_two hlt' (chunkAt_lt h level), lays_two hlt' (chunkAt_lt h level) (ha _) (hb _) (fun e he' => by rw [hga e he']) (fun e he' => by rw [hhb e he'])⟩
theorem lays_any_level {level : Nat} {n : N} {S : En -> Prop} (hn : n.isBranch = false) (h : Lays level n S) : ∀ level', Lays level' n S := by
  intro level'
  cases h with
  | leaf hs => exact .leaf hs
  | bucket h1 h2 h3 h4 => exact .bucket h1 h2 h3 h4
  | branch => simp [N.isBranch] at hn
theorem bucketO_two {h : Nat} {t : T} (h2 : 2 <= t.list.length) : bucketO h t = some (.bucket h t) := by
  rw [T.length_list] at h2
  unfold bucketO
  rw [if_neg (by omega), if_neg (by omega)]
theorem length_put_ge {m : List PV} (hm : Rises m) (p : PV) : m.length <= (put m p).length := by rw [length_put_get hm]; omega
theorem lays_bucket_put {level h : Nat} {t : T} {S : En -> Prop} {p : PV} (hL : Lays level (.bucket h t) S) : bucketO h (t.put p) = some (.bucket h (t.put p)) /\ Lays level (.bucket h (t.put p)) (PutS S h p) := by
  cases hL with
  | bucket he hr h2 hs =>
    have hlen : 2 <= (t.put p).list.length := by rw [T.list_put p t hr]; have := length_put_ge hr p; omega
    refine ⟨bucketO_two hlen, .bucket (T.even_put p t he) (by rw [T.list_put p t hr]; exact rises_put hr p) hlen fun e => ?_⟩
    unfold PutS
    rw [T.list_put p t hr, mem_put_iff hr, hs]
    constructor
    · rintro (rfl | ⟨⟨h1, h2⟩, h3⟩)
      · exact ⟨rfl, .inl rfl⟩
      · exact ⟨h1, .inr ⟨h2, h3⟩⟩
    · rintro ⟨h1, h2 | ⟨h2, h3⟩⟩
      · exact .inl (by rw [<- h1, <- h2])
      · exact .inr ⟨⟨h1, h2⟩, h3⟩
theorem lays_bucket_new {level h : Nat} {S : En -> Prop} {q p : PV} (hL : Lays level (.leaf h q) S) (hne : q.1 ≠ p.1) : bucketO h ((T.from [q]).put p) = some (.bucket h ((T.from [q]).put p)) /\ Lays level (.bucket h ((T.from [q]).put p)) (PutS S h p) := by
  cases hL with
  | leaf hs =>
    have hq : (T.from [q]).list = [q] := T.list_from [q]
    have hr : Rises (T.from [q]).list := by rw [hq]; simp [Rises]
    have hg : get [q] p.1 = none := by simp [get, hne]
    have hlen : 2 <= ((T.from [q]).put p).list.length := by rw [T.list_put p _ hr, length_put_get hr, hq, hg]; simp
    refine ⟨bucketO_two hlen, .bucket (T.even_put p _ (T.even_from _)) (by rw [T.list_put p _ hr]; exact rises_put hr p) hlen fun e => ?_⟩
    unfold PutS
    rw [T.list_put p _ hr, mem_put_iff hr, hq, hs, List.mem_singleton]
    constructor
    · rintro (rfl | ⟨rfl, h3⟩)
      · exact ⟨rfl, .inl rfl⟩
      · exact ⟨rfl, .inr ⟨rfl, hne⟩⟩
    · rintro ⟨h1, h2 | ⟨h2, h3⟩⟩
      · exact .inl (by rw [<- h1, <- h2])
      · exact .inr ⟨by rw [<- h1, <- h2], h3⟩
theorem lays_leaf_same {level h : Nat} {S : En -> Prop} {q p : PV} (hL : Lays level (.leaf h q) S) (he : q.1 = p.1) : Lays level (.leaf h p) (PutS S h p) := by
  cases hL with
  | leaf hs =>
    refine .leaf fun e => ?_
    unfold PutS
    rw [hs]
    constructor
    · rintro (h | ⟨rfl, h⟩)
      · exact h
      · exact absurd he h
    · exact .inl
theorem lays_leaf_new {level h : Nat} {S : En -> Prop} {p : PV} (hS : ∀ e, ¬ S e) : Lays level (.leaf h p) (PutS S h p) :=
  .leaf fun e => ⟨fun h => h.elim id fun h => absurd h.1 (hS e), .inl⟩
def N.hash1 : N -> Nat
  | .leaf h _ => h
  | .bucket h _ => h
  | .branch .. => 0
theorem lays_hash {level : Nat} {n : N} {S : En -> Prop} (hn : n.isBranch = false) (h : Lays level n S) : ∀ e, S e -> e.1 = n.hash1 := by
  intro e he
  cases h with
  | leaf hs => rw [(hs e).1 he]; rfl
  | bucket _ _ _ hs => exact ((hs e).1 he).1
  | branch => simp [N.isBranch] at hn
theorem lays_fork_put {level h : Nat} {n : N} {S : En -> Prop} {p : PV} (hn : n.isBranch = false) (hL : Lays level n S) (hne : n.hash1 ≠ h) (hg : n.hash1 < 18446744073709551616) (hh : h < 18446744073709551616) (hcons : ∀ e, S e -> e.2.1 = p.1 -> e.1 = h) (f : Nat) (hf : level + f = 13) (hpre : n.hash1 % 32 ^ level = h % 32 ^ level) :
    ∃ n', forkO f n n.hash1 (.leaf h p) h level = some n' /\ Lays level n' (PutS S h p) := by
  obtain ⟨n', h1, h2⟩ := lays_fork (Sb := fun e => e = (h, p)) (lays_any_level hn hL) (fun level => .leaf fun e => Iff.rfl) (lays_hash hn hL) (fun e he => by rw [he]) hne hg hh f level hf hpre
  refine ⟨n', h1, h2.congr fun e => ?_⟩
  unfold PutS
  constructor
  · rintro (he | he)
    · exact .inr ⟨he, fun hx => hne ((lays_hash hn hL e he).symm.trans (hcons e he hx))⟩
    · exact .inl he
  · rintro (he | ⟨he, _⟩)
    · exact .inr he
    · exact .inl he
end Bw
/- How many nodes a Put, or a Get, of a trie visits, and how many keys it compares. Plain. -/
namespace Bw
def kidO (m : Nat) (kids : List N) (c : Nat) : Option N := if m.testBit c then kids[ones c m]? else none
def costO : Nat -> Option N -> Nat -> Bytes -> Nat -> Nat × Nat
  | _, none, _, _, _ => (0, 0)
  | _, some (.leaf g _), h, _, _ => (1, if g = h then 1 else 0)
  | _, some (.bucket g t), h, k, _ => if g = h then (t.steps k, t.steps k) else (0, 0)
  | 0, some (.branch _ _), _, _, _ => (0, 0)
  | f + 1, some (.branch m kids), h, k, level => ((costO f (kidO m kids (chunkAt h level)) h k (level + 1)).1 + 1, (costO f (kidO m kids (chunkAt h level)) h k (level + 1)).2)
theorem costO_none (f h : Nat) (k : Bytes) (level : Nat) : costO f none h k level = (0, 0) := by cases f <;> rfl
theorem costO_leaf (f g : Nat) (q : PV) (h : Nat) (k : Bytes) (level : Nat) : costO f (some (.leaf g q)) h k level = (1, if g = h then 1 else 0) := by cases f <;> rfl
theorem costO_bucket (f g : Nat) (t : T) (h : Nat) (k : Bytes) (level : Nat) : costO f (some (.bucket g t)) h k level = if g = h then (t.steps k, t.steps k) else (0, 0) := by cases f <;> rfl
def OLays (level : Nat) : Option N -> List En -> Prop
  | none, l => l = []
  | some n, l => Lays level n fun e => e ∈ l
theorem olays_kid {level m : Nat} {kids : List N} {l : List En} (h : Lays level (.branch m kids) fun e => e ∈ l) (c : Nat) : OLays (level + 1) (kidO m kids c) (partOf level c l) := by
  cases h with
  | branch hm hl h2 hc hk =>
    unfold kidO
    by_cases ht : m.testBit c = true
    · have hc32 : c < 32 := by
        rcases Nat.lt_or_ge c 32 with x | x
        · exact x
        · have := Nat.pow_le_pow_right (n := 2) (by decide) x
          rw [Nat.testBit_lt_two_pow (by omega)] at ht; cases ht
      have hat := bitsOf_at m c hc32 ht
      have hlt : ones c m < kids.length := by rw [hl]; exact (List.getElem?_eq_some_iff.1 hat).1
      rw [if_pos ht, List.getElem?_eq_getElem hlt]
      exact (hk _ c _ hat (List.getElem?_eq_getElem hlt)).congr fun e => mem_partOf.symm
    · rw [if_neg ht]
      simp only [OLays]
      rw [List.eq_nil_iff_forall_not_mem]
      intro e he
      obtain ⟨h1, h2⟩ := mem_partOf.1 he
      have := hc e h1
      rw [h2] at this
      exact ht (mem_bitsOf.1 this).2
theorem lays_branch_fit {level m : Nat} {kids : List N} {S : En -> Prop} (h : Lays level (.branch m kids) S) : m < 4294967296 /\ kids.length = (bitsOf m).length := by
  cases h with
  | branch hm hl _ _ _ => exact ⟨hm, hl⟩
end Bw
/- The shape of a node: what is gone through, from above; what is held at its ends. Plain. -/
namespace Bw
abbrev Spot := Nat × Nat × Nat × Nat × Nat
mutual
def N.visits (level : Nat) : N -> List (N × Nat)
  | .leaf h p => [(.leaf h p, level)]
  | .bucket h t => [(.bucket h t, level)]
  | .branch m kids => (.branch m kids, level) :: N.visitsL (level + 1) kids
def N.visitsL (level : Nat) : List N -> List (N × Nat)
  | [] => []
  | k :: r => k.visits level ++ N.visitsL level r
end
def N.spot (level : Nat) : N -> Spot
  | .leaf h _ => (level, 1, h, 0, 1)
  | .bucket h t => (level, 2, h, 0, t.size)
  | .branch m kids => (level, 3, 0, m, N.countL kids)
def N.held : N -> List PV
  | .leaf _ p => [p]
  | .bucket _ t => t.list
  | .branch .. => []
def heldOf (l : List (N × Nat)) : List PV := l.flatMap fun x => x.1.held
theorem heldOf_append (a b : List (N × Nat)) : heldOf (a ++ b) = heldOf a ++ heldOf b := List.flatMap_append
theorem N.visitsL_append (level : Nat) (a b : List N) : N.visitsL level (a ++ b) = N.visitsL level a ++ N.visitsL level b := by
  induction a with
  | nil => simp [N.visitsL]
  | cons k r ih => simp [N.visitsL, ih]
theorem come_alike {l m : List PV} (hm : Rises m) (hl : l.Pairwise fun a b => a.1 ≠ b.1) (h : ∀ x, x ∈ l ↔ x ∈ m) : come l = m :=
  rises_ext (rises_come l) hm fun x => by rw [mem_come_iff hl, h]
def turnedAt (n s i : Nat) : Nat := (n - 1 - i + s) % n
def turned (m : List PV) (s : Nat) : List PV := (List.range m.length).map fun i => m.getD (turnedAt m.length s i) ([], [])
end Bw
/- The layout of entries of unlike keys, as layout.lay makes it: a function; it is a layout. Plain. -/
namespace Bw
def mapOf (level : Nat) (l : List En) : Nat := l.foldl (fun m e => m ||| 2 ^ chunkAt e.1 level) 0
theorem foldl_or_lt (level : Nat) : ∀ (l : List En) (m : Nat), m < 4294967296 -> l.foldl (fun m e => m ||| 2 ^ chunkAt e.1 level) m < 4294967296
  | [], _, h => h
  | e :: r, _, h => foldl_or_lt level r _ (or_lt h (chunkAt_lt e.1 level))
theorem mapOf_lt (level : Nat) (l : List En) : mapOf level l < 4294967296 := foldl_or_lt level l 0 (by decide)
theorem mem_foldl_or (level c : Nat) : ∀ (l : List En) (m : Nat), c ∈ bitsOf (l.foldl (fun m e => m ||| 2 ^ chunkAt e.1 level) m) ↔ c ∈ bitsOf m \/ ∃ e ∈ l, chunkAt e.1 level = c
  | [], m => by simp
  | e :: r, m => by
    rw [List.foldl_cons, mem_foldl_or level c r, mem_bits_or (chunkAt_lt e.1 level)]
    simp only [List.mem_cons]
    constructor
    · rintro ((h | h) | ⟨x, hx, h⟩)
      · exact .inr ⟨e, .inl rfl, h.symm⟩
      · exact .inl h
      · exact .inr ⟨x, .inr hx, h⟩
    · rintro (h | ⟨x, rfl | hx, h⟩)
      · exact .inl (.inr h)
      · exact .inl (.inl h.symm)
      · exact .inr ⟨x, hx, h⟩
theorem mem_mapOf {level c : Nat} {l : List En} : c ∈ bitsOf (mapOf level l) ↔ ∃ e ∈ l, chunkAt e.1 level = c := by
  unfold mapOf
  rw [mem_foldl_or]
  have : bitsOf 0 = [] := by decide
  rw [this]
  simp
def layO : Nat -> Nat -> List En -> Option N
  | _, _, [] => none
  | 0, _, e :: r => if (e :: r).any (fun x => decide (x.1 ≠ e.1)) then none else bucketO e.1 (T.from (come ((e :: r).map (·.2))))
  | f + 1, level, e :: r =>
    if (e :: r).any (fun x => decide (x.1 ≠ e.1)) then branchO (mapOf level (e :: r)) ((bitsOf (mapOf level (e :: r))).map fun c => layO f (level + 1) (partOf level c (e :: r)))
    else bucketO e.1 (T.from (come ((e :: r).map (·.2))))
theorem layO_nil (f level : Nat) : layO f level [] = none := by cases f <;> rfl
theorem layO_same {f level g : Nat} {l : List En} (hne : 0 < l.length) (hg : l[0].1 = g) (h : l.any (fun x => decide (x.1 ≠ g)) = false) : layO f level l = bucketO g (T.from (come (l.map (·.2)))) := by
  match l, hne with
  | e :: r, _ =>
    simp only [List.getElem_cons_zero] at hg
    subst hg
    cases f <;> (simp only [layO]; rw [if_neg (by rw [h]; decide)])
theorem layO_split {f level g : Nat} {l : List En} (hne : 0 < l.length) (hg : l[0].1 = g) (h : l.any (fun x => decide (x.1 ≠ g)) = true) :
    layO (f + 1) level l = branchO (mapOf level l) ((bitsOf (mapOf level l)).map fun c => layO f (level + 1) (partOf level c l)) := by
  match l, hne with
  | e :: r, _ =>
    simp only [List.getElem_cons_zero] at hg
    subst hg
    simp only [layO]; rw [if_pos h]
theorem lays_bucket {level h : Nat} {l : List En} (hu : Unlike l) (hne : l ≠ []) (hs : ∀ e ∈ l, e.1 = h) : OLays level (bucketO h (T.from (come (l.map (·.2))))) l := by
  have hmem : ∀ e, e ∈ l ↔ e.1 = h /\ e.2 ∈ come (l.map (·.2)) := by
    intro e
    rw [mem_come_iff hu.pairs, List.mem_map]
    constructor
    · exact fun he => ⟨hs e he, e, he, rfl⟩
    · rintro ⟨h1, x, hx, h2⟩
      have : x = e := Prod.ext ((hs x hx).trans h1.symm) h2
      exact this ▸ hx
  have hr := rises_come (l.map (·.2))
  generalize come (l.map (·.2)) = m at *
  match m, hmem, hr with
  | [], hmem, _ =>
    obtain ⟨e, he⟩ := List.exists_mem_of_ne_nil l hne
    have := (hmem e).1 he
    simp at this
  | [p], hmem, _ =>
    have : bucketO h (T.from [p]) = some (.leaf h p) := by simp [bucketO, T.size, T.from, T.root]
    rw [this]
    exact .leaf fun e => by
      rw [hmem]
      simp only [List.mem_singleton]
      exact ⟨fun ⟨a, b⟩ => Prod.ext a b, fun e => by subst e; exact ⟨rfl, rfl⟩⟩
  | a :: b :: r, hmem, hr =>
    have h2 : 2 <= (T.from (a :: b :: r)).list.length := by rw [T.list_from]; simp
    rw [bucketO_two h2]
    exact .bucket (T.even_from _) (by rw [T.list_from]; exact hr) h2 (fun e => by rw [T.list_from]; exact hmem e)
theorem any_split {l : List En} {g : Nat} (hne : 0 < l.length) (hg : l[0].1 = g) (h : l.any (fun x => decide (x.1 ≠ g)) = true) : ∃ a b, a ∈ l /\ b ∈ l /\ a.1 ≠ b.1 := by
  rw [List.any_eq_true] at h
  obtain ⟨x, hx, hn⟩ := h
  exact ⟨x, l[0], hx, List.getElem_mem hne, by rw [hg]; exact of_decide_eq_true hn⟩
theorem any_same {l : List En} {g : Nat} (h : l.any (fun x => decide (x.1 ≠ g)) = false) : ∀ e ∈ l, e.1 = g := by
  intro e he
  rw [List.any_eq_false] at h
  have := h e he
  simpa using this
theorem part_same {level r c : Nat} {l : List En} (hr : ∀ e ∈ l, e.1 % 32 ^ level = r) : ∀ e ∈ partOf level c l, e.1 % 32 ^ (level + 1) = r + 32 ^ level * c := by
  intro e he
  obtain ⟨h1, h2⟩ := mem_partOf.1 he
  rw [mod_chunk, hr e h1, h2]
theorem layO_lays : ∀ (f level : Nat) (l : List En), level + f = 13 -> Unlike l -> (∃ r, ∀ e ∈ l, e.1 % 32 ^ level = r) -> (∀ e ∈ l, e.1 < 18446744073709551616) -> OLays level (layO f level l) l := by
  intro f
  induction f with
  | zero =>
    intro level l hf hu ⟨r, hr⟩ hb
    rcases Nat.eq_zero_or_pos l.length with h0 | hne
    · rw [List.eq_nil_of_length_eq_zero h0, layO_nil]; rfl
    · cases hany : l.any (fun x => decide (x.1 ≠ l[0].1)) with
      | false => rw [layO_same hne rfl hany]; exact lays_bucket hu (fun e => by simp [e] at hne) (any_same hany)
      | true =>
        obtain ⟨a, b, ha, hb', hn⟩ := any_split hne rfl hany
        have : level = 13 := by omega
        subst this
        exact absurd (hash_end (hb a ha) (hb b hb') ((hr a ha).trans (hr b hb').symm)) hn
  | succ f ih =>
    intro level l hf hu ⟨r, hr⟩ hb
    rcases Nat.eq_zero_or_pos l.length with h0 | hne
    · rw [List.eq_nil_of_length_eq_zero h0, layO_nil]; rfl
    · cases hany : l.any (fun x => decide (x.1 ≠ l[0].1)) with
      | false => rw [layO_same hne rfl hany]; exact lays_bucket hu (fun e => by simp [e] at hne) (any_same hany)
      | true =>
        have hk : ∀ c, OLays (level + 1) (layO f (level + 1) (partOf level c l)) (partOf level c l) := fun c =>
          ih (level + 1) (partOf level c l) (by omega) (hu.filter _) ⟨_, part_same hr⟩ (fun e he => hb e (mem_partOf.1 he).1)
        rw [layO_split hne rfl hany]
        have hsome : ∀ c ∈ bitsOf (mapOf level l), layO f (level + 1) (partOf level c l) = some ((layO f (level + 1) (partOf level c l)).getD (.leaf 0 ([], []))) := by
          intro c hc
          obtain ⟨e, he, hec⟩ := mem_mapOf.1 hc
          have := hk c
          cases ho : layO f (level + 1) (partOf level c l) with
          | some k => rfl
          | none =>
            rw [ho] at this
            have h2 : e ∈ partOf level c l := mem_partOf.2 ⟨he, hec⟩
            rw [show partOf level c l = [] from this] at h2
            simp at h2
        have hmem0 : chunkAt l[0].1 level ∈ bitsOf (mapOf level l) := mem_mapOf.2 ⟨_, List.getElem_mem hne, rfl⟩
        rw [branchO_map (List.ne_nil_of_mem hmem0) hsome]
        refine .branch (mapOf_lt level l) (by rw [List.length_map]) (any_split hne rfl hany) (fun e he => mem_mapOf.2 ⟨e, he, rfl⟩) ?_
        intro j c k hj hkj
        rw [List.getElem?_map, hj] at hkj
        obtain rfl := Option.some.inj hkj
        have h1 := hk c
        rw [hsome c (List.mem_of_getElem? hj)] at h1
        exact Lays.congr h1 fun e => mem_partOf
end Bw
