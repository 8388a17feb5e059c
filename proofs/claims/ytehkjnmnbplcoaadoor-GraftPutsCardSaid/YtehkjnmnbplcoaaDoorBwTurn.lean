/- Trees with a pair more, turned as the program turns them: their lists, that they stay even, how many steps are gone. -/
import Derived.Test.YtehkjnmnbplcoaaDoorBwAll
namespace Bw
open Go.Lib (compareBytes)

def evenB (l r : Nat) : Bool := decide (l + 1 ≤ 3 * (r + 1) ∧ r + 1 ≤ 3 * (l + 1))
theorem evenB_iff {l r : Nat} : evenB l r = true ↔ evenN l r := by simp [evenB, evenN]
def singleB (l i o : Nat) : Bool := evenB l i && evenB (l + i + 1) o

/-- the right side is too heavy; nothing: it can't -/
def T.turnL (l : T) (p : PV) : T → T
  | .nil => .nil
  | .node i q o =>
    if singleB l.size i.size o.size then .node (.node l p i) q o
    else match i with
      | .nil => .nil
      | .node il ip ir => if evenB l.size il.size && evenB ir.size o.size && evenB (l.size + 1 + il.size) (ir.size + 1 + o.size) then .node (.node l p il) ip (.node ir q o) else .nil

def T.turnR (r : T) (p : PV) : T → T
  | .nil => .nil
  | .node o q i =>
    if singleB r.size i.size o.size then .node o q (.node i p r)
    else match i with
      | .nil => .nil
      | .node il ip ir => if evenB r.size ir.size && evenB il.size o.size && evenB (r.size + 1 + ir.size) (il.size + 1 + o.size) then .node (.node o q il) ip (.node ir p r) else .nil

def T.orFrom (t : T) (l : List PV) : T := match t with | .nil => T.from l | t => t

def T.evened (l : T) (p : PV) (r : T) : T :=
  if evenB l.size r.size then .node l p r
  else if l.size < r.size then (T.turnL l p r).orFrom (l.list ++ p :: r.list)
  else (T.turnR r p l).orFrom (l.list ++ p :: r.list)

theorem T.list_turnL {l r : T} {p : PV} (h : T.turnL l p r ≠ .nil) : (T.turnL l p r).list = l.list ++ p :: r.list := by
  cases r with
  | nil => exact absurd rfl h
  | node i q o =>
    simp only [T.turnL] at h ⊢
    split
    · simp [T.list]
    · rename_i hs
      rw [if_neg hs] at h
      cases i with
      | nil => exact absurd rfl h
      | node il ip ir =>
        simp only at h ⊢
        split
        · simp [T.list]
        · rename_i hs2
          rw [if_neg hs2] at h
          exact absurd rfl h

theorem T.list_turnR {l r : T} {p : PV} (h : T.turnR r p l ≠ .nil) : (T.turnR r p l).list = l.list ++ p :: r.list := by
  cases l with
  | nil => exact absurd rfl h
  | node o q i =>
    simp only [T.turnR] at h ⊢
    split
    · simp [T.list]
    · rename_i hs
      rw [if_neg hs] at h
      cases i with
      | nil => exact absurd rfl h
      | node il ip ir =>
        simp only at h ⊢
        split
        · simp [T.list]
        · rename_i hs2
          rw [if_neg hs2] at h
          exact absurd rfl h

theorem T.list_orFrom {t : T} {l : List PV} (h : t ≠ .nil → t.list = l) : (t.orFrom l).list = l := by
  cases t with
  | nil => exact T.list_from l
  | node a p b => exact h (by intro e; cases e)

theorem T.list_evened (l : T) (p : PV) (r : T) : (T.evened l p r).list = l.list ++ p :: r.list := by
  unfold T.evened
  split
  · rfl
  · split
    · exact T.list_orFrom T.list_turnL
    · exact T.list_orFrom T.list_turnR

theorem evenN_symm {l r : Nat} (h : evenN l r) : evenN r l := ⟨h.2, h.1⟩

theorem T.even_turnL {l r : T} {p : PV} (hl : l.even) (hr : r.even) : (T.turnL l p r).even := by
  cases r with
  | nil => trivial
  | node i q o =>
    obtain ⟨hi, ho, _⟩ := hr
    simp only [T.turnL]
    split
    · rename_i hs
      simp only [singleB, Bool.and_eq_true, evenB_iff] at hs
      exact ⟨⟨hl, hi, hs.1⟩, ho, by have := hs.2; simpa [T.size, Nat.add_right_comm] using this⟩
    · cases i with
      | nil => trivial
      | node il ip ir =>
        simp only
        split
        · rename_i hs
          simp only [Bool.and_eq_true, evenB_iff] at hs
          exact ⟨⟨hl, hi.1, hs.1.1⟩, ⟨hi.2.1, ho, hs.1.2⟩, by simpa [T.size] using hs.2⟩
        · trivial

theorem T.even_turnR {l r : T} {p : PV} (hl : l.even) (hr : r.even) : (T.turnR r p l).even := by
  cases l with
  | nil => trivial
  | node o q i =>
    obtain ⟨ho, hi, _⟩ := hl
    simp only [T.turnR]
    split
    · rename_i hs
      simp only [singleB, Bool.and_eq_true, evenB_iff] at hs
      refine ⟨ho, ⟨hi, hr, evenN_symm hs.1⟩, ?_⟩
      have := evenN_symm hs.2
      simp only [T.size]
      rwa [show i.size + 1 + r.size = r.size + i.size + 1 by omega]
    · cases i with
      | nil => trivial
      | node il ip ir =>
        simp only
        split
        · rename_i hs
          simp only [Bool.and_eq_true, evenB_iff] at hs
          refine ⟨⟨ho, hi.1, evenN_symm hs.1.2⟩, ⟨hi.2.1, hr, evenN_symm hs.1.1⟩, ?_⟩
          have := evenN_symm hs.2
          simp only [T.size]
          rwa [show o.size + 1 + il.size = il.size + 1 + o.size by omega, show ir.size + 1 + r.size = r.size + 1 + ir.size by omega]
        · trivial

theorem T.even_orFrom {t : T} {l : List PV} (h : t.even) : (t.orFrom l).even := by
  cases t with
  | nil => exact T.even_from l
  | node a p b => exact h

theorem T.even_evened {l r : T} (p : PV) (hl : l.even) (hr : r.even) : (T.evened l p r).even := by
  unfold T.evened
  split
  · rename_i h
    exact ⟨hl, hr, evenB_iff.1 h⟩
  · split
    · exact T.even_orFrom (T.even_turnL hl hr)
    · exact T.even_orFrom (T.even_turnR hl hr)

theorem T.size_evened (l : T) (p : PV) (r : T) : (T.evened l p r).size = l.size + 1 + r.size := by
  rw [← T.length_list, T.list_evened, List.length_append, List.length_cons, T.length_list, T.length_list]; omega

/-! ### put -/
def T.put (p : PV) : T → T
  | .nil => .node .nil p .nil
  | .node l q r => if compareBytes p.1 q.1 = 0 then .node l p r else if compareBytes p.1 q.1 = 1 then T.evened l q (r.put p) else T.evened (l.put p) q r

/-- how many nodes lie on the way of a key -/
def T.steps (k : Bytes) : T → Nat
  | .nil => 0
  | .node l q r => if compareBytes k q.1 = 0 then 1 else if compareBytes k q.1 = 1 then r.steps k + 1 else l.steps k + 1

theorem put_append_left {m : List PV} {p q : PV} {s : List PV} (h : lt p.1 q.1) : put (m ++ q :: s) p = put m p ++ q :: s := by
  induction m with
  | nil =>
    simp only [List.nil_append, put]
    rw [if_neg (lt_asymm h), if_neg (fun e => lt_ne h e.symm)]; rfl
  | cons a r ih =>
    simp only [List.cons_append, put, ih]
    split
    · rfl
    · split <;> rfl

theorem put_append_right {m : List PV} {p q : PV} {s : List PV} (hm : Rises (m ++ q :: s)) (h : lt q.1 p.1) : put (m ++ q :: s) p = m ++ q :: put s p := by
  induction m with
  | nil => simp only [List.nil_append, put]; rw [if_pos h]
  | cons a r ih =>
    obtain ⟨h1, h2⟩ := List.pairwise_cons.1 hm
    simp only [List.cons_append, put]
    rw [if_pos (lt_trans (h1 q (by simp)) h), ih h2]

theorem put_append_same {m : List PV} {p q : PV} {s : List PV} (hm : Rises (m ++ q :: s)) (h : p.1 = q.1) : put (m ++ q :: s) p = m ++ p :: s := by
  induction m with
  | nil => simp only [List.nil_append, put]; rw [if_neg (by rw [h]; exact lt_irrefl _), if_pos h.symm]
  | cons a r ih =>
    obtain ⟨h1, h2⟩ := List.pairwise_cons.1 hm
    simp only [List.cons_append, put]
    rw [if_pos (by rw [h]; exact h1 q (by simp)), ih h2]

theorem rises_left {m s : List PV} (h : Rises (m ++ s)) : Rises m := (List.pairwise_append.1 h).1
theorem rises_right {m s : List PV} {q : PV} (h : Rises (m ++ q :: s)) : Rises s := (List.pairwise_cons.1 (List.pairwise_append.1 h).2.1).2

theorem T.list_put (p : PV) : ∀ t : T, Rises t.list → (t.put p).list = Bw.put t.list p
  | .nil, _ => rfl
  | .node l q r, h => by
    have hl := T.list_put p l (rises_left h)
    have hr := T.list_put p r (rises_right h)
    simp only [T.list] at h
    simp only [T.put]
    split
    · rename_i e
      have e := (cmp_eq_zero _ _).1 e
      simp only [T.list]
      rw [put_append_same h e]
    · split
      · rename_i e
        simp only [T.list_evened, T.list]
        rw [hr, put_append_right h (cmp_one.1 e)]
      · rename_i e0 e1
        have : lt p.1 q.1 := by
          rcases cmp_range p.1 q.1 with x | x | x
          · exact absurd x e0
          · exact absurd x e1
          · exact x
        simp only [T.list_evened, T.list]
        rw [hl, put_append_left this]

theorem T.even_put (p : PV) : ∀ t : T, t.even → (t.put p).even
  | .nil, _ => ⟨trivial, trivial, by simp [evenN, T.size]⟩
  | .node l q r, h => by
    simp only [T.put]
    split
    · exact h
    · split
      · exact T.even_evened q h.1 (T.even_put p r h.2.1)
      · exact T.even_evened q (T.even_put p l h.1) h.2.1

theorem T.size_put_le (p : PV) : ∀ t : T, (t.put p).size ≤ t.size + 1
  | .nil => by simp [T.put, T.size]
  | .node l q r => by
    simp only [T.put]
    split
    · simp [T.size]
    · split
      · rw [T.size_evened]; have := T.size_put_le p r; simp only [T.size]; omega
      · rw [T.size_evened]; have := T.size_put_le p l; simp only [T.size]; omega

theorem T.steps_le (k : Bytes) : ∀ t : T, t.steps k ≤ t.size
  | .nil => Nat.le_refl _
  | .node l q r => by
    simp only [T.steps, T.size]
    split
    · omega
    · split
      · have := T.steps_le k r; omega
      · have := T.steps_le k l; omega

theorem mem_T_put {p : PV} : ∀ (t : T) {x : PV}, x ∈ (t.put p).list → x = p ∨ x ∈ t.list
  | .nil, x, h => by simp [T.put, T.list] at h; exact .inl h
  | .node l q r, x, h => by
    simp only [T.put] at h
    split at h
    · simp only [T.list, List.mem_append, List.mem_cons] at h ⊢
      rcases h with h | h | h
      · exact .inr (.inl h)
      · exact .inl h
      · exact .inr (.inr (.inr h))
    · split at h
      · rw [T.list_evened] at h
        simp only [T.list, List.mem_append, List.mem_cons] at h ⊢
        rcases h with h | h | h
        · exact .inr (.inl h)
        · exact .inr (.inr (.inl h))
        · rcases mem_T_put r h with h | h
          · exact .inl h
          · exact .inr (.inr (.inr h))
      · rw [T.list_evened] at h
        simp only [T.list, List.mem_append, List.mem_cons] at h ⊢
        rcases h with h | h | h
        · rcases mem_T_put l h with h | h
          · exact .inl h
          · exact .inr (.inl h)
        · exact .inr (.inr (.inl h))
        · exact .inr (.inr (.inr h))

theorem T.size_put_ge (p : PV) : ∀ t : T, t.size ≤ (t.put p).size
  | .nil => Nat.zero_le _
  | .node l q r => by
    simp only [T.put]
    split
    · simp [T.size]
    · split
      · rw [T.size_evened]; have := T.size_put_ge p r; simp only [T.size]; omega
      · rw [T.size_evened]; have := T.size_put_ge p l; simp only [T.size]; omega

/-! ### a turn always serves where one side is little too heavy -/
def Near (a t : Nat) : Prop := 3 * (t + 1) ≤ 13 * (a + 1) ∨ evenN (a + 1) t
theorem near_twice {a i o il ir : Nat} (h1 : evenN i o) (h2 : ¬ evenN a (i + 1 + o)) (h3 : Near a (i + 1 + o)) (hlt : a < i + 1 + o) (hi : i = il + 1 + ir) (h4 : evenN il ir) (hs : ¬ (evenN a i ∧ evenN (a + i + 1) o)) :
    evenN a il ∧ evenN ir o ∧ evenN (a + 1 + il) (ir + 1 + o) := by
  have _ := And.intro h1 (And.intro h2 (And.intro h3 (And.intro hi (And.intro h4 (And.intro hlt hs)))))
  unfold Near evenN at *
  omega
theorem near_once {a o : Nat} (h1 : evenN 0 o) (h2 : ¬ evenN a (0 + 1 + o)) (h3 : Near a (0 + 1 + o)) (hlt : a < 0 + 1 + o) (hs : ¬ (evenN a 0 ∧ evenN (a + 0 + 1) o)) : False := by
  have _ := And.intro h1 (And.intro h2 (And.intro h3 (And.intro hlt hs)))
  unfold Near evenN at *
  omega
theorem near_put {a t : Nat} (h : evenN a t) : Near a (t + 1) := by unfold Near evenN at *; omega
theorem near_del {a t : Nat} (h : evenN (a + 1) t) : Near a t := .inr h
theorem near_join {a lr rs : Nat} (h : evenN a lr) (hr : ¬ evenN (a + 1 + lr) rs) (hlt : rs < a + 1 + lr) : Near a (lr + 1 + rs) := by
  have _ := And.intro h (And.intro hr hlt)
  unfold Near evenN at *
  omega
theorem near_even {a t : Nat} (h : evenN a t) : Near a t := by unfold Near evenN at *; omega

theorem T.turnL_ne {l r : T} (p : PV) (hr : r.even) (he : evenB l.size r.size = false) (hlt : l.size < r.size) (hn : Near l.size r.size) : T.turnL l p r ≠ .nil := by
  have he : ¬ evenN l.size r.size := fun h => by rw [evenB_iff.2 h] at he; cases he
  cases r with
  | nil => simp [T.size] at hlt
  | node i q o =>
    obtain ⟨hi, _, hio⟩ := hr
    simp only [T.size] at he hn hlt
    simp only [T.turnL]
    split
    · intro e; cases e
    · rename_i hs
      simp only [singleB, Bool.and_eq_true, evenB_iff] at hs
      cases i with
      | nil => exact (near_once hio he hn hlt hs).elim
      | node il ip ir =>
        obtain ⟨e1, e2, e3⟩ := near_twice (i := (T.node il ip ir).size) hio he hn hlt rfl hi.2.2 hs
        simp only
        rw [if_pos (by simp only [Bool.and_eq_true, evenB_iff]; exact ⟨⟨e1, e2⟩, e3⟩)]
        intro e; cases e

theorem T.turnR_ne {l r : T} (p : PV) (hl : l.even) (he : evenB l.size r.size = false) (hle : r.size ≤ l.size) (hn : Near r.size l.size) : T.turnR r p l ≠ .nil := by
  have he : ¬ evenN r.size l.size := fun h => by rw [evenB_iff.2 (evenN_symm h)] at he; cases he
  have hlt : r.size < l.size := by
    rcases Nat.lt_or_ge r.size l.size with h | h
    · exact h
    · exact absurd (show evenN r.size l.size by unfold evenN; omega) he
  cases l with
  | nil => simp [T.size] at hlt
  | node o q i =>
    obtain ⟨_, hi, hio⟩ := hl
    have hio := evenN_symm hio
    have e0 : o.size + 1 + i.size = i.size + 1 + o.size := by omega
    simp only [T.size] at he hn hlt
    rw [e0] at he hn hlt
    simp only [T.turnR]
    split
    · intro e; cases e
    · rename_i hs
      simp only [singleB, Bool.and_eq_true, evenB_iff] at hs
      cases i with
      | nil => exact (near_once hio he hn hlt hs).elim
      | node il ip ir =>
        obtain ⟨e1, e2, e3⟩ := near_twice (i := (T.node il ip ir).size) (il := ir.size) (ir := il.size) hio he hn hlt (by simp only [T.size]; omega) (evenN_symm hi.2.2) hs
        simp only
        rw [if_pos (by simp only [Bool.and_eq_true, evenB_iff]; exact ⟨⟨e1, e2⟩, e3⟩)]
        intro e; cases e

theorem T.orFrom_ne {t : T} {l : List PV} (h : t ≠ .nil) : t.orFrom l = t := by
  cases t with
  | nil => exact absurd rfl h
  | node a p b => rfl

/-- two trees, and a pair between them, may be evened -/
def Fair (l r : T) : Prop := l.even ∧ r.even ∧ (l.size < r.size → Near l.size r.size) ∧ (r.size ≤ l.size → Near r.size l.size)

theorem fair_put_right {l r : T} (p : PV) (hl : l.even) (hr : r.even) (h : evenN l.size r.size) : Fair l (r.put p) := by
  have h1 := T.size_put_le p r
  have h2 := T.size_put_ge p r
  refine ⟨hl, T.even_put p r hr, fun _ => ?_, fun hle => ?_⟩
  · rcases Nat.lt_or_ge r.size (r.put p).size with x | x
    · rw [show (r.put p).size = r.size + 1 by omega]; exact near_put h
    · rw [show (r.put p).size = r.size by omega]; exact near_even h
  · have : evenN (r.put p).size l.size := by unfold evenN at *; omega
    exact near_even this

theorem fair_put_left {l r : T} (p : PV) (hl : l.even) (hr : r.even) (h : evenN l.size r.size) : Fair (l.put p) r := by
  have h1 := T.size_put_le p l
  have h2 := T.size_put_ge p l
  refine ⟨T.even_put p l hl, hr, fun hlt => ?_, fun _ => ?_⟩
  · have : evenN (l.put p).size r.size := by unfold evenN at *; omega
    exact near_even this
  · rcases Nat.lt_or_ge l.size (l.put p).size with x | x
    · rw [show (l.put p).size = l.size + 1 by omega]; exact near_put (evenN_symm h)
    · rw [show (l.put p).size = l.size by omega]; exact near_even (evenN_symm h)

end Bw
