/- The plain model: pairs, trees, nodes as Lean data (no Go, no memory). -/
import Derived.Lib.Bytealg
namespace Bw
open Go.Lib (compareBytes)

abbrev Bytes := List UInt8
abbrev PV := Bytes × Bytes

/-! ### the order of bytes -/
theorem cmp_self : ∀ a : Bytes, compareBytes a a = 0
  | [] => rfl
  | a :: r => by simp [compareBytes, UInt8.lt_irrefl, cmp_self r]

theorem cmp_range : ∀ a b : Bytes, compareBytes a b = 0 ∨ compareBytes a b = 1 ∨ compareBytes a b = -1
  | [], [] => .inl rfl
  | [], _ :: _ => .inr (.inr rfl)
  | _ :: _, [] => .inr (.inl rfl)
  | a :: r, b :: s => by
    simp only [compareBytes]
    split
    · exact .inr (.inr rfl)
    · split
      · exact .inr (.inl rfl)
      · exact cmp_range r s

theorem cmp_swap : ∀ a b : Bytes, compareBytes b a = - compareBytes a b
  | [], [] => rfl
  | [], _ :: _ => rfl
  | _ :: _, [] => rfl
  | a :: r, b :: s => by
    simp only [compareBytes]
    have h := cmp_swap r s
    by_cases h1 : a < b
    · have h2 : ¬ b < a := UInt8.lt_asymm h1
      simp [h1, h2]
    · by_cases h2 : b < a
      · simp [h1, h2]
      · simp [h1, h2, h]

theorem cmp_eq_zero : ∀ a b : Bytes, compareBytes a b = 0 ↔ a = b
  | [], [] => by simp [compareBytes]
  | [], _ :: _ => by simp [compareBytes]
  | _ :: _, [] => by simp [compareBytes]
  | a :: r, b :: s => by
    simp only [compareBytes]
    by_cases h1 : a < b
    · have : a ≠ b := fun h => by subst h; exact UInt8.lt_irrefl a h1
      simp [h1, this]
    · by_cases h2 : b < a
      · have : a ≠ b := fun h => by subst h; exact UInt8.lt_irrefl a h2
        simp [h1, h2, this]
      · have : a = b := UInt8.le_antisymm (UInt8.not_lt.1 h2) (UInt8.not_lt.1 h1)
        simp [this, cmp_eq_zero r s]

theorem cmp_trans : ∀ a b c : Bytes, compareBytes a b = -1 → compareBytes b c = -1 → compareBytes a c = -1
  | [], [], _ => by simp [compareBytes]
  | [], _ :: _, [] => by simp [compareBytes]
  | [], _ :: _, _ :: _ => by simp [compareBytes]
  | _ :: _, [], _ => by simp [compareBytes]
  | _ :: _, _ :: _, [] => by simp [compareBytes]
  | a :: r, b :: s, c :: t => by
    simp only [compareBytes]
    have ih := cmp_trans r s t
    intro h1 h2
    by_cases ab : a < b
    · by_cases bc : b < c
      · simp [UInt8.lt_trans ab bc]
      · by_cases cb : c < b
        · simp [bc, cb] at h2
        · have : b = c := UInt8.le_antisymm (UInt8.not_lt.1 cb) (UInt8.not_lt.1 bc)
          subst this; simp [ab]
    · by_cases ba : b < a
      · simp [ab, ba] at h1
      · have : a = b := UInt8.le_antisymm (UInt8.not_lt.1 ba) (UInt8.not_lt.1 ab)
        subst this
        by_cases bc : a < c
        · simp [bc]
        · by_cases cb : c < a
          · simp [bc, cb] at h2
          · simp only [ab, if_false] at h1
            simp only [bc, cb, if_false] at h2 ⊢
            exact ih h1 h2

/-- key a is less than key b -/
def lt (a b : Bytes) : Prop := compareBytes a b = -1
instance (a b : Bytes) : Decidable (lt a b) := inferInstanceAs (Decidable (compareBytes a b = -1))

theorem lt_irrefl (a : Bytes) : ¬ lt a a := by simp [lt, cmp_self]
theorem lt_trans {a b c : Bytes} (h : lt a b) (k : lt b c) : lt a c := cmp_trans a b c h k
theorem lt_asymm {a b : Bytes} (h : lt a b) : ¬ lt b a := fun k => lt_irrefl a (lt_trans h k)
theorem lt_ne {a b : Bytes} (h : lt a b) : a ≠ b := fun e => by subst e; exact lt_irrefl _ h
theorem cmp_one {a b : Bytes} : compareBytes a b = 1 ↔ lt b a := by
  unfold lt; rw [cmp_swap a b]; omega
theorem lt_or (a b : Bytes) : lt a b ∨ a = b ∨ lt b a := by
  rcases cmp_range a b with h | h | h
  · exact .inr (.inl ((cmp_eq_zero a b).1 h))
  · exact .inr (.inr (cmp_one.1 h))
  · exact .inl h

/-! ### maps as sorted lists -/
/-- the keys rise -/
def Rises (m : List PV) : Prop := m.Pairwise fun p q => lt p.1 q.1

/-- a map with a pair more, or with another value -/
def put (m : List PV) (p : PV) : List PV :=
  match m with
  | [] => [p]
  | q :: r => if lt q.1 p.1 then q :: put r p else if q.1 = p.1 then p :: r else p :: q :: r

def come (l : List PV) : List PV := l.foldl put []

def get (m : List PV) (k : Bytes) : Option Bytes :=
  match m with
  | [] => none
  | q :: r => if q.1 = k then some q.2 else get r k

theorem mem_put {m : List PV} {p x : PV} (h : x ∈ put m p) : x = p ∨ x ∈ m := by
  induction m with
  | nil => simp [put] at h; exact .inl h
  | cons q r ih =>
    simp only [put] at h
    split at h
    · simp only [List.mem_cons] at h ⊢
      rcases h with h | h
      · exact .inr (.inl h)
      · rcases ih h with h | h
        · exact .inl h
        · exact .inr (.inr h)
    · split at h
      · simp only [List.mem_cons] at h ⊢
        rcases h with h | h
        · exact .inl h
        · exact .inr (.inr h)
      · simp only [List.mem_cons] at h ⊢
        exact h

theorem rises_put {m : List PV} (hm : Rises m) (p : PV) : Rises (put m p) := by
  induction m with
  | nil => simp [put, Rises]
  | cons q r ih =>
    obtain ⟨h1, h2⟩ := List.pairwise_cons.1 hm
    simp only [put]
    by_cases a : lt q.1 p.1
    · simp only [a, if_true]
      refine List.pairwise_cons.2 ⟨fun x hx => ?_, ih h2⟩
      rcases mem_put hx with rfl | hx
      · exact a
      · exact h1 x hx
    · simp only [a, if_false]
      by_cases b : q.1 = p.1
      · simp only [b, if_true]
        exact List.pairwise_cons.2 ⟨fun x hx => b ▸ h1 x hx, h2⟩
      · simp only [b, if_false]
        have hpq : lt p.1 q.1 := by
          rcases lt_or p.1 q.1 with h | h | h
          · exact h
          · exact absurd h.symm b
          · exact absurd h a
        refine List.pairwise_cons.2 ⟨fun x hx => ?_, hm⟩
        rcases List.mem_cons.1 hx with rfl | hx
        · exact hpq
        · exact lt_trans hpq (h1 x hx)

theorem rises_come (l : List PV) : Rises (come l) := by
  suffices h : ∀ m, Rises m → Rises (l.foldl put m) from h [] (by simp [Rises])
  induction l with
  | nil => intro m h; exact h
  | cons p r ih => intro m h; exact ih _ (rises_put h p)

theorem get_put (m : List PV) (hm : Rises m) (p : PV) (k : Bytes) : get (put m p) k = if p.1 = k then some p.2 else get m k := by
  induction m with
  | nil => simp [put, get]
  | cons q r ih =>
    obtain ⟨h1, h2⟩ := List.pairwise_cons.1 hm
    simp only [put]
    by_cases a : lt q.1 p.1
    · simp only [a, if_true, get]
      rw [ih h2]
      by_cases hq : q.1 = k
      · have : p.1 ≠ k := fun e => lt_ne a (hq.trans e.symm)
        simp [hq, this]
      · simp [hq]
    · simp only [a, if_false]
      by_cases b : q.1 = p.1
      · simp only [b, if_true, get]
        by_cases hq : p.1 = k <;> simp [hq]
      · simp only [b, if_false, get]

/-! ### trees -/
inductive T where
  | nil
  | node (l : T) (p : PV) (r : T)

def T.size : T → Nat
  | .nil => 0
  | .node l _ r => l.size + 1 + r.size

def T.list : T → List PV
  | .nil => []
  | .node l p r => l.list ++ p :: r.list

theorem T.length_list : ∀ t : T, t.list.length = t.size
  | .nil => rfl
  | .node l p r => by simp [T.list, T.size, T.length_list l, T.length_list r]; omega

def evenN (l r : Nat) : Prop := l + 1 ≤ 3 * (r + 1) ∧ r + 1 ≤ 3 * (l + 1)

def T.even : T → Prop
  | .nil => True
  | .node l _ r => l.even ∧ r.even ∧ evenN l.size r.size

def T.sound (t : T) : Prop := t.even ∧ Rises t.list

def T.from (l : List PV) : T :=
  match l with
  | [] => .nil
  | p :: q => .node (T.from ((p :: q).take ((p :: q).length / 2))) ((p :: q)[(p :: q).length / 2]'(by simp; omega)) (T.from ((p :: q).drop ((p :: q).length / 2 + 1)))
termination_by l.length
decreasing_by
  · simp; omega
  · simp; omega

theorem T.list_from (l : List PV) : (T.from l).list = l := by
  match l with
  | [] => simp [T.from, T.list]
  | p :: q =>
    rw [T.from, T.list, T.list_from, T.list_from]
    have h : (p :: q).length / 2 < (p :: q).length := by simp; omega
    rw [← List.drop_eq_getElem_cons h, List.take_append_drop]
termination_by l.length
decreasing_by
  · simp; omega
  · simp; omega

theorem T.size_from (l : List PV) : (T.from l).size = l.length := by rw [← T.length_list, T.list_from]

theorem T.even_from (l : List PV) : (T.from l).even := by
  match l with
  | [] => simp [T.from, T.even]
  | p :: q =>
    rw [T.from, T.even]
    refine ⟨T.even_from _, T.even_from _, ?_⟩
    rw [T.size_from, T.size_from]
    simp only [List.length_take, List.length_drop, evenN]
    generalize (p :: q).length = n
    omega
termination_by l.length
decreasing_by
  · simp; omega
  · simp; omega

end Bw
