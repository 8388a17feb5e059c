/- Looking into a tree, and into a trie, as plain data. -/
import Derived.Test.YtadaoceidkagfaaGreatDoorBwG
namespace Bw
open Go.Lib (compareBytes)
def T.look (k : Bytes) : T -> Option Bytes
  | .nil => none
  | .node l q r => if compareBytes k q.1 = 0 then some q.2 else if compareBytes k q.1 = 1 then r.look k else l.look k
theorem T.look_mem (k v : Bytes) : ∀ t : T, Rises t.list -> (t.look k = some v ↔ (k, v) ∈ t.list)
  | .nil, _ => by simp [T.look, T.list]
  | .node l q r, h => by
    simp only [T.list] at h ⊢
    have hl := T.look_mem k v l (rises_left h)
    have hr := T.look_mem k v r (rises_right h)
    obtain ⟨_, h2, h3⟩ := List.pairwise_append.1 h
    obtain ⟨h4, _⟩ := List.pairwise_cons.1 h2
    have inl : (k, v) ∈ l.list -> lt k q.1 := fun hm => h3 _ hm q (by simp)
    have inr : (k, v) ∈ r.list -> lt q.1 k := fun hm => h4 _ hm
    simp only [T.look, List.mem_append, List.mem_cons]
    split
    · rename_i e
      have e := (cmp_eq_zero _ _).1 e
      constructor
      · intro hs
        injection hs with hs
        exact .inr (.inl (Prod.ext e hs.symm))
      · rintro (hm | hm | hm)
        · exact absurd e (lt_ne (inl hm))
        · rw [<- hm]
        · exact absurd e.symm (lt_ne (inr hm))
    · rename_i e0
      split
      · rename_i e
        have e := cmp_one.1 e
        rw [hr]
        constructor
        · exact fun hm => .inr (.inr hm)
        · rintro (hm | hm | hm)
          · exact absurd (inl hm) (lt_asymm e)
          · rw [<- hm] at e; exact absurd e (lt_irrefl _)
          · exact hm
      · rename_i e1
        have e : lt k q.1 := by
          rcases cmp_range k q.1 with x | x | x
          · exact absurd x e0
          · exact absurd x e1
          · exact x
        rw [hl]
        constructor
        · exact fun hm => .inl hm
        · rintro (hm | hm | hm)
          · exact hm
          · rw [<- hm] at e; exact absurd e (lt_irrefl _)
          · exact absurd (inr hm) (lt_asymm e)
def wayO : Nat -> Option N -> Nat -> Nat -> Option N × Nat
  | _, none, _, _ => (none, 0)
  | _, some (.leaf g q), _, _ => (some (.leaf g q), 0)
  | _, some (.bucket g t), _, _ => (some (.bucket g t), 0)
  | 0, some (.branch _ _), _, _ => (none, 0)
  | f + 1, some (.branch m kids), h, level => ((wayO f (kidO m kids (chunkAt h level)) h (level + 1)).1, (wayO f (kidO m kids (chunkAt h level)) h (level + 1)).2 + 1)
theorem wayO_none (f h level : Nat) : wayO f none h level = (none, 0) := by cases f <;> rfl
theorem wayO_leaf (f h level g : Nat) (q : PV) : wayO f (some (.leaf g q)) h level = (some (.leaf g q), 0) := by cases f <;> rfl
theorem wayO_bucket (f h level g : Nat) (t : T) : wayO f (some (.bucket g t)) h level = (some (.bucket g t), 0) := by cases f <;> rfl
def lookEnd (x : Option N) (h : Nat) (k : Bytes) : Option Bytes :=
  match x with
  | some (.leaf g q) => if g = h /\ k = q.1 then some q.2 else none
  | some (.bucket g t) => if g = h then t.look k else none
  | _ => none
def costEnd (x : Option N) (h : Nat) (k : Bytes) : Nat × Nat :=
  match x with
  | some (.leaf g _) => (1, if g = h then 1 else 0)
  | some (.bucket g t) => if g = h then (t.steps k, t.steps k) else (0, 0)
  | _ => (0, 0)
theorem look_lays {h : Nat} {k v : Bytes} : ∀ (f level : Nat) (o : Option N) (l : List En), level + f = 13 -> OLays level o l -> (∃ r, ∀ e ∈ l, e.1 % 32 ^ level = r) -> (∀ e ∈ l, e.1 < 18446744073709551616) ->
    (lookEnd (wayO f o h level).1 h k = some v ↔ (h, (k, v)) ∈ l) := by
  intro f
  induction f with
  | zero =>
    intro level o l hf hO hr hb
    match o, hO with
    | none, hO => rw [show l = [] from hO, wayO_none]; simp [lookEnd]
    | some (.leaf g q), hO =>
      cases hO with
      | leaf hs =>
        have hs' : ∀ e, e ∈ l ↔ e = (g, q) := hs
        rw [wayO_leaf, hs']
        simp only [lookEnd]
        split
        · rename_i e
          obtain ⟨rfl, rfl⟩ := e
          rw [Option.some.injEq, Prod.ext_iff, Prod.ext_iff]
          exact ⟨fun e => ⟨rfl, rfl, e.symm⟩, fun e => e.2.2.symm⟩
        · rename_i e
          refine ⟨fun x => (by cases x), fun x => absurd ?_ e⟩
          rw [Prod.ext_iff, Prod.ext_iff] at x
          exact ⟨x.1.symm, x.2.1⟩
    | some (.bucket g t), hO =>
      cases hO with
      | bucket he hrs h2 hs =>
        have hs' : ∀ e, e ∈ l ↔ e.1 = g /\ e.2 ∈ t.list := hs
        rw [wayO_bucket, hs']
        simp only [lookEnd]
        by_cases e : g = h
        · rw [if_pos e, T.look_mem k v t hrs]; simp [e]
        · rw [if_neg e]; simp; exact fun x => absurd x.symm e
    | some (.branch m kids), hO =>
      have := lays_branch_level hO (by omega) hr hb
      omega
  | succ f ih =>
    intro level o l hf hO hr hb
    match o, hO with
    | none, hO => rw [show l = [] from hO, wayO_none]; simp [lookEnd]
    | some (.leaf g q), hO =>
      cases hO with
      | leaf hs =>
        have hs' : ∀ e, e ∈ l ↔ e = (g, q) := hs
        rw [wayO_leaf, hs']
        simp only [lookEnd]
        split
        · rename_i e
          obtain ⟨rfl, rfl⟩ := e
          rw [Option.some.injEq, Prod.ext_iff, Prod.ext_iff]
          exact ⟨fun e => ⟨rfl, rfl, e.symm⟩, fun e => e.2.2.symm⟩
        · rename_i e
          refine ⟨fun x => (by cases x), fun x => absurd ?_ e⟩
          rw [Prod.ext_iff, Prod.ext_iff] at x
          exact ⟨x.1.symm, x.2.1⟩
    | some (.bucket g t), hO =>
      cases hO with
      | bucket he hrs h2 hs =>
        have hs' : ∀ e, e ∈ l ↔ e.1 = g /\ e.2 ∈ t.list := hs
        rw [wayO_bucket, hs']
        simp only [lookEnd]
        by_cases e : g = h
        · rw [if_pos e, T.look_mem k v t hrs]; simp [e]
        · rw [if_neg e]; simp; exact fun x => absurd x.symm e
    | some (.branch m kids), hO =>
      simp only [wayO]
      obtain ⟨r, hr⟩ := hr
      rw [ih (level + 1) _ _ (by omega) (olays_kid hO (chunkAt h level)) ⟨_, part_same hr⟩ (fun e he => hb e (mem_partOf.1 he).1), mem_partOf]
      simp
end Bw
