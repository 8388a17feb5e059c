/- Two nodes are one just if their shapes, and what they hold, are. Plain. -/
import Derived.Test.YtehkjnmnbplcoaaGreatDoorBwSums
namespace Bw

theorem spots_inj (n : N) : ∀ (n' : N) (lv : Nat) (r r' : List Spot) (h h' : List PV), n.even → n'.even → spotsOf (n.visits lv) ++ r = spotsOf (n'.visits lv) ++ r' → heldOf (n.visits lv) ++ h = heldOf (n'.visits lv) ++ h' → n.abs = n'.abs ∧ r = r' ∧ h = h' := by
  refine N.ind (P := fun n => ∀ (n' : N) (lv : Nat) (r r' : List Spot) (h h' : List PV), n.even → n'.even → spotsOf (n.visits lv) ++ r = spotsOf (n'.visits lv) ++ r' → heldOf (n.visits lv) ++ h = heldOf (n'.visits lv) ++ h' → n.abs = n'.abs ∧ r = r' ∧ h = h') ?_ ?_ ?_ n
  · intro g p n' lv r r' h h' _ _ es eh
    cases n' with
    | leaf g' p' =>
      simp only [N.visits, spotsOf, List.map_cons, List.map_nil, N.spot, List.cons_append, List.nil_append, List.cons.injEq, Prod.mk.injEq] at es
      simp only [N.visits, heldOf, List.flatMap_cons, List.flatMap_nil, N.held, List.append_nil, List.cons_append, List.nil_append, List.cons.injEq] at eh
      obtain ⟨⟨_, _, rfl, _⟩, rfl⟩ := es
      obtain ⟨rfl, rfl⟩ := eh
      exact ⟨rfl, rfl, rfl⟩
    | bucket g' t' => simp [N.visits, spotsOf, N.spot] at es
    | branch m' kids' => simp [N.visits, spotsOf, N.spot] at es
  · intro g t n' lv r r' h h' _ _ es eh
    cases n' with
    | leaf g' p' => simp [N.visits, spotsOf, N.spot] at es
    | bucket g' t' =>
      simp only [N.visits, spotsOf, List.map_cons, List.map_nil, N.spot, List.cons_append, List.nil_append, List.cons.injEq, Prod.mk.injEq] at es
      simp only [N.visits, heldOf, List.flatMap_cons, List.flatMap_nil, N.held, List.append_nil] at eh
      obtain ⟨⟨_, _, rfl, _, hsz⟩, rfl⟩ := es
      obtain ⟨e1, rfl⟩ := List.append_inj eh (by rw [T.length_list, T.length_list]; exact hsz)
      exact ⟨by simp [N.abs, e1], rfl, rfl⟩
    | branch m' kids' => simp [N.visits, spotsOf, N.spot] at es
  · intro m kids ih n' lv r r' h h' he he' es eh
    cases n' with
    | leaf g' p' => simp [N.visits, spotsOf, N.spot] at es
    | bucket g' t' => simp [N.visits, spotsOf, N.spot] at es
    | branch m' kids' =>
      simp only [N.even, N.evenL_iff] at he he'
      have es' : (lv, 3, 0, m, N.countL kids) :: (spotsOf (N.visitsL (lv + 1) kids) ++ r) = (lv, 3, 0, m', N.countL kids') :: (spotsOf (N.visitsL (lv + 1) kids') ++ r') := es
      have eh' : heldOf (N.visitsL (lv + 1) kids) ++ h = heldOf (N.visitsL (lv + 1) kids') ++ h' := eh
      simp only [List.cons.injEq, Prod.mk.injEq] at es'
      obtain ⟨⟨_, _, _, rfl, _⟩, es'⟩ := es'
      have key : ∀ (ks ks' : List N), (∀ k ∈ ks, k ∈ kids) → (∀ k ∈ ks', k ∈ kids') → ks.length = ks'.length → ∀ (r r' : List Spot) (h h' : List PV), spotsOf (N.visitsL (lv + 1) ks) ++ r = spotsOf (N.visitsL (lv + 1) ks') ++ r' → heldOf (N.visitsL (lv + 1) ks) ++ h = heldOf (N.visitsL (lv + 1) ks') ++ h' → N.absL ks = N.absL ks' ∧ r = r' ∧ h = h' := by
        intro ks
        induction ks with
        | nil =>
          intro ks' _ _ hl r r' h h' e1 e2
          cases ks' with
          | nil => exact ⟨rfl, e1, e2⟩
          | cons k q => simp at hl
        | cons k q ihq =>
          intro ks' hm hm' hl r r' h h' e1 e2
          cases ks' with
          | nil => simp at hl
          | cons k' q' =>
            simp only [N.visitsL, spotsOf_append, heldOf_append, List.append_assoc] at e1 e2
            obtain ⟨a1, a2, a3⟩ := ih k (hm k (by simp)) k' (lv + 1) _ _ _ _ (he.2 k (hm k (by simp))) (he'.2 k' (hm' k' (by simp))) e1 e2
            obtain ⟨b1, b2, b3⟩ := ihq q' (fun x hx => hm x (by simp [hx])) (fun x hx => hm' x (by simp [hx])) (by simpa using hl) _ _ _ _ a2 a3
            exact ⟨by simp only [N.absL, a1, b1], b2, b3⟩
      obtain ⟨c1, c2, c3⟩ := key kids kids' (fun _ h => h) (fun _ h => h) (he.1.trans he'.1.symm) _ _ _ _ es' eh'
      exact ⟨by simp only [N.abs, c1], c2, c3⟩

mutual
/-- are two nodes one, as the document has them? -/
def N.eqv : N → N → Bool
  | .leaf h p, .leaf h' p' => h == h' && p == p'
  | .bucket h t, .bucket h' t' => h == h' && t.list == t'.list
  | .branch m kids, .branch m' kids' => m == m' && N.eqvL kids kids'
  | _, _ => false
def N.eqvL : List N → List N → Bool
  | [], [] => true
  | k :: r, k' :: r' => k.eqv k' && N.eqvL r r'
  | _, _ => false
end

theorem eqv_abs (n : N) : ∀ n' : N, n.thin → n'.thin → (n.eqv n' = true ↔ n.abs = n'.abs) := by
  refine N.ind (P := fun n => ∀ n' : N, n.thin → n'.thin → (n.eqv n' = true ↔ n.abs = n'.abs)) ?_ ?_ ?_ n
  · intro g p n' _ _
    cases n' <;> simp [N.eqv, N.abs]
  · intro g t n' _ _
    cases n' <;> simp [N.eqv, N.abs]
  · intro m kids ih n' ht ht'
    cases n' with
    | leaf g' p' => simp [N.eqv, N.abs]
    | bucket g' t' => simp [N.eqv, N.abs]
    | branch m' kids' =>
      simp only [N.thin, N.thinL_iff] at ht ht'
      have key : ∀ (ks ks' : List N), (∀ k ∈ ks, k ∈ kids) → (∀ k ∈ ks', k ∈ kids') → (N.eqvL ks ks' = true ↔ N.absL ks = N.absL ks') := by
        intro ks
        induction ks with
        | nil => intro ks' _ _; cases ks' <;> simp [N.eqvL, N.absL]
        | cons k q ihq =>
          intro ks' hm hm'
          cases ks' with
          | nil => simp [N.eqvL, N.absL]
          | cons k' q' =>
            simp only [N.eqvL, N.absL, Bool.and_eq_true, List.cons.injEq]
            rw [ih k (hm k (by simp)) k' (ht.2 k (hm k (by simp))) (ht'.2 k' (hm' k' (by simp))), ihq q' (fun x hx => hm x (by simp [hx])) fun x hx => hm' x (by simp [hx])]
      simp only [N.eqv, N.abs, Bool.and_eq_true, beq_iff_eq, X.mk.injEq, true_and]
      rw [key kids kids' (fun _ h => h) (fun _ h => h)]
      constructor
      · rintro ⟨rfl, h⟩; exact ⟨rfl, h⟩
      · rintro ⟨h1, h⟩; exact ⟨bitsOf_inj ht.1 ht'.1 h1, h⟩

def eqvO : Option N → Option N → Bool
  | none, none => true
  | some a, some b => a.eqv b
  | _, _ => false

/-- two nodes have one shape, and hold the same, just if they are one -/
theorem same_eqv {a b : Option N} (ha : ∀ n, a = some n → n.thin ∧ n.even) (hb : ∀ n, b = some n → n.thin ∧ n.even) :
    (spotsOf (visitsO 0 a) = spotsOf (visitsO 0 b) ∧ heldOf (visitsO 0 a) = heldOf (visitsO 0 b)) ↔ eqvO a b = true := by
  have hne : ∀ (n : N), spotsOf (n.visits 0) ≠ [] := fun n => by cases n <;> simp [N.visits, spotsOf]
  cases a with
  | none =>
    cases b with
    | none => simp [eqvO]
    | some n =>
      refine ⟨fun h => absurd h.1.symm (hne n), fun h => ?_⟩
      simp [eqvO] at h
  | some k =>
    cases b with
    | none =>
      refine ⟨fun h => absurd h.1 (hne k), fun h => ?_⟩
      simp [eqvO] at h
    | some n =>
      obtain ⟨t1, e1⟩ := ha k rfl
      obtain ⟨t2, e2⟩ := hb n rfl
      simp only [eqvO]
      rw [eqv_abs k n t1 t2]
      constructor
      · rintro ⟨h1, h2⟩
        exact (spots_inj k n 0 [] [] [] [] e1 e2 (by rw [List.append_nil, List.append_nil]; exact h1) (by rw [List.append_nil, List.append_nil]; exact h2)).1
      · intro h
        exact (abs_same k n t1 t2 h).2 0
end Bw
