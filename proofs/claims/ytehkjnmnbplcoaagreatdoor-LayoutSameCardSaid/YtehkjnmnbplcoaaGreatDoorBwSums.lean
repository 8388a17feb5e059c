/- A shape's counts: each branch's children, as they stand behind it; the ends' counts; levels. Plain. -/
import Derived.Test.YtehkjnmnbplcoaaGreatDoorBwLayR
namespace Bw

/-- the counts of the spots one level below, up to the first one that is not below; how many there are -/
def sums (lv : Nat) : List Spot → Nat × Nat
  | [] => (0, 0)
  | y :: r => if y.1 ≤ lv then (0, 0) else if y.1 = lv + 1 then ((sums lv r).1 + y.2.2.2.2, (sums lv r).2 + 1) else sums lv r

/-- each branch's count, and how many numbers it has, are told by what stands behind it -/
def OkS : List Spot → Prop
  | [] => True
  | x :: r => (x.2.1 = 3 → sums x.1 r = (x.2.2.2.2, (bitsOf x.2.2.2.1).length)) ∧ OkS r

/-- the counts of all that is no branch -/
def leavesOf : List Spot → Nat
  | [] => 0
  | x :: r => (if x.2.1 = 3 then 0 else x.2.2.2.2) + leavesOf r

theorem leavesOf_append (a b : List Spot) : leavesOf (a ++ b) = leavesOf a + leavesOf b := by
  induction a with
  | nil => simp [leavesOf]
  | cons x r ih => simp only [List.cons_append, leavesOf, ih]; omega

theorem okS_drop : ∀ {s : List Spot} {i : Nat} {x : Spot}, OkS s → s[i]? = some x → x.2.1 = 3 → sums x.1 (s.drop (i + 1)) = (x.2.2.2.2, (bitsOf x.2.2.2.1).length)
  | [], i, x, _, h, _ => by simp at h
  | y :: r, 0, x, h, hx, h3 => by
    simp only [List.getElem?_cons_zero, Option.some.injEq] at hx
    subst hx
    exact h.1 h3
  | y :: r, i + 1, x, h, hx, h3 => by
    rw [List.drop_succ_cons]
    exact okS_drop h.2 (by simpa using hx) h3

theorem sums_deep {lv : Nat} : ∀ (a r : List Spot), (∀ x ∈ a, lv + 1 < x.1) → sums lv (a ++ r) = sums lv r
  | [], _, _ => rfl
  | y :: a, r, h => by
    have hy := h y (by simp)
    rw [List.cons_append]
    simp only [sums]
    rw [if_neg (by omega), if_neg (by omega), sums_deep a r fun x hx => h x (by simp [hx])]

theorem visits_level (n : N) : ∀ lv, ∀ x ∈ spotsOf (n.visits lv), lv ≤ x.1 := by
  refine N.ind (P := fun n => ∀ lv, ∀ x ∈ spotsOf (n.visits lv), lv ≤ x.1) ?_ ?_ ?_ n
  · intro h p lv x hx; simp only [N.visits, spotsOf, List.map_cons, List.map_nil, List.mem_singleton, N.spot] at hx; rw [hx]; exact Nat.le_refl _
  · intro h t lv x hx; simp only [N.visits, spotsOf, List.map_cons, List.map_nil, List.mem_singleton, N.spot] at hx; rw [hx]; exact Nat.le_refl _
  · intro m kids ih lv x hx
    have key : ∀ ks : List N, (∀ k ∈ ks, k ∈ kids) → ∀ x ∈ spotsOf (N.visitsL (lv + 1) ks), lv + 1 ≤ x.1 := by
      intro ks
      induction ks with
      | nil => intro _ x hx; simp [N.visitsL, spotsOf] at hx
      | cons k r ihr =>
        intro hm x hx
        simp only [N.visitsL, spotsOf_append, List.mem_append] at hx
        rcases hx with hx | hx
        · exact ih k (hm k (by simp)) (lv + 1) x hx
        · exact ihr (fun y hy => hm y (by simp [hy])) x hx
    simp only [N.visits, spotsOf, List.map_cons, List.mem_cons] at hx
    rcases hx with hx | hx
    · rw [hx]; exact Nat.le_refl _
    · exact Nat.le_of_succ_le (key kids (fun _ h => h) x hx)

/-- what one child's spots add -/
theorem sums_kid (k : N) (lv : Nat) (r : List Spot) : sums lv (spotsOf (k.visits (lv + 1)) ++ r) = ((sums lv r).1 + k.count, (sums lv r).2 + 1) := by
  cases k with
  | leaf h p =>
    simp only [N.visits, spotsOf, List.map_cons, List.map_nil, List.cons_append, List.nil_append, N.spot, sums, N.count]
    rw [if_neg (by omega), if_pos trivial]
  | bucket h t =>
    simp only [N.visits, spotsOf, List.map_cons, List.map_nil, List.cons_append, List.nil_append, N.spot, sums, N.count]
    rw [if_neg (by omega), if_pos trivial]
  | branch m kids =>
    have hd := sums_deep (lv := lv) (spotsOf (N.visitsL (lv + 1 + 1) kids)) r fun x hx => by
      have key : ∀ ks : List N, ∀ x ∈ spotsOf (N.visitsL (lv + 1 + 1) ks), lv + 1 + 1 ≤ x.1 := by
        intro ks
        induction ks with
        | nil => intro x hx; simp [N.visitsL, spotsOf] at hx
        | cons k r ihr =>
          intro x hx
          simp only [N.visitsL, spotsOf_append, List.mem_append] at hx
          rcases hx with hx | hx
          · exact visits_level k _ x hx
          · exact ihr x hx
      exact key kids x hx
    have e : spotsOf ((N.branch m kids).visits (lv + 1)) ++ r = (lv + 1, 3, 0, m, N.countL kids) :: (spotsOf (N.visitsL (lv + 1 + 1) kids) ++ r) := by
      simp only [N.visits, spotsOf, List.map_cons, List.cons_append, N.spot]
    rw [e]
    simp only [sums]
    rw [if_neg (by omega), if_pos trivial, hd, N.count]

theorem sums_kids (lv : Nat) (r : List Spot) : ∀ kids : List N, sums lv (spotsOf (N.visitsL (lv + 1) kids) ++ r) = ((sums lv r).1 + N.countL kids, (sums lv r).2 + kids.length)
  | [] => by simp [N.visitsL, spotsOf, N.countL]
  | k :: q => by
    simp only [N.visitsL, spotsOf_append, List.append_assoc]
    rw [sums_kid, sums_kids lv r q]
    simp only [N.countL, List.length_cons, Prod.mk.injEq]
    omega

theorem sums_stop {lv : Nat} {r : List Spot} (h : ∀ y, r.head? = some y → y.1 ≤ lv) : sums lv r = (0, 0) := by
  cases r with
  | nil => rfl
  | cons y r => simp only [sums]; rw [if_pos (h y rfl)]

theorem head_spots (n : N) (lv : Nat) (r : List Spot) : ∃ y, (spotsOf (n.visits lv) ++ r).head? = some y ∧ y.1 = lv := by
  cases n <;> exact ⟨_, rfl, rfl⟩

mutual
/-- all branches in a node have as many children as numbers -/
def N.even : N → Prop
  | .leaf .. => True
  | .bucket .. => True
  | .branch m kids => kids.length = (bitsOf m).length ∧ N.evenL kids
def N.evenL : List N → Prop
  | [] => True
  | k :: r => k.even ∧ N.evenL r
end
theorem N.evenL_iff (l : List N) : N.evenL l ↔ ∀ k ∈ l, k.even := by
  induction l with
  | nil => simp [N.evenL]
  | cons k r ih => simp [N.evenL, ih]

theorem okS_visits (n : N) : ∀ (lv : Nat) (r : List Spot), n.even → OkS r → (∀ y, r.head? = some y → y.1 ≤ lv) → OkS (spotsOf (n.visits lv) ++ r) := by
  refine N.ind (P := fun n => ∀ (lv : Nat) (r : List Spot), n.even → OkS r → (∀ y, r.head? = some y → y.1 ≤ lv) → OkS (spotsOf (n.visits lv) ++ r)) ?_ ?_ ?_ n
  · intro h p lv r _ hr _
    exact ⟨fun h => absurd (show (1 : Nat) = 3 from h) (by decide), hr⟩
  · intro h t lv r _ hr _
    exact ⟨fun h => absurd (show (2 : Nat) = 3 from h) (by decide), hr⟩
  · intro m kids ih lv r he hr hh
    simp only [N.even, N.evenL_iff] at he
    have e : spotsOf ((N.branch m kids).visits lv) ++ r = (lv, 3, 0, m, N.countL kids) :: (spotsOf (N.visitsL (lv + 1) kids) ++ r) := by
      simp only [N.visits, spotsOf, List.map_cons, List.cons_append, N.spot]
    rw [e]
    refine ⟨fun _ => ?_, ?_⟩
    · show sums lv _ = _
      rw [sums_kids, sums_stop hh, he.1]
      simp
    · have key : ∀ ks : List N, (∀ k ∈ ks, k ∈ kids) → OkS (spotsOf (N.visitsL (lv + 1) ks) ++ r) ∧ (∀ y, (spotsOf (N.visitsL (lv + 1) ks) ++ r).head? = some y → y.1 ≤ lv + 1) := by
        intro ks
        induction ks with
        | nil => intro _; exact ⟨hr, fun y hy => Nat.le_succ_of_le (hh y hy)⟩
        | cons k q ihq =>
          intro hm
          obtain ⟨h1, h2⟩ := ihq fun x hx => hm x (by simp [hx])
          simp only [N.visitsL, spotsOf_append, List.append_assoc]
          refine ⟨ih k (hm k (by simp)) (lv + 1) _ (he.2 k (hm k (by simp))) h1 h2, fun y hy => ?_⟩
          obtain ⟨z, hz, hl⟩ := head_spots k (lv + 1) (spotsOf (N.visitsL (lv + 1) q) ++ r)
          rw [hz] at hy
          injection hy with hy
          rw [← hy, hl]
          exact Nat.le_refl _
      exact (key kids fun _ h => h).1

theorem leavesOf_visits (n : N) : ∀ lv, leavesOf (spotsOf (n.visits lv)) = n.count := by
  refine N.ind (P := fun n => ∀ lv, leavesOf (spotsOf (n.visits lv)) = n.count) ?_ ?_ ?_ n
  · intro h p lv; rfl
  · intro h t lv; rfl
  · intro m kids ih lv
    have key : ∀ ks : List N, (∀ k ∈ ks, k ∈ kids) → leavesOf (spotsOf (N.visitsL (lv + 1) ks)) = N.countL ks := by
      intro ks
      induction ks with
      | nil => intro _; rfl
      | cons k q ihq =>
        intro hm
        simp only [N.visitsL, spotsOf_append, leavesOf_append, N.countL]
        rw [ih k (hm k (by simp)), ihq fun x hx => hm x (by simp [hx])]
    have e : spotsOf ((N.branch m kids).visits lv) = (lv, 3, 0, m, N.countL kids) :: spotsOf (N.visitsL (lv + 1) kids) := rfl
    rw [e]
    simp only [leavesOf, N.count]
    rw [if_pos trivial, key kids (fun _ h => h), Nat.zero_add]

/-- what is known of each spot of a layout -/
theorem lays_spots {level : Nat} {n : N} {S : En → Prop} (h : Lays level n S) : n.even ∧ 1 ≤ n.count ∧ ∀ x ∈ spotsOf (n.visits level), 1 ≤ x.2.2.2.2 ∧ (x.2.1 = 1 ∨ x.2.1 = 2 ∨ x.2.1 = 3) ∧ x.2.2.2.1 < 4294967296 := by
  induction h with
  | leaf hs =>
    refine ⟨trivial, Nat.le_refl _, fun x hx => ?_⟩
    simp only [N.visits, spotsOf, List.map_cons, List.map_nil, List.mem_singleton, N.spot] at hx
    subst hx
    exact ⟨Nat.le_refl _, .inl rfl, by show (0 : Nat) < _; decide⟩
  | @bucket level h t S he hr h2 hs =>
    have hsz : 1 ≤ t.size := by rw [← T.length_list]; omega
    refine ⟨trivial, hsz, fun x hx => ?_⟩
    simp only [N.visits, spotsOf, List.map_cons, List.map_nil, List.mem_singleton, N.spot] at hx
    subst hx
    exact ⟨hsz, .inr (.inl rfl), by show (0 : Nat) < _; decide⟩
  | @branch level m kids S hm32 hl h2 hc hk ih =>
    obtain ⟨a, b, ha, hb', hne⟩ := h2
    have hat : ∀ k ∈ kids, ∃ (j c : Nat), (bitsOf m)[j]? = some c ∧ kids[j]? = some k := fun k hk => by
      obtain ⟨j, hj⟩ := List.mem_iff_getElem?.1 hk
      have hjl : j < (bitsOf m).length := by rw [← hl]; exact (List.getElem?_eq_some_iff.1 hj).1
      exact ⟨j, _, List.getElem?_eq_getElem hjl, hj⟩
    have IH : ∀ k ∈ kids, k.even ∧ 1 ≤ k.count ∧ ∀ x ∈ spotsOf (k.visits (level + 1)), 1 ≤ x.2.2.2.2 ∧ (x.2.1 = 1 ∨ x.2.1 = 2 ∨ x.2.1 = 3) ∧ x.2.2.2.1 < 4294967296 := fun k hk => by
      obtain ⟨j, c, h1, h2⟩ := hat k hk
      exact ih j c k h1 h2
    have hcnt : 1 ≤ N.countL kids := by
      have hbl : 0 < (bitsOf m).length := List.length_pos_iff.2 (List.ne_nil_of_mem (hc a ha))
      match kids, hl, IH with
      | [], hl, _ => simp at hl; omega
      | k :: r, _, IH =>
        have := (IH k (by simp)).2.1
        simp only [N.countL]
        omega
    refine ⟨?_, hcnt, fun x hx => ?_⟩
    · simp only [N.even, N.evenL_iff]
      exact ⟨hl, fun k hk => (IH k hk).1⟩
    · simp only [N.visits, spotsOf, List.map_cons, List.mem_cons] at hx
      rcases hx with hx | hx
      · subst hx
        exact ⟨hcnt, .inr (.inr rfl), hm32⟩
      · have key : ∀ ks : List N, (∀ k ∈ ks, k ∈ kids) → ∀ x ∈ spotsOf (N.visitsL (level + 1) ks), 1 ≤ x.2.2.2.2 ∧ (x.2.1 = 1 ∨ x.2.1 = 2 ∨ x.2.1 = 3) ∧ x.2.2.2.1 < 4294967296 := by
          intro ks
          induction ks with
          | nil => intro _ x hx; simp [N.visitsL, spotsOf] at hx
          | cons k q ihq =>
            intro hm x hx
            simp only [N.visitsL, spotsOf_append, List.mem_append] at hx
            rcases hx with hx | hx
            · exact (IH k (hm k (by simp))).2.2 x hx
            · exact ihq (fun y hy => hm y (by simp [hy])) x hx
        exact key kids (fun _ h => h) x hx
/-- each spot's count is no more than the whole -/
theorem spot_count {n : N} {lv : Nat} {x : N × Nat} (h : x ∈ n.visits lv) : (x.1.spot x.2).2.2.2.2 ≤ n.count := by
  revert lv
  refine N.ind (P := fun n => ∀ {lv : Nat}, x ∈ n.visits lv → (x.1.spot x.2).2.2.2.2 ≤ n.count) ?_ ?_ ?_ n
  · intro h p lv hx
    simp only [N.visits, List.mem_singleton] at hx
    subst hx
    exact Nat.le_refl _
  · intro h t lv hx
    simp only [N.visits, List.mem_singleton] at hx
    subst hx
    exact Nat.le_refl _
  · intro m kids ih lv hx
    simp only [N.visits, List.mem_cons] at hx
    rcases hx with rfl | hx
    · exact Nat.le_refl _
    · have key : ∀ ks : List N, (∀ k ∈ ks, k ∈ kids) → x ∈ N.visitsL (lv + 1) ks → (x.1.spot x.2).2.2.2.2 ≤ N.countL ks := by
        intro ks
        induction ks with
        | nil => intro _ hx; simp [N.visitsL] at hx
        | cons k q ihq =>
          intro hm hx
          simp only [N.visitsL, List.mem_append] at hx
          simp only [N.countL]
          rcases hx with hx | hx
          · have := ih k (hm k (by simp)) hx; omega
          · have := ihq (fun y hy => hm y (by simp [hy])) hx; omega
      exact key kids (fun _ h => h) hx
end Bw
