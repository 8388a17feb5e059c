
import Derived.Test.YtadaoceidkagfaaGreatDoorBwG
import Derived.Test.YtadaoceidkagfaaGreatDoorBwAll
/- Trees without a pair: two trees made one, the first pair, joined trees; their lists, that they stay even, what is visited. Plain. -/
namespace Bw
def T.hi : T -> Nat
  | .nil => 0
  | .node l _ r => 1 + max l.hi r.hi
theorem T.hi_high : ∀ t : T, t.even -> 4 ^ t.hi <= 3 ^ t.hi * (t.size + 1)
  | .nil, _ => by simp [T.hi, T.size]
  | .node l q r, h => by
    obtain ⟨hl, hr, h1, h2⟩ := h
    have il := T.hi_high l hl
    have ir := T.hi_high r hr
    simp only [T.hi, T.size]
    rw [Nat.add_comm 1, Nat.pow_succ, Nat.pow_succ, Nat.mul_assoc]
    rcases Nat.le_total l.hi r.hi with h | h
    · rw [Nat.max_eq_right h]
      refine Nat.le_trans (Nat.mul_le_mul_right 4 ir) ?_
      rw [Nat.mul_assoc]
      clear il ir
      exact Nat.mul_le_mul_left _ (by omega)
    · rw [Nat.max_eq_left h]
      refine Nat.le_trans (Nat.mul_le_mul_right 4 il) ?_
      rw [Nat.mul_assoc]
      clear il ir
      exact Nat.mul_le_mul_left _ (by omega)
def T.first : T -> PV × T
  | .nil => (([], []), .nil)
  | .node .nil q r => (q, r)
  | .node (.node a b c) q r => ((T.first (.node a b c)).1, T.evened (T.first (.node a b c)).2 q r)
def T.firstCost : T -> Nat
  | .nil => 0
  | .node .nil _ _ => 1
  | .node (.node a b c) _ _ => 1 + T.firstCost (.node a b c)
theorem T.first_list : ∀ t : T, t ≠ .nil -> t.list = (T.first t).1 :: (T.first t).2.list
  | .nil, h => absurd rfl h
  | .node .nil q r, _ => rfl
  | .node (.node a b c) q r, _ => by
    have ih := T.first_list (.node a b c) (by intro e; cases e)
    show (T.node a b c).list ++ q :: r.list = _
    rw [ih]
    simp only [T.first, T.list_evened, List.cons_append]
theorem T.first_even : ∀ t : T, t.even -> (T.first t).2.even
  | .nil, _ => trivial
  | .node .nil _ _, h => h.2.1
  | .node (.node a b c) q _, h => T.even_evened q (T.first_even (.node a b c) h.1) h.2.1
theorem T.firstCost_le : ∀ t : T, T.firstCost t <= t.hi
  | .nil => Nat.le_refl _
  | .node .nil _ _ => by simp only [T.firstCost, T.hi]; omega
  | .node (.node a b c) q r => by
    have ih := T.firstCost_le (.node a b c)
    show 1 + T.firstCost (.node a b c) <= 1 + max (T.node a b c).hi r.hi
    exact Nat.add_le_add_left (Nat.le_trans ih (Nat.le_max_left _ _)) 1
theorem T.first_size {t : T} (h : t ≠ .nil) : (T.first t).2.size + 1 = t.size := by
  rw [<- T.length_list, <- T.length_list, T.first_list t h, List.length_cons]
def T.joinF : Nat -> T -> PV -> T -> T
  | 0, l, p, r => .node l p r
  | f + 1, l, p, r =>
    if evenB l.size r.size then .node l p r
    else if r.size < l.size then
      match l with
      | .nil => .node .nil p r
      | .node ll lq lr => T.evened ll lq (T.joinF f lr p r)
    else
      match r with
      | .nil => .node l p .nil
      | .node rl rq rr => T.evened (T.joinF f l p rl) rq rr
def T.join (l : T) (p : PV) (r : T) : T := T.joinF (l.size + r.size) l p r
theorem T.joinF_list : ∀ (f : Nat) (l : T) (p : PV) (r : T), (T.joinF f l p r).list = l.list ++ p :: r.list
  | 0, _, _, _ => rfl
  | f + 1, l, p, r => by
    simp only [T.joinF]
    split
    · rfl
    · split
      · cases l with
        | nil => rfl
        | node ll lq lr => simp only [T.list_evened, T.joinF_list f, T.list, List.append_assoc, List.cons_append]
      · cases r with
        | nil => rfl
        | node rl rq rr => simp only [T.list_evened, T.joinF_list f, T.list, List.append_assoc, List.cons_append]
theorem T.joinF_size (f : Nat) (l : T) (p : PV) (r : T) : (T.joinF f l p r).size = l.size + 1 + r.size := by
  rw [<- T.length_list, T.joinF_list, List.length_append, List.length_cons, T.length_list, T.length_list]
  omega
theorem T.joinF_even : ∀ (f : Nat) (l : T) (p : PV) (r : T), l.size + r.size <= f -> l.even -> r.even -> (T.joinF f l p r).even
  | 0, l, p, r, h, hl, hr => by
    refine ⟨hl, hr, ?_⟩
    unfold evenN
    omega
  | f + 1, l, p, r, h, hl, hr => by
    simp only [T.joinF]
    split
    · rename_i he
      exact ⟨hl, hr, evenB_iff.1 he⟩
    · rename_i he
      split
      · rename_i hlt
        cases l with
        | nil => exact absurd hlt (Nat.not_lt_zero _)
        | node ll lq lr =>
          exact T.even_evened lq hl.1 (T.joinF_even f lr p r (by simp only [T.size] at h; omega) hl.2.1 hr)
      · cases r with
        | nil =>
          exfalso
          rename_i hlt
          have : l.size = 0 := by simp only [T.size] at hlt; omega
          rw [this] at he
          exact he rfl
        | node rl rq rr =>
          exact T.even_evened rq (T.joinF_even f l p rl (by simp only [T.size] at h; omega) hl hr.1) hr.2.1
def T.pair : T -> T -> T
  | .nil, r => r
  | l, .nil => l
  | l, r => T.join l (T.first r).1 (T.first r).2
def T.pairCost : T -> T -> Nat
  | .nil, _ => 0
  | _, .nil => 0
  | _, r => T.firstCost r
theorem T.pair_list (l r : T) : (T.pair l r).list = l.list ++ r.list := by
  cases l with
  | nil => cases r <;> simp [T.pair, T.list]
  | node a b c =>
    cases r with
    | nil => simp [T.pair, T.list]
    | node x y z =>
      simp only [T.pair, T.join, T.joinF_list]
      rw [<- T.first_list (.node x y z) (by intro e; cases e)]
theorem T.pair_even {l r : T} (hl : l.even) (hr : r.even) : (T.pair l r).even := by
  cases l with
  | nil => cases r <;> exact hr
  | node a b c =>
    cases r with
    | nil => exact hl
    | node x y z => exact T.joinF_even _ _ _ _ (Nat.le_refl _) hl (T.first_even _ hr)
theorem T.pairCost_le (l r : T) : T.pairCost l r <= r.hi := by
  cases l with
  | nil => cases r <;> exact Nat.zero_le _
  | node a b c =>
    cases r with
    | nil => exact Nat.zero_le _
    | node x y z => exact T.firstCost_le _
def T.del (k : Bytes) : T -> Option T
  | .nil => none
  | .node l q r =>
    if k = q.1 then some (T.pair l r)
    else if lt q.1 k then (T.del k r).map fun r' => T.evened l q r'
    else (T.del k l).map fun l' => T.evened l' q r
def T.delCost (k : Bytes) : T -> Nat × Nat
  | .nil => (0, 0)
  | .node l q r =>
    if k = q.1 then (1 + T.pairCost l r, 1)
    else if lt q.1 k then (1 + (T.delCost k r).1, 1 + (T.delCost k r).2)
    else (1 + (T.delCost k l).1, 1 + (T.delCost k l).2)
theorem T.delCost_le (k : Bytes) : ∀ t : T, (T.delCost k t).1 <= t.hi /\ (T.delCost k t).2 <= (T.delCost k t).1
  | .nil => ⟨Nat.le_refl _, Nat.le_refl _⟩
  | .node l q r => by
    have il := T.delCost_le k l
    have ir := T.delCost_le k r
    have ip := T.pairCost_le l r
    simp only [T.delCost, T.hi]
    split
    · exact ⟨by simp only; have := Nat.le_max_right l.hi r.hi; omega, by simp only; omega⟩
    · split
      · exact ⟨by simp only; have := Nat.le_max_right l.hi r.hi; omega, by simp only; omega⟩
      · exact ⟨by simp only; have := Nat.le_max_left l.hi r.hi; omega, by simp only; omega⟩
def without (m : List PV) (k : Bytes) : List PV := m.filter fun x => decide (x.1 ≠ k)
theorem without_append (a b : List PV) (k : Bytes) : without (a ++ b) k = without a k ++ without b k := List.filter_append _ _
theorem without_none {m : List PV} {k : Bytes} (h : ∀ x ∈ m, x.1 ≠ k) : without m k = m := List.filter_eq_self.2 fun x hx => decide_eq_true (h x hx)
theorem without_cons_same {m : List PV} {q : PV} {k : Bytes} (h : q.1 = k) : without (q :: m) k = without m k := by
  unfold without
  rw [List.filter_cons, if_neg (by simp [h])]
theorem without_cons_other {m : List PV} {q : PV} {k : Bytes} (h : q.1 ≠ k) : without (q :: m) k = q :: without m k := by
  unfold without
  rw [List.filter_cons, if_pos (decide_eq_true h)]
theorem mem_without {m : List PV} {k : Bytes} {x : PV} : x ∈ without m k ↔ x ∈ m /\ x.1 ≠ k := by
  unfold without
  rw [List.mem_filter, decide_eq_true_iff]
theorem T.del_list (k : Bytes) : ∀ t : T, Rises t.list -> (T.del k t = none -> ∀ x ∈ t.list, x.1 ≠ k) /\ ∀ t', T.del k t = some t' -> (∃ x ∈ t.list, x.1 = k) /\ t'.list = without t.list k
  | .nil, _ => ⟨fun _ x hx => by simp [T.list] at hx, fun t' h => by simp [T.del] at h⟩
  | .node l q r, hr => by
    have hr' : Rises (l.list ++ q :: r.list) := hr
    have il := T.del_list k l (rises_left hr')
    have ir := T.del_list k r (rises_right hr')
    obtain ⟨_, h2, h3⟩ := List.pairwise_append.1 hr'
    obtain ⟨h4, _⟩ := List.pairwise_cons.1 h2
    have hlq : ∀ x ∈ l.list, lt x.1 q.1 := fun x hx => h3 x hx q (by simp)
    have hlist : (T.node l q r).list = l.list ++ q :: r.list := rfl
    rw [hlist]
    simp only [T.del]
    by_cases hk : k = q.1
    · rw [if_pos hk]
      have e1 : ∀ x ∈ l.list, x.1 ≠ k := fun x hx e => lt_ne (hlq x hx) (e.trans hk)
      have e2 : ∀ x ∈ r.list, x.1 ≠ k := fun x hx e => lt_ne (h4 x hx) (hk.symm.trans e.symm)
      refine ⟨(fun h => by cases h), fun t' h => ?_⟩
      injection h with h
      subst h
      refine ⟨⟨q, by simp, hk.symm⟩, ?_⟩
      rw [T.pair_list, without_append, without_cons_same hk.symm, without_none e1, without_none e2]
    · rw [if_neg hk]
      have hqk : q.1 ≠ k := fun e => hk e.symm
      by_cases hlt : lt q.1 k
      · rw [if_pos hlt]
        have e1 : ∀ x ∈ l.list, x.1 ≠ k := fun x hx e => lt_asymm hlt (by rw [<- e]; exact hlq x hx)
        refine ⟨fun h => ?_, fun t' h => ?_⟩
        · have h' : T.del k r = none := by simpa using h
          intro x hx
          rcases List.mem_append.1 hx with hx | hx
          · exact e1 x hx
          · rcases List.mem_cons.1 hx with rfl | hx
            · exact hqk
            · exact ir.1 h' x hx
        · obtain ⟨r', h1, rfl⟩ := Option.map_eq_some_iff.1 h
          obtain ⟨⟨x, hx, hxk⟩, hl⟩ := ir.2 r' h1
          refine ⟨⟨x, by simp [hx], hxk⟩, ?_⟩
          rw [T.list_evened, without_append, without_cons_other hqk, without_none e1, hl]
      · rw [if_neg hlt]
        have hkq : lt k q.1 := by
          rcases lt_or k q.1 with h | h | h
          · exact h
          · exact absurd h hk
          · exact absurd h hlt
        have e2 : ∀ x ∈ r.list, x.1 ≠ k := fun x hx e => lt_asymm (h4 x hx) (by rw [e]; exact hkq)
        refine ⟨fun h => ?_, fun t' h => ?_⟩
        · have h' : T.del k l = none := by simpa using h
          intro x hx
          rcases List.mem_append.1 hx with hx | hx
          · exact il.1 h' x hx
          · rcases List.mem_cons.1 hx with rfl | hx
            · exact hqk
            · exact e2 x hx
        · obtain ⟨l', h1, rfl⟩ := Option.map_eq_some_iff.1 h
          obtain ⟨⟨x, hx, hxk⟩, hl⟩ := il.2 l' h1
          refine ⟨⟨x, by simp [hx], hxk⟩, ?_⟩
          rw [T.list_evened, without_append, without_cons_other hqk, without_none e2, hl]
theorem T.del_even (k : Bytes) : ∀ (t t' : T), t.even -> T.del k t = some t' -> t'.even
  | .nil, t', _, h => by simp [T.del] at h
  | .node l q r, t', he, h => by
    simp only [T.del] at h
    split at h
    · injection h with h
      subst h
      exact T.pair_even he.1 he.2.1
    · split at h
      · obtain ⟨r', h1, rfl⟩ := Option.map_eq_some_iff.1 h
        exact T.even_evened q he.1 (T.del_even k r r' he.2.1 h1)
      · obtain ⟨l', h1, rfl⟩ := Option.map_eq_some_iff.1 h
        exact T.even_evened q (T.del_even k l l' he.1 h1) he.2.1
theorem T.pair_size (l r : T) : (T.pair l r).size = l.size + r.size := by
  rw [<- T.length_list, T.pair_list, List.length_append, T.length_list, T.length_list]
theorem T.del_size (k : Bytes) : ∀ (t t' : T), T.del k t = some t' -> t'.size + 1 = t.size
  | .nil, t', h => by simp [T.del] at h
  | .node l q r, t', h => by
    simp only [T.del] at h
    simp only [T.size]
    split at h
    · injection h with h
      subst h
      rw [T.pair_size]
      omega
    · split at h
      · obtain ⟨r', h1, rfl⟩ := Option.map_eq_some_iff.1 h
        have := T.del_size k r r' h1
        rw [T.size_evened]
        omega
      · obtain ⟨l', h1, rfl⟩ := Option.map_eq_some_iff.1 h
        have := T.del_size k l l' h1
        rw [T.size_evened]
        omega
theorem fair_less_right {l r r' : T} (hl : l.even) (hr : r'.even) (h : evenN l.size r.size) (hs : r'.size + 1 = r.size) : Fair l r' := by
  refine ⟨hl, hr, fun _ => ?_, fun _ => ?_⟩
  · refine near_even ?_
    unfold evenN at *
    omega
  · refine near_del ?_
    rw [hs]
    exact evenN_symm h
theorem fair_less_left {l l' r : T} (hl : l'.even) (hr : r.even) (h : evenN l.size r.size) (hs : l'.size + 1 = l.size) : Fair l' r := by
  refine ⟨hl, hr, fun _ => ?_, fun _ => ?_⟩
  · refine near_del ?_
    rw [hs]
    exact h
  · refine near_even ?_
    unfold evenN at *
    omega
theorem fair_join_right {f : Nat} {ll lr r : T} {p : PV} (hl : ll.even) (hlr : lr.even) (hr : r.even) (hf : lr.size + r.size <= f) (he : evenN ll.size lr.size) (hne : ¬ evenN (ll.size + 1 + lr.size) r.size) (hlt : r.size < ll.size + 1 + lr.size) : Fair ll (T.joinF f lr p r) := by
  refine ⟨hl, T.joinF_even f lr p r hf hlr hr, fun _ => ?_, fun hle => ?_⟩
  · rw [T.joinF_size]
    exact near_join he hne hlt
  · rw [T.joinF_size] at hle ⊢
    refine near_even ?_
    unfold evenN at *
    omega
theorem fair_join_left {f : Nat} {l rl rr : T} {p : PV} (hl : l.even) (hrl : rl.even) (hr : rr.even) (hf : l.size + rl.size <= f) (he : evenN rl.size rr.size) (hne : ¬ evenN l.size (rl.size + 1 + rr.size)) (hlt : l.size <= rl.size + 1 + rr.size) : Fair (T.joinF f l p rl) rr := by
  have hlt' : l.size < rl.size + 1 + rr.size := by
    rcases Nat.lt_or_ge l.size (rl.size + 1 + rr.size) with h | h
    · exact h
    · exact absurd (by unfold evenN; omega) hne
  refine ⟨T.joinF_even f l p rl hf hl hrl, hr, fun hlt2 => ?_, fun _ => ?_⟩
  · rw [T.joinF_size] at hlt2 ⊢
    refine near_even ?_
    unfold evenN at *
    omega
  · rw [T.joinF_size, show l.size + 1 + rl.size = rl.size + 1 + l.size by omega]
    refine near_join (evenN_symm he) (fun h => hne ?_) (by omega)
    have h2 := evenN_symm h
    rwa [show rr.size + 1 + rl.size = rl.size + 1 + rr.size by omega] at h2
end Bw
/- A trie without a key, as plain data: it is the layout of what is left. Plain. -/
namespace Bw
def lessBit (m c : Nat) : Nat := if m.testBit c then m ^^^ 2 ^ c else m
theorem testBit_less (m c i : Nat) : (lessBit m c).testBit i = (m.testBit i && !decide (c = i)) := by
  unfold lessBit
  split
  · rename_i h
    rw [Nat.testBit_xor, Nat.testBit_two_pow]
    by_cases e : c = i
    · subst e; simp [h]
    · simp [e]
  · rename_i h
    by_cases e : c = i
    · subst e
      have : m.testBit c = false := by simpa using h
      simp [this]
    · simp [e]
theorem mem_bits_less {m c i : Nat} : i ∈ bitsOf (lessBit m c) ↔ i ∈ bitsOf m /\ i ≠ c := by
  rw [mem_bitsOf, mem_bitsOf, testBit_less, Bool.and_eq_true, Bool.not_eq_true', decide_eq_false_iff_not]
  constructor
  · rintro ⟨h1, h2, h3⟩; exact ⟨⟨h1, h2⟩, fun e => h3 e.symm⟩
  · rintro ⟨⟨h1, h2⟩, h3⟩; exact ⟨h1, h2, fun e => h3 e.symm⟩
theorem less_lt {m c : Nat} (hm : m < 4294967296) (hc : c < 32) : lessBit m c < 4294967296 := by
  unfold lessBit
  split
  · exact Nat.xor_lt_two_pow (n := 32) hm (Nat.pow_lt_pow_right (by decide) hc)
  · exact hm
def collapseO : Option N -> Option N
  | some (.branch m [k]) => if k.isBranch then some (.branch m [k]) else some k
  | o => o
def cutO : Nat -> Option N -> Nat -> Bytes -> Nat -> Option (Option N)
  | _, none, _, _, _ => none
  | _, some (.leaf g q), h, k, _ => if g = h /\ k = q.1 then some none else none
  | _, some (.bucket g t), h, k, _ => if g = h then (T.del k t).map fun u => bucketO g u else none
  | 0, some (.branch _ _), _, _, _ => none
  | f + 1, some (.branch m kids), h, k, level =>
    match cutO f (kidO m kids (chunkAt h level)) h k (level + 1) with
    | none => none
    | some none => some (collapseO (branchO (lessBit m (chunkAt h level)) ((bitsOf (lessBit m (chunkAt h level))).map (kidO m kids))))
    | some (some k') => some (collapseO (branchO (m ||| 2 ^ chunkAt h level) (withKids m kids (chunkAt h level) (some k'))))
theorem cutO_none (f h : Nat) (k : Bytes) (level : Nat) : cutO f none h k level = none := by cases f <;> rfl
theorem cutO_leaf (f g : Nat) (q : PV) (h : Nat) (k : Bytes) (level : Nat) : cutO f (some (.leaf g q)) h k level = if g = h /\ k = q.1 then some none else none := by cases f <;> rfl
theorem cutO_bucket (f g : Nat) (t : T) (h : Nat) (k : Bytes) (level : Nat) : cutO f (some (.bucket g t)) h k level = if g = h then (T.del k t).map fun u => bucketO g u else none := by cases f <;> rfl
def CutS (S : En -> Prop) (k : Bytes) : En -> Prop := fun e => S e /\ e.2.1 ≠ k
def OLaysS (level : Nat) : Option N -> (En -> Prop) -> Prop
  | none, S => ∀ e, ¬ S e
  | some n, S => Lays level n S
theorem lays_collapse {level m : Nat} {kids : List N} {S : En -> Prop} (hm : m < 4294967296) (hl : kids.length = (bitsOf m).length) (hne : kids ≠ []) (hc : ∀ e, S e -> chunkAt e.1 level ∈ bitsOf m)
    (hk : ∀ (j c : Nat) (k : N), (bitsOf m)[j]? = some c -> kids[j]? = some k -> Lays (level + 1) k fun e => S e /\ chunkAt e.1 level = c) : ∃ n, collapseO (some (.branch m kids)) = some n /\ Lays level n S := by
  match kids, hl, hne, hk with
  | [], _, hne, _ => exact absurd rfl hne
  | [k], hl, _, hk =>
    obtain ⟨c, hb⟩ := List.length_eq_one_iff.1 hl.symm
    have hk0 := hk 0 c k (by rw [hb]; rfl) rfl
    have hall : ∀ e, S e -> chunkAt e.1 level = c := fun e he => by
      have := hc e he
      rw [hb, List.mem_singleton] at this
      exact this
    cases hbr : k.isBranch with
    | false =>
      refine ⟨k, by simp only [collapseO, hbr]; rfl, ?_⟩
      exact (lays_any_level hbr hk0 level).congr fun e => ⟨fun h => h.1, fun h => ⟨h, hall e h⟩⟩
    | true =>
      refine ⟨.branch m [k], by simp only [collapseO, hbr]; rfl, ?_⟩
      cases k with
      | leaf g p => cases hbr
      | bucket g t => cases hbr
      | branch m2 ks =>
        have hk1 := hk0
        cases hk1 with
        | branch _ _ h2 _ _ =>
          obtain ⟨a, b, ha, hb', hne⟩ := h2
          exact .branch hm hl ⟨a, b, ha.1, hb'.1, hne⟩ hc hk
  | k1 :: k2 :: r, hl, _, hk =>
    refine ⟨_, rfl, ?_⟩
    have h0 : 0 < (bitsOf m).length := by rw [<- hl]; simp
    have h1 : 1 < (bitsOf m).length := by rw [<- hl]; simp
    obtain ⟨e1, he1⟩ := (hk 0 _ k1 (List.getElem?_eq_getElem h0) rfl).some
    obtain ⟨e2, he2⟩ := (hk 1 _ k2 (List.getElem?_eq_getElem h1) rfl).some
    refine .branch hm hl ⟨e1, e2, he1.1, he2.1, fun e => ?_⟩ hc hk
    have h3 := he1.2
    rw [e, he2.2] at h3
    have := (List.getElem_inj (nodup_bitsOf m)).1 h3
    omega
theorem lays_kidO {level m : Nat} {kids : List N} {S : En -> Prop} (h : Lays level (.branch m kids) S) {c : Nat} (hc : c ∈ bitsOf m) : ∃ k, kidO m kids c = some k /\ Lays (level + 1) k fun e => S e /\ chunkAt e.1 level = c := by
  cases h with
  | branch hm hl h2 hcc hk =>
    have hat := bits_at_mem hc
    have hlt : ones c m < kids.length := by rw [hl]; exact (List.getElem?_eq_some_iff.1 hat).1
    refine ⟨kids[ones c m], ?_, hk _ c _ hat (List.getElem?_eq_getElem hlt)⟩
    unfold kidO
    rw [if_pos (mem_bitsOf.1 hc).2, List.getElem?_eq_getElem hlt]
theorem rises_without {m : List PV} (h : Rises m) (k : Bytes) : Rises (without m k) := List.Pairwise.filter _ h
theorem cut_bucket {level g : Nat} {t u : T} {S : En -> Prop} {k : Bytes} (hL : Lays level (.bucket g t) S) (hu : T.del k t = some u) : ∃ n, bucketO g u = some n /\ Lays level n (CutS S k) := by
  cases hL with
  | bucket he hr h2 hs =>
    have hsz := T.del_size k t u hu
    have hl := ((T.del_list k t hr).2 u hu).2
    have hev := T.del_even k t u he hu
    have hlen : t.list.length = t.size := T.length_list t
    have hul : u.list.length = u.size := T.length_list u
    have hS : ∀ e, CutS S k e ↔ e.1 = g /\ e.2 ∈ u.list := fun e => by
      unfold CutS
      rw [hs e, hl, mem_without]
      constructor
      · rintro ⟨⟨h1, h2⟩, h3⟩; exact ⟨h1, h2, h3⟩
      · rintro ⟨h1, h2, h3⟩; exact ⟨⟨h1, h2⟩, h3⟩
    unfold bucketO
    rw [if_neg (by omega)]
    by_cases h1 : u.size = 1
    · rw [if_pos h1]
      refine ⟨_, rfl, .leaf fun e => ?_⟩
      rw [hS e]
      cases u with
      | nil => simp [T.size] at h1
      | node a p b =>
        simp only [T.size] at h1
        have ha : a.list = [] := List.eq_nil_of_length_eq_zero (by rw [T.length_list]; omega)
        have hb : b.list = [] := List.eq_nil_of_length_eq_zero (by rw [T.length_list]; omega)
        have : (T.node a p b).list = [p] := by show a.list ++ p :: b.list = [p]; rw [ha, hb]; rfl
        rw [this, List.mem_singleton]
        show e.1 = g /\ e.2 = p ↔ e = (g, p)
        constructor
        · rintro ⟨h1, h2⟩; exact Prod.ext h1 h2
        · rintro rfl; exact ⟨rfl, rfl⟩
    · rw [if_neg h1]
      refine ⟨_, rfl, .bucket hev ?_ (by omega) hS⟩
      rw [hl]
      exact rises_without hr k
theorem cut_lays {h : Nat} {k : Bytes} : ∀ (f level : Nat) (n : N) (S : En -> Prop), level + f = 13 -> Lays level n S -> (∃ r, ∀ e, S e -> e.1 % 32 ^ level = r) -> (∀ e, S e -> e.1 < 18446744073709551616) -> (∀ e, S e -> e.2.1 = k -> e.1 = h) ->
    (cutO f (some n) h k level = none -> ∀ e, S e -> e.2.1 ≠ k) /\ ∀ o', cutO f (some n) h k level = some o' -> (∃ e, S e /\ e.2.1 = k) /\ OLaysS level o' (CutS S k)
  | f, level, .leaf g q, S, _, hL, _, _, hcons => by
    rw [cutO_leaf]
    cases hL with
    | leaf hs =>
      have h1 : S (g, q) := (hs _).2 rfl
      by_cases hx : g = h /\ k = q.1
      · rw [if_pos hx]
        refine ⟨(fun e => by cases e), fun o' ho => ?_⟩
        injection ho with ho
        subst ho
        refine ⟨⟨(g, q), h1, hx.2.symm⟩, fun e he => ?_⟩
        have := (hs e).1 he.1
        rw [this] at he
        exact he.2 hx.2.symm
      · rw [if_neg hx]
        refine ⟨fun _ e he hek => ?_, fun o' ho => by cases ho⟩
        have h3 := hcons e he hek
        have := (hs e).1 he
        subst this
        exact hx ⟨h3, hek.symm⟩
  | f, level, .bucket g t, S, _, hL, _, _, hcons => by
    rw [cutO_bucket]
    have hL' := hL
    cases hL with
    | bucket he hr h2 hs =>
      by_cases hg : g = h
      · rw [if_pos hg]
        obtain ⟨d1, d2⟩ := T.del_list k t hr
        refine ⟨fun ho e hse hek => ?_, fun o' ho => ?_⟩
        · have h' : T.del k t = none := by simpa using ho
          exact d1 h' e.2 ((hs e).1 hse).2 hek
        · obtain ⟨u, hu, rfl⟩ := Option.map_eq_some_iff.1 ho
          obtain ⟨x, hx, hxk⟩ := (d2 u hu).1
          obtain ⟨n, hn, hln⟩ := cut_bucket hL' hu
          refine ⟨⟨(g, x), (hs _).2 ⟨rfl, hx⟩, hxk⟩, ?_⟩
          rw [hn]
          exact hln
      · rw [if_neg hg]
        refine ⟨fun _ e hse hek => hg ?_, fun o' ho => by cases ho⟩
        rw [<- ((hs e).1 hse).1]
        exact hcons e hse hek
  | 0, level, .branch m kids, S, hf, hL, hr, hb, _ => by
    exfalso
    cases hL with
    | branch hm hl h2 hc hk =>
      obtain ⟨a, b, ha, hb', hne⟩ := h2
      obtain ⟨r, hr⟩ := hr
      have : level = 13 := by omega
      subst this
      exact hne (hash_end (hb a ha) (hb b hb') ((hr a ha).trans (hr b hb').symm))
  | f + 1, level, .branch m kids, S, hf, hL, hr, hb, hcons => by
    obtain ⟨r, hr⟩ := hr
    have hL' := hL
    cases hL with
    | branch hm hl h2 hc hk =>
      have hc32 : chunkAt h level < 32 := chunkAt_lt h level
      simp only [cutO]
      generalize hcd : chunkAt h level = c at *
      have hkey : ∀ e, S e -> e.2.1 = k -> chunkAt e.1 level = c := fun e he hek => by rw [hcons e he hek]; exact hcd
      by_cases hmem : c ∈ bitsOf m
      · obtain ⟨kk, hkk, hlk⟩ := lays_kidO hL' hmem
        obtain ⟨i1, i2⟩ := cut_lays f (level + 1) kk (fun e => S e /\ chunkAt e.1 level = c) (by omega) hlk ⟨r + 32 ^ level * c, fun e he => by rw [mod_chunk, hr e he.1, he.2]⟩ (fun e he => hb e he.1) (fun e he hek => hcons e he.1 hek)
        rw [hkk]
        have hne : bitsOf m ≠ [] := List.ne_nil_of_mem hmem
        cases hcut : cutO f (some kk) h k (level + 1) with
        | none =>
          refine ⟨fun _ e he hek => i1 hcut e ⟨he, hkey e he hek⟩ hek, fun o' ho => by cases ho⟩
        | some o1 =>
          obtain ⟨⟨e0, he0, he0k⟩, hlo⟩ := i2 o1 hcut
          have hS' : ∀ (i : Nat), i ≠ c -> ∀ e, (S e /\ chunkAt e.1 level = i) ↔ (CutS S k e /\ chunkAt e.1 level = i) := fun i hi e =>
            ⟨fun h => ⟨⟨h.1, fun hek => hi (h.2.symm.trans (hkey e h.1 hek))⟩, h.2⟩, fun h => ⟨h.1.1, h.2⟩⟩
          have d : N := .leaf 0 ([], [])
          cases o1 with
          | none =>
            refine ⟨(fun ho => by cases ho), fun o' ho => ?_⟩
            injection ho with ho
            subst ho
            refine ⟨⟨e0, he0.1, he0k⟩, ?_⟩
            have hgone : ∀ e, CutS S k e -> chunkAt e.1 level ≠ c := fun e he hec => hlo e ⟨⟨he.1, hec⟩, he.2⟩
            have hne' : bitsOf (lessBit m c) ≠ [] := by
              obtain ⟨a, b, ha, hb', hab⟩ := h2
              have hx : ∃ e, S e /\ chunkAt e.1 level ≠ c := by
                by_cases h1 : chunkAt a.1 level = c
                · by_cases h3 : chunkAt b.1 level = c
                  · exfalso
                    have ka : a.2.1 = k := Decidable.byContradiction fun hk' => hlo a ⟨⟨ha, h1⟩, hk'⟩
                    have kb : b.2.1 = k := Decidable.byContradiction fun hk' => hlo b ⟨⟨hb', h3⟩, hk'⟩
                    exact hab ((hcons a ha ka).trans (hcons b hb' kb).symm)
                  · exact ⟨b, hb', h3⟩
                · exact ⟨a, ha, h1⟩
              obtain ⟨e, he, hec⟩ := hx
              exact List.ne_nil_of_mem (mem_bits_less.2 ⟨hc e he, hec⟩)
            have hg : ∀ i ∈ bitsOf (lessBit m c), kidO m kids i = some ((kidO m kids i).getD d) := fun i hi => by
              obtain ⟨x, hx, _⟩ := lays_kidO hL' (mem_bits_less.1 hi).1
              rw [hx]; rfl
            rw [branchO_map (f := kidO m kids) (g := fun i => (kidO m kids i).getD d) hne' hg]
            obtain ⟨n, hn, hln⟩ := lays_collapse (level := level) (m := lessBit m c) (kids := (bitsOf (lessBit m c)).map fun i => (kidO m kids i).getD d) (S := CutS S k) (less_lt hm hc32) (List.length_map _) (by simpa using hne')
              (fun e he => mem_bits_less.2 ⟨hc e he.1, hgone e he⟩) (fun j i x hj hx => by
                rw [List.getElem?_map, hj] at hx
                have hi := mem_bits_less.1 (List.mem_of_getElem? hj)
                obtain ⟨y, hy, hly⟩ := lays_kidO hL' hi.1
                have hx' : some ((kidO m kids i).getD d) = some x := hx
                rw [hy] at hx'
                injection hx' with hx'
                have : y = x := hx'
                subst this
                exact hly.congr (hS' i hi.2))
            rw [hn]
            exact hln
          | some k' =>
            refine ⟨(fun ho => by cases ho), fun o' ho => ?_⟩
            injection ho with ho
            subst ho
            refine ⟨⟨e0, he0.1, he0k⟩, ?_⟩
            have hbits : ∀ i, i ∈ bitsOf (m ||| 2 ^ c) ↔ i ∈ bitsOf m := fun i => by
              rw [mem_bits_or hc32]
              exact ⟨fun h => h.elim (fun e => e ▸ hmem) id, .inr⟩
            have hne' : bitsOf (m ||| 2 ^ c) ≠ [] := List.ne_nil_of_mem ((hbits c).2 hmem)
            let g : Nat -> N := fun i => if i = c then k' else (kidO m kids i).getD d
            have hg : ∀ i ∈ bitsOf (m ||| 2 ^ c), (if i = c then some k' else if m.testBit i then kids[ones i m]? else none) = some (g i) := fun i hi => by
              by_cases e : i = c
              · simp only [g, if_pos e]
              · obtain ⟨x, hx, _⟩ := lays_kidO hL' ((hbits i).1 hi)
                rw [if_neg e]
                show kidO m kids i = some (g i)
                simp only [g, if_neg e]
                rw [hx]; rfl
            unfold withKids
            rw [branchO_map (g := g) hne' hg]
            obtain ⟨n, hn, hln⟩ := lays_collapse (level := level) (m := m ||| 2 ^ c) (kids := (bitsOf (m ||| 2 ^ c)).map g) (S := CutS S k) (or_lt hm hc32) (List.length_map _) (by simpa using hne')
              (fun e he => (hbits _).2 (hc e he.1)) (fun j i x hj hx => by
                rw [List.getElem?_map, hj] at hx
                have hi := (hbits i).1 (List.mem_of_getElem? hj)
                have hx' : some (g i) = some x := hx
                injection hx' with hx'
                subst hx'
                by_cases e : i = c
                · simp only [g, if_pos e]
                  subst e
                  exact (show Lays (level + 1) k' _ from hlo).congr fun e => ⟨fun h => ⟨⟨h.1.1, h.2⟩, h.1.2⟩, fun h => ⟨⟨h.1.1, h.2⟩, h.1.2⟩⟩
                · simp only [g, if_neg e]
                  obtain ⟨y, hy, hly⟩ := lays_kidO hL' hi
                  rw [hy]
                  exact hly.congr (hS' i e))
            rw [hn]
            exact hln
      · have hkn : kidO m kids c = none := by
          unfold kidO
          rw [if_neg fun ht => hmem (mem_bitsOf.2 ⟨hc32, ht⟩)]
        rw [hkn, cutO_none]
        refine ⟨fun _ e he hek => hmem ?_, fun o' ho => by cases ho⟩
        rw [<- hkey e he hek]
        exact hc e he
end Bw
/- The hash of a key under a seed, as plain numbers below 2^64. Plain. -/
namespace Bw
abbrev W64 : Nat := 18446744073709551616
def turn64 (x k : Nat) : Nat := (x * 2 ^ k) % W64 ||| x / 2 ^ (64 - k)
abbrev Sip := Nat × Nat × Nat × Nat
def Sip.ok (x : Sip) : Prop := x.1 < W64 /\ x.2.1 < W64 /\ x.2.2.1 < W64 /\ x.2.2.2 < W64
def mixA (a b : Nat) : Nat := (a + b) % W64
def mixB (a b k : Nat) : Nat := turn64 b k ^^^ mixA a b
def sipRound (x : Sip) : Sip :=
  let p := mixA x.1 x.2.1
  let q := mixB x.1 x.2.1 13
  let r := mixA x.2.2.1 x.2.2.2
  let s := mixB x.2.2.1 x.2.2.2 16
  let p2 := mixA (turn64 p 32) s
  let s2 := mixB (turn64 p 32) s 21
  let r2 := mixA r q
  let q2 := mixB r q 17
  (p2, q2, turn64 r2 32, s2)
def sipTake (x : Sip) (m : Nat) : Sip :=
  let y := sipRound (sipRound (x.1, x.2.1, x.2.2.1, x.2.2.2 ^^^ m))
  (y.1 ^^^ m, y.2.1, y.2.2.1, y.2.2.2)
def sipEnd (x : Sip) : Nat :=
  let y := sipRound (sipRound (sipRound (sipRound (x.1, x.2.1, x.2.2.1 ^^^ 255, x.2.2.2))))
  y.1 ^^^ y.2.1 ^^^ y.2.2.1 ^^^ y.2.2.2
def lowOf : List UInt8 -> Nat
  | [] => 0
  | b :: r => b.toNat + 256 * lowOf r
def low8 (b : Bytes) : Nat := lowOf (b.take 8)
def sipBegin (seed : List UInt8) : Sip :=
  (0x736f6d6570736575 ^^^ low8 seed, 0x646f72616e646f6d ^^^ low8 (seed.drop 8), 0x6c7967656e657261 ^^^ low8 seed, 0x7465646279746573 ^^^ low8 (seed.drop 8))
def sipEights (x : Sip) : Bytes -> Sip × Bytes
  | a :: b :: c :: d :: e :: f :: g :: h :: r => sipEights (sipTake x (low8 [a, b, c, d, e, f, g, h])) r
  | l => (x, l)
def sipHash (seed : List UInt8) (key : Bytes) : Nat :=
  sipEnd (sipTake (sipEights (sipBegin seed) key).1 (key.length % 256 * 2 ^ 56 ||| low8 (sipEights (sipBegin seed) key).2))
theorem lowOf_lt : ∀ l : List UInt8, lowOf l < 256 ^ l.length
  | [] => by simp [lowOf]
  | b :: r => by
    have ih := lowOf_lt r
    have hb := b.toNat_lt
    simp only [lowOf, List.length_cons, Nat.pow_succ]
    omega
theorem low8_lt (b : Bytes) : low8 b < W64 := by
  refine Nat.lt_of_lt_of_le (lowOf_lt _) ?_
  have h : (b.take 8).length <= 8 := List.length_take_le 8 b
  exact Nat.le_trans (Nat.pow_le_pow_right (by decide) h) (by decide)
theorem xor_lt64 {a b : Nat} (ha : a < W64) (hb : b < W64) : a ^^^ b < W64 := Nat.xor_lt_two_pow (n := 64) ha hb
theorem or_lt64 {a b : Nat} (ha : a < W64) (hb : b < W64) : a ||| b < W64 := Nat.or_lt_two_pow (n := 64) ha hb
theorem turn64_lt {x : Nat} (k : Nat) (h : x < W64) : turn64 x k < W64 := or_lt64 (Nat.mod_lt _ (by decide)) (Nat.lt_of_le_of_lt (Nat.div_le_self _ _) h)
theorem mixA_lt (a b : Nat) : mixA a b < W64 := Nat.mod_lt _ (by decide)
theorem mixB_lt {b : Nat} (a k : Nat) (hb : b < W64) : mixB a b k < W64 := xor_lt64 (turn64_lt k hb) (mixA_lt a b)
theorem sipRound_ok {x : Sip} (h : x.ok) : (sipRound x).ok :=
  ⟨mixA_lt _ _, mixB_lt _ _ (mixB_lt _ _ h.2.1), turn64_lt _ (mixA_lt _ _), mixB_lt _ _ (mixB_lt _ _ h.2.2.2)⟩
theorem sipTake_ok {x : Sip} {m : Nat} (h : x.ok) (hm : m < W64) : (sipTake x m).ok := by
  have h2 : (sipRound (sipRound (x.1, x.2.1, x.2.2.1, x.2.2.2 ^^^ m))).ok := sipRound_ok (sipRound_ok ⟨h.1, h.2.1, h.2.2.1, xor_lt64 h.2.2.2 hm⟩)
  exact ⟨xor_lt64 h2.1 hm, h2.2.1, h2.2.2.1, h2.2.2.2⟩
theorem sipEnd_lt {x : Sip} (h : x.ok) : sipEnd x < W64 := by
  have h2 : (sipRound (sipRound (sipRound (sipRound (x.1, x.2.1, x.2.2.1 ^^^ 255, x.2.2.2))))).ok :=
    sipRound_ok (sipRound_ok (sipRound_ok (sipRound_ok ⟨h.1, h.2.1, xor_lt64 h.2.2.1 (by decide), h.2.2.2⟩)))
  exact xor_lt64 (xor_lt64 (xor_lt64 h2.1 h2.2.1) h2.2.2.1) h2.2.2.2
theorem sipBegin_ok (seed : List UInt8) : (sipBegin seed).ok :=
  ⟨xor_lt64 (by decide) (low8_lt _), xor_lt64 (by decide) (low8_lt _), xor_lt64 (by decide) (low8_lt _), xor_lt64 (by decide) (low8_lt _)⟩
theorem sipEights_ok : ∀ (key : Bytes) (x : Sip), x.ok -> (sipEights x key).1.ok := by
  intro key
  induction hn : key.length using Nat.strongRecOn generalizing key with
  | _ n ih =>
    intro x hx
    match key, hn with
    | a :: b :: c :: d :: e :: f :: g :: h :: r, hn =>
      simp only [sipEights]
      exact ih r.length (by simp only [List.length_cons] at hn; omega) r rfl _ (sipTake_ok hx (low8_lt _))
    | [], _ => exact hx
    | [_], _ => exact hx
    | [_, _], _ => exact hx
    | [_, _, _], _ => exact hx
    | [_, _, _, _], _ => exact hx
    | [_, _, _, _, _], _ => exact hx
    | [_, _, _, _, _, _], _ => exact hx
    | [_, _, _, _, _, _, _], _ => exact hx
theorem sipHash_lt (seed : List UInt8) (key : Bytes) : sipHash seed key < W64 := by
  refine sipEnd_lt (sipTake_ok (sipEights_ok key _ (sipBegin_ok seed)) (or_lt64 ?_ (low8_lt _)))
  have h : key.length % 256 <= 255 := Nat.le_of_lt_succ (Nat.mod_lt _ (by decide))
  exact Nat.lt_of_le_of_lt (Nat.mul_le_mul_right _ h) (by decide)
end Bw
/- The hash's numbers as two halves. Plain. -/
namespace Bw
theorem two_turn {x k : Nat} (hx : x < W64) (hk : k = 13 \/ k = 16 \/ k = 17 \/ k = 21) :
    turn64 x k = (x / 4294967296 * 2 ^ k % 4294967296 + x % 4294967296 * 2 ^ k / 4294967296) * 4294967296 + (x % 4294967296 * 2 ^ k % 4294967296 + x / 4294967296 * 2 ^ k / 4294967296) := by
  have key : turn64 x k = x * 2 ^ k % W64 + x / 2 ^ (64 - k) := by
    have h1 : x / 2 ^ (64 - k) < 2 ^ k := by
      rw [Nat.div_lt_iff_lt_mul (Nat.two_pow_pos _), <- Nat.pow_add]
      rcases hk with rfl | rfl | rfl | rfl <;> exact hx
    have h2 : x * 2 ^ k % W64 = 2 ^ k * (x % 2 ^ (64 - k)) := by
      have h3 : W64 = 2 ^ k * 2 ^ (64 - k) := by rcases hk with rfl | rfl | rfl | rfl <;> rfl
      rw [h3, Nat.mul_comm x, Nat.mul_mod_mul_left]
    unfold turn64
    rw [h2, Nat.two_pow_add_eq_or_of_lt h1]
  rw [key]
  unfold W64 at hx ⊢
  rcases hk with rfl | rfl | rfl | rfl
  all_goals omega
theorem two_swap {x : Nat} (hx : x < W64) : turn64 x 32 = x % 4294967296 * 4294967296 + x / 4294967296 := by
  have h1 : x / 2 ^ (64 - 32) < 2 ^ 32 := by unfold W64 at hx; omega
  have h2 : x * 2 ^ 32 % W64 = 2 ^ 32 * (x % 2 ^ 32) := by
    have h3 : W64 = 2 ^ 32 * 2 ^ 32 := rfl
    rw [h3, Nat.mul_comm x, Nat.mul_mod_mul_left]
  unfold turn64
  rw [h2, <- Nat.two_pow_add_eq_or_of_lt h1]
  omega
theorem two_xor {a b : Nat} (ha : a < W64) (hb : b < W64) : (a ^^^ b) / 4294967296 = a / 4294967296 ^^^ b / 4294967296 /\ (a ^^^ b) % 4294967296 = a % 4294967296 ^^^ b % 4294967296 := by
  have _ := ha; have _ := hb
  constructor
  · have h := Nat.xor_div_two_pow (a := a) (b := b) (n := 32)
    exact h
  · have h := Nat.xor_mod_two_pow (a := a) (b := b) (n := 32)
    exact h
theorem two_fit {a b k : Nat} (hb : b < 4294967296) (hk : k = 13 \/ k = 16 \/ k = 17 \/ k = 21) : a * 2 ^ k % 4294967296 + b * 2 ^ k / 4294967296 < 4294967296 := by
  have h1 : a * 2 ^ k % 4294967296 = 2 ^ k * (a % 2 ^ (32 - k)) := by
    have h3 : 4294967296 = 2 ^ k * 2 ^ (32 - k) := by rcases hk with rfl | rfl | rfl | rfl <;> rfl
    rw [h3, Nat.mul_comm a, Nat.mul_mod_mul_left]
  have h2 : b * 2 ^ k / 4294967296 < 2 ^ k := by
    rw [Nat.div_lt_iff_lt_mul (by decide), Nat.mul_comm]
    exact Nat.mul_lt_mul_of_pos_left hb (Nat.two_pow_pos k)
  have h4 : a % 2 ^ (32 - k) < 2 ^ (32 - k) := Nat.mod_lt _ (Nat.two_pow_pos _)
  have h5 : 2 ^ k * (a % 2 ^ (32 - k)) + 2 ^ k <= 4294967296 := by
    have h6 := Nat.mul_le_mul_left (2 ^ k) (Nat.succ_le_of_lt h4)
    have h3 : 2 ^ k * 2 ^ (32 - k) = 4294967296 := by rcases hk with rfl | rfl | rfl | rfl <;> rfl
    rw [h3, Nat.succ_eq_add_one, Nat.mul_add, Nat.mul_one] at h6
    exact h6
  rw [h1]
  exact Nat.lt_of_lt_of_le (Nat.add_lt_add_left h2 _) h5
end Bw
/- Two ways to one map: what is left of the second one is brought to the first one's. Plain. -/
namespace Bw
end Bw
