
import Derived.Lib.Bytealg
import Derived.WalkKit
import Derived.WalkSpells
import Derived.Deep.DeepAppendWide
import Derived.Deep.Draws
import Derived.Maps.AppendAt
import Derived.Lib.UnsafeStr
import Derived.Laws.IdiomStrings
import Derived.Laws.BytesArg
import Derived.Sort.Defs
import Derived.Shelf.SlSortCmp.InsertionK
/- The plain model: pairs, trees, nodes as Lean data (no Go, no memory). -/
namespace Bw
open Go.Lib (compareBytes)
abbrev Bytes := List UInt8
abbrev PV := Bytes × Bytes
theorem cmp_self : ∀ a : Bytes, compareBytes a a = 0
  | [] => rfl
  | a :: r => by simp [compareBytes, UInt8.lt_irrefl, cmp_self r]
theorem cmp_range : ∀ a b : Bytes, compareBytes a b = 0 \/ compareBytes a b = 1 \/ compareBytes a b = -1
  | [], [] => .inl rfl
  | [], _ :: _ => .inr (.inr rfl)
  | _ :: _, [] => .inr (.inl rfl)
  | a :: r, b :: s => by
    simp only [compareBytes]
    split
    · exact .inr (.inr rfl)
    · split
      · exact .inr (.inl rfl)
      · exact cmp_range r s
theorem cmp_swap : ∀ a b : Bytes, compareBytes b a = - compareBytes a b
  | [], [] => rfl
  | [], _ :: _ => rfl
  | _ :: _, [] => rfl
  | a :: r, b :: s => by
    simp only [compareBytes]
    have h := cmp_swap r s
    by_cases h1 : a < b
    · have h2 : ¬ b < a := UInt8.lt_asymm h1
      simp [h1, h2]
    · by_cases h2 : b < a
      · simp [h1, h2]
      · simp [h1, h2, h]
theorem cmp_eq_zero : ∀ a b : Bytes, compareBytes a b = 0 ↔ a = b
  | [], [] => by simp [compareBytes]
  | [], _ :: _ => by simp [compareBytes]
  | _ :: _, [] => by simp [compareBytes]
  | a :: r, b :: s => by
    simp only [compareBytes]
    by_cases h1 : a < b
    · have : a ≠ b := fun h => by subst h; exact UInt8.lt_irrefl a h1
      simp [h1, this]
    · by_cases h2 : b < a
      · have : a ≠ b := fun h => by subst h; exact UInt8.lt_irrefl a h2
        simp [h1, h2, this]
      · have : a = b := UInt8.le_antisymm (UInt8.not_lt.1 h2) (UInt8.not_lt.1 h1)
        simp [this, cmp_eq_zero r s]
theorem cmp_trans : ∀ a b c : Bytes, compareBytes a b = -1 -> compareBytes b c = -1 -> compareBytes a c = -1
  | [], [], _ => by simp [compareBytes]
  | [], _ :: _, [] => by simp [compareBytes]
  | [], _ :: _, _ :: _ => by simp [compareBytes]
  | _ :: _, [], _ => by simp [compareBytes]
  | _ :: _, _ :: _, [] => by simp [compareBytes]
  | a :: r, b :: s, c :: t => by
    simp only [compareBytes]
    have ih := cmp_trans r s t
    intro h1 h2
    by_cases ab : a < b
    · by_cases bc : b < c
      · simp [UInt8.lt_trans ab bc]
      · by_cases cb : c < b
        · simp [bc, cb] at h2
        · have : b = c := UInt8.le_antisymm (UInt8.not_lt.1 cb) (UInt8.not_lt.1 bc)
          subst this; simp [ab]
    · by_cases ba : b < a
      · simp [ab, ba] at h1
      · have : a = b := UInt8.le_antisymm (UInt8.not_lt.1 ba) (UInt8.not_lt.1 ab)
        subst this
        by_cases bc : a < c
        · simp [bc]
        · by_cases cb : c < a
          · simp [bc, cb] at h2
          · simp only [ab, if_false] at h1
            simp only [bc, cb, if_false] at h2 ⊢
            exact ih h1 h2
def lt (a b : Bytes) : Prop := compareBytes a b = -1
instance (a b : Bytes) : Decidable (lt a b) := inferInstanceAs (Decidable (compareBytes a b = -1))
theorem lt_irrefl (a : Bytes) : ¬ lt a a := by simp [lt, cmp_self]
theorem lt_trans {a b c : Bytes} (h : lt a b) (k : lt b c) : lt a c := cmp_trans a b c h k
theorem lt_asymm {a b : Bytes} (h : lt a b) : ¬ lt b a := fun k => lt_irrefl a (lt_trans h k)
theorem lt_ne {a b : Bytes} (h : lt a b) : a ≠ b := fun e => by subst e; exact lt_irrefl _ h
theorem cmp_one {a b : Bytes} : compareBytes a b = 1 ↔ lt b a := by
  unfold lt; rw [cmp_swap a b]; omega
theorem lt_or (a b : Bytes) : lt a b \/ a = b \/ lt b a := by
  rcases cmp_range a b with h | h | h
  · exact .inr (.inl ((cmp_eq_zero a b).1 h))
  · exact .inr (.inr (cmp_one.1 h))
  · exact .inl h
def Rises (m : List PV) : Prop := m.Pairwise fun p q => lt p.1 q.1
def put (m : List PV) (p : PV) : List PV :=
  match m with
  | [] => [p]
  | q :: r => if lt q.1 p.1 then q :: put r p else if q.1 = p.1 then p :: r else p :: q :: r
def come (l : List PV) : List PV := l.foldl put []
def get (m : List PV) (k : Bytes) : Option Bytes :=
  match m with
  | [] => none
  | q :: r => if q.1 = k then some q.2 else get r k
theorem mem_put {m : List PV} {p x : PV} (h : x ∈ put m p) : x = p \/ x ∈ m := by
  induction m with
  | nil => simp [put] at h; exact .inl h
  | cons q r ih =>
    simp only [put] at h
    split at h
    · simp only [List.mem_cons] at h ⊢
      rcases h with h | h
      · exact .inr (.inl h)
      · rcases ih h with h | h
        · exact .inl h
        · exact .inr (.inr h)
    · split at h
      · simp only [List.mem_cons] at h ⊢
        rcases h with h | h
        · exact .inl h
        · exact .inr (.inr h)
      · simp only [List.mem_cons] at h ⊢
        exact h
theorem rises_put {m : List PV} (hm : Rises m) (p : PV) : Rises (put m p) := by
  induction m with
  | nil => simp [put, Rises]
  | cons q r ih =>
    obtain ⟨h1, h2⟩ := List.pairwise_cons.1 hm
    simp only [put]
    by_cases a : lt q.1 p.1
    · simp only [a, if_true]
      refine List.pairwise_cons.2 ⟨fun x hx => ?_, ih h2⟩
      rcases mem_put hx with rfl | hx
      · exact a
      · exact h1 x hx
    · simp only [a, if_false]
      by_cases b : q.1 = p.1
      · simp only [b, if_true]
        exact List.pairwise_cons.2 ⟨fun x hx => b ▸ h1 x hx, h2⟩
      · simp only [b, if_false]
        have hpq : lt p.1 q.1 := by
          rcases lt_or p.1 q.1 with h | h | h
          · exact h
          · exact absurd h.symm b
          · exact absurd h a
        refine List.pairwise_cons.2 ⟨fun x hx => ?_, hm⟩
        rcases List.mem_cons.1 hx with rfl | hx
        · exact hpq
        · exact lt_trans hpq (h1 x hx)
theorem rises_come (l : List PV) : Rises (come l) := by
  suffices h : ∀ m, Rises m -> Rises (l.foldl put m) from h [] (by simp [Rises])
  induction l with
  | nil => intro m h; exact h
  | cons p r ih => intro m h; exact ih _ (rises_put h p)
inductive T where
  | nil
  | node (l : T) (p : PV) (r : T)
def T.size : T -> Nat
  | .nil => 0
  | .node l _ r => l.size + 1 + r.size
def T.list : T -> List PV
  | .nil => []
  | .node l p r => l.list ++ p :: r.list
theorem T.length_list : ∀ t : T, t.list.length = t.size
  | .nil => rfl
  | .node l p r => by simp [T.list, T.size, T.length_list l, T.length_list r]; omega
def evenN (l r : Nat) : Prop := l + 1 <= 3 * (r + 1) /\ r + 1 <= 3 * (l + 1)
def T.even : T -> Prop
  | .nil => True
  | .node l _ r => l.even /\ r.even /\ evenN l.size r.size
def T.from (l : List PV) : T :=
  match l with
  | [] => .nil
  | p :: q => .node (T.from ((p :: q).take ((p :: q).length / 2))) ((p :: q)[(p :: q).length / 2]'(by simp; omega)) (T.from ((p :: q).drop ((p :: q).length / 2 + 1)))
termination_by l.length
decreasing_by
  · simp; omega
  · simp; omega
theorem T.list_from (l : List PV) : (T.from l).list = l := by
  match l with
  | [] => simp [T.from, T.list]
  | p :: q =>
    rw [T.from, T.list, T.list_from, T.list_from]
    have h : (p :: q).length / 2 < (p :: q).length := by simp; omega
    rw [<- List.drop_eq_getElem_cons h, List.take_append_drop]
termination_by l.length
decreasing_by
  · simp; omega
  · simp; omega
theorem T.size_from (l : List PV) : (T.from l).size = l.length := by rw [<- T.length_list, T.list_from]
theorem T.even_from (l : List PV) : (T.from l).even := by
  match l with
  | [] => simp [T.from, T.even]
  | p :: q =>
    rw [T.from, T.even]
    refine ⟨T.even_from _, T.even_from _, ?_⟩
    rw [T.size_from, T.size_from]
    simp only [List.length_take, List.length_drop, evenN]
    generalize (p :: q).length = n
    omega
termination_by l.length
decreasing_by
  · simp; omega
  · simp; omega
end Bw
/- What pair.Come does, as plain lists: a stable insertion, then of each key the last one: it is 'come'. -/
namespace Bw
theorem not_lt_trans {a b c : Bytes} (h : ¬ lt b a) (k : ¬ lt c b) : ¬ lt c a := by
  rcases lt_or a b with x | x | x
  · rcases lt_or b c with y | y | y
    · exact lt_asymm (lt_trans x y)
    · subst y; exact lt_asymm x
    · exact absurd y k
  · subst x; exact k
  · exact absurd x h
end Bw
/- Nodes as plain data; what the document has for them; when they are right. -/
namespace Bw
inductive N where
  | leaf (h : Nat) (p : PV)
  | bucket (h : Nat) (t : T)
  | branch (m : Nat) (kids : List N)
theorem N.ind {P : N -> Prop} (hl : ∀ h p, P (.leaf h p)) (hb : ∀ h t, P (.bucket h t)) (hk : ∀ m kids, (∀ k ∈ kids, P k) -> P (.branch m kids)) : ∀ n, P n := by
  intro n
  refine N.rec (motive_1 := P) (motive_2 := fun l => ∀ k ∈ l, P k) hl hb (fun m kids h => hk m kids h) ?_ ?_ n
  · intro k hk; cases hk
  · intro k r h1 h2 x hx
    rcases List.mem_cons.1 hx with rfl | hx
    · exact h1
    · exact h2 x hx
inductive X where
  | mk (kind hash : Nat) (pairs : List PV) (set : List Nat) (kids : List X)
def X.kind : X -> Nat | .mk k _ _ _ _ => k
def X.hash : X -> Nat | .mk _ h _ _ _ => h
def X.pairs : X -> List PV | .mk _ _ p _ _ => p
def X.set : X -> List Nat | .mk _ _ _ s _ => s
def X.kids : X -> List X | .mk _ _ _ _ k => k
def X.zero : X := .mk 0 0 [] [] []
theorem X.ind {P : X -> Prop} (hk : ∀ k h p s kids, (∀ y ∈ kids, P y) -> P (.mk k h p s kids)) : ∀ x, P x := by
  intro x
  refine X.rec (motive_1 := P) (motive_2 := fun l => ∀ y ∈ l, P y) (fun k h p s kids ih => hk k h p s kids ih) ?_ ?_ x
  · intro k hk; cases hk
  · intro k r h1 h2 x hx
    rcases List.mem_cons.1 hx with rfl | hx
    · exact h1
    · exact h2 x hx
def bitsOf (m : Nat) : List Nat := (List.range 32).filter (m.testBit ·)
mutual
def N.abs : N -> X
  | .leaf h p => .mk 1 h [p] [] []
  | .bucket h t => .mk 2 h t.list [] []
  | .branch m kids => .mk 3 0 [] (bitsOf m) (N.absL kids)
def N.absL : List N -> List X
  | [] => []
  | k :: r => k.abs :: N.absL r
end
theorem N.absL_eq (l : List N) : N.absL l = l.map N.abs := by
  induction l with
  | nil => simp [N.absL]
  | cons k r ih => simp [N.absL, ih]
def absO : Option N -> X
  | none => .zero
  | some n => n.abs
def N.isBranch : N -> Bool | .branch .. => true | _ => false
mutual
def N.count : N -> Nat
  | .leaf .. => 1
  | .bucket _ t => t.size
  | .branch _ kids => N.countL kids
def N.countL : List N -> Nat
  | [] => 0
  | k :: r => k.count + N.countL r
end
def chunkAt (h level : Nat) : Nat := h / 32 ^ level % 32
mutual
def N.under (level c : Nat) : N -> Bool
  | .leaf h _ => chunkAt h level == c
  | .bucket h _ => chunkAt h level == c
  | .branch _ kids => N.underL level c kids
def N.underL (level c : Nat) : List N -> Bool
  | [] => true
  | k :: r => k.under level c && N.underL level c r
end
mutual
def N.right (level : Nat) : N -> Bool
  | .leaf .. => true
  | .bucket .. => true
  | .branch m kids => !(level == 13) && !(kids.length == 1 && !N.anyBranch kids) && N.rightL level (bitsOf m) kids
def N.rightL (level : Nat) (cs : List Nat) : List N -> Bool
  | [] => true
  | k :: r => k.right (level + 1) && k.under level (cs.headD 0) && N.rightL level cs.tail r
def N.anyBranch : List N -> Bool
  | [] => false
  | k :: r => k.isBranch || N.anyBranch r
end
end Bw
/- Whether a node is right is what the document says of its plain form. -/
namespace Bw
mutual
def X.hashes : X -> List Nat
  | .mk k h _ _ kids => if k = 3 then X.hashesL kids else [h]
def X.hashesL : List X -> List Nat
  | [] => []
  | k :: r => k.hashes ++ X.hashesL r
end
mutual
def X.right (level : Nat) : X -> Bool
  | .mk k _ _ s kids => if k = 3 then !(decide (12 < level) || kids.isEmpty || X.lone kids) && X.rightL level s kids else true
def X.rightL (level : Nat) (s : List Nat) : List X -> Bool
  | [] => true
  | k :: r => k.right (level + 1) && k.hashes.all (fun h => chunkAt h level == s.headD 0) && X.rightL level s.tail r
def X.lone : List X -> Bool
  | [.mk k _ _ _ _] => !(k == 3)
  | _ => false
end
mutual
def N.wf : N -> Prop
  | .leaf .. => True
  | .bucket .. => True
  | .branch m kids => kids ≠ [] /\ kids.length = (bitsOf m).length /\ N.wfL kids
def N.wfL : List N -> Prop
  | [] => True
  | k :: r => k.wf /\ N.wfL r
end
end Bw
/- What brushwoodlaw16.build makes, as plain data. -/
namespace Bw
def T.root : T -> PV
  | .nil => ([], [])
  | .node _ p _ => p
def bucketO (h : Nat) (t : T) : Option N := if t.size = 0 then none else if t.size = 1 then some (.leaf h t.root) else some (.bucket h t)
def seqO : List (Option N) -> Option (List N)
  | [] => some []
  | none :: _ => none
  | some k :: r => (seqO r).map (k :: ·)
def branchO (m : Nat) (kids : List (Option N)) : Option N :=
  if kids.length = 0 \/ kids.length ≠ (bitsOf m).length then none else (seqO kids).map (N.branch m)
structure Plan where
  branch : Bool
  hash : Nat
  pairs : List PV
  set : Nat
  kids : List Int
def kidsOf (b : Nat -> Option N) (i n : Nat) (ks : List Int) : List (Option N) :=
  ks.map fun k => if k <= (i : Int) \/ (n : Int) <= k then none else b k.toNat
def build (l : List Plan) : Nat -> Nat -> Option N
  | 0, _ => none
  | f + 1, i => match l[i]? with
    | none => none
    | some p => if p.branch then branchO p.set (kidsOf (build l f) i l.length p.kids) else bucketO p.hash (T.from (come p.pairs))
theorem seqO_some {l : List (Option N)} {ks : List N} (h : seqO l = some ks) : l = ks.map some := by
  induction l generalizing ks with
  | nil => simp [seqO] at h; subst h; rfl
  | cons o r ih =>
    cases o with
    | none => simp [seqO] at h
    | some k =>
      simp only [seqO, Option.map_eq_some_iff] at h
      obtain ⟨q, hq, rfl⟩ := h
      simp [<- ih hq]
end Bw
/- What lies in memory: rows, bytes, pairs; each predicate tells the blocks that it looks at ('ok'). Over any program. -/
namespace Go.Bw
open Go.RowKit
abbrev Knd (α : Type) := (Nat -> Prop) -> World -> α -> List Value -> Prop
def Moves (ok ok' : Nat -> Prop) (w w' : World) : Prop := ∀ k, ok k -> k < w.heap.size -> ok' k /\ w'.heap[k]? = w.heap[k]?
theorem Moves.below {ok : Nat -> Prop} {w w' : World} (h : Below w.heap.size w w') : Moves ok ok w w' := fun k hk hl => ⟨hk, h.block k hl⟩
theorem Moves.weaken {ok ok' : Nat -> Prop} {w : World} (h : ∀ k, ok k -> k < w.heap.size -> ok' k) : Moves ok ok' w w := fun k hk hl => ⟨h k hk hl, rfl⟩
theorem Moves.grown {ok : Nat -> Prop} {w w' : World} {row : Option Nat} (h : w.grownBy w' row) (hr : ∀ k, ok k -> some k ≠ row) : Moves ok ok w w' := fun k hk hl => ⟨hk, h.block k hl (hr k hk)⟩
theorem Moves.drewN {ok : Nat -> Prop} (w : World) (n : Nat) : Moves ok ok w (w.drewN n) := fun _ hk _ => ⟨hk, rfl⟩
theorem Moves.trans {ok ok' ok'' : Nat -> Prop} {a b c : World} (h : Moves ok ok' a b) (hs : a.heap.size <= b.heap.size) (k : Moves ok' ok'' b c) : Moves ok ok'' a c := fun i hi hl => by
  obtain ⟨h1, h2⟩ := h i hi hl
  obtain ⟨k1, k2⟩ := k i h1 (by omega)
  exact ⟨k1, k2.trans h2⟩
theorem Moves.set {ok : Nat -> Prop} {w : World} {p : Addr} (u : Value) (h : ∀ k, ok k -> k ≠ p.block) : Moves ok ok w (w.setCell p u) := fun k hk _ => ⟨hk, Below.heap_setCell w p u k (h k hk)⟩
theorem Moves.fresh {n m : Nat} {w w' : World} (h : m <= n) (hb : Below w.heap.size w w') : Moves (fun k => n <= k) (fun k => m <= k) w w' := fun k hk hl => ⟨Nat.le_trans h hk, hb.block k hl⟩
theorem b_drewN {B : Nat} {a w : World} (h : Below B a w) (n : Nat) : Below B a (w.drewN n) := ⟨h.os, h.tape, h.output, h.size, h.block⟩
structure Good {α : Type} (sz : Nat) (d : Knd α) : Prop where
  len : ∀ {ok w x cs}, d ok w x cs -> cs.length = sz
  one : ∀ {ok w x cs}, d ok w x cs -> ∀ u ∈ cs, u.oneCell' = true
  move : ∀ {ok ok' w w' x cs}, Moves ok ok' w w' -> d ok w x cs -> d ok' w' x cs
def CellAt (ok : Nat -> Prop) (w : World) (b o : Nat) (v : Value) : Prop := ok b /\ w.cell? ⟨b, o, none⟩ = some v
theorem CellAt.move {ok ok' : Nat -> Prop} {w w' : World} {b o : Nat} {v : Value} (hm : Moves ok ok' w w') (h : CellAt ok w b o v) : CellAt ok' w' b o v := by
  have hl := World.block_lt_of_cell? w _ h.2
  obtain ⟨h1, h2⟩ := hm b h.1 hl
  exact ⟨h1, (World.cell?_of_block (w := w) (a := ⟨b, o, none⟩) h2).trans h.2⟩
def RowAt {α : Type} (sz : Nat) (d : Knd α) (ok : Nat -> Prop) (w : World) (v : Value) (xs : List α) : Prop :=
  ∃ A c, v = .slice A xs.length c /\ xs.length <= c /\ c <= maxLen /\ (A = none -> c = 0) /\ (∀ ad, A = some ad -> xs ≠ [] -> ad.spot = none) /\
    ∀ j x, xs[j]? = some x -> ∃ ad cs, A = some ad /\ d ok w x cs /\ ∀ i u, cs[i]? = some u -> CellAt ok w ad.block (ad.off + (j * sz + i)) u
theorem RowAt.move {α : Type} {sz : Nat} {d : Knd α} (hd : Good sz d) {ok ok' : Nat -> Prop} {w w' : World} {v : Value} {xs : List α} (hm : Moves ok ok' w w') (h : RowAt sz d ok w v xs) : RowAt sz d ok' w' v xs := by
  obtain ⟨A, c, h1, h2, h3, h4, h5, h6⟩ := h
  refine ⟨A, c, h1, h2, h3, h4, h5, fun j x hj => ?_⟩
  obtain ⟨ad, cs, e, hx, hc⟩ := h6 j x hj
  exact ⟨ad, cs, e, hd.move hm hx, fun i u hu => (hc i u hu).move hm⟩
theorem RowAt.form {α : Type} {sz : Nat} {d : Knd α} {ok : Nat -> Prop} {w : World} {v : Value} {xs : List α} (h : RowAt sz d ok w v xs) : ∃ A c, v = .slice A xs.length c := by
  obtain ⟨A, c, e, _⟩ := h
  exact ⟨A, c, e⟩
theorem RowAt.nil {α : Type} {sz : Nat} {d : Knd α} {ok : Nat -> Prop} {w : World} : RowAt sz d ok w (.slice none 0 0) [] :=
  ⟨none, 0, rfl, Nat.le_refl _, Nat.zero_le _, fun _ => rfl, (fun _ h => by cases h), (fun j x h => by simp at h)⟩
theorem RowAt.take {α : Type} {sz : Nat} {d : Knd α} {ok : Nat -> Prop} {w : World} {A : Option Addr} {n c k : Nat} {xs : List α} (h : RowAt sz d ok w (.slice A n c) xs) (hk : k <= xs.length) : RowAt sz d ok w (.slice A k c) (xs.take k) := by
  obtain ⟨A', c', e, h2, h3, h4, h5, h6⟩ := h
  injection e with e1 e2 e3
  subst e1; subst e3
  refine ⟨A, c, by rw [List.length_take, Nat.min_eq_left hk], by rw [List.length_take]; omega, h3, h4, (fun ad h hne => h5 ad h (by rintro rfl; simp at hne)), fun j x hj => ?_⟩
  rw [List.getElem?_take] at hj
  split at hj
  · exact h6 j x hj
  · cases hj
theorem RowAt.drop {α : Type} {sz : Nat} {d : Knd α} {ok : Nat -> Prop} {w : World} {b o n c k : Nat} {xs : List α} (h : RowAt sz d ok w (.slice (some ⟨b, o, none⟩) n c) xs) (hk : k <= xs.length) :
    RowAt sz d ok w (.slice (some ⟨b, o + k * sz, none⟩) (n - k) (c - k)) (xs.drop k) := by
  obtain ⟨A', c', e, h2, h3, h4, h5, h6⟩ := h
  injection e with e1 e2 e3
  subst e1; subst e2; subst e3
  refine ⟨_, _, by rw [List.length_drop], by rw [List.length_drop]; omega, by omega, (fun h => by cases h), (fun ad h _ => by cases h; rfl), fun j x hj => ?_⟩
  rw [List.getElem?_drop] at hj
  obtain ⟨ad, cs, e, hx, hc⟩ := h6 _ x hj
  cases e
  refine ⟨_, cs, rfl, hx, fun i u hu => ?_⟩
  have := hc i u hu
  have e : o + k * sz + (j * sz + i) = o + ((k + j) * sz + i) := by rw [Nat.add_mul]; omega
  show CellAt ok w b (o + k * sz + (j * sz + i)) u
  rw [e]; exact this
theorem RowAt.empty {α : Type} {sz : Nat} {d : Knd α} {ok : Nat -> Prop} {w : World} {b o c : Nat} (hc : c <= maxLen) : RowAt sz d ok w (.slice (some ⟨b, o, none⟩) 0 c) [] :=
  ⟨_, _, rfl, Nat.zero_le _, hc, (fun h => by cases h), (fun ad h _ => by cases h; rfl), fun j x hj => by simp at hj⟩
theorem RowAt.get {α : Type} {sz : Nat} {d : Knd α} {ok : Nat -> Prop} {w : World} {A : Option Addr} {n c j : Nat} {xs : List α} {x : α} (h : RowAt sz d ok w (.slice A n c) xs) (hj : xs[j]? = some x) :
    ∃ b o cs, A = some ⟨b, o, none⟩ /\ d ok w x cs /\ ∀ i u, cs[i]? = some u -> CellAt ok w b (o + (j * sz + i)) u := by
  obtain ⟨A', c', e, h2, h3, h4, h5, h6⟩ := h
  injection e with e1 e2 e3
  subst e1
  obtain ⟨ad, cs, rfl, hx, hc⟩ := h6 j x hj
  have hs := h5 ad rfl (List.ne_nil_of_mem (List.mem_of_getElem? hj))
  obtain ⟨b, o, sp⟩ := ad
  cases hs
  exact ⟨b, o, cs, rfl, hx, hc⟩
theorem RowAt.cap {α : Type} {sz : Nat} {d : Knd α} {ok : Nat -> Prop} {w : World} {A : Option Addr} {n c : Nat} {xs : List α} (h : RowAt sz d ok w (.slice A n c) xs) : n = xs.length /\ xs.length <= c /\ c <= maxLen := by
  obtain ⟨A', c', e, h2, h3, _⟩ := h
  injection e with e1 e2 e3
  subst e3
  exact ⟨e2, h2, h3⟩
def slK {α : Type} (sz : Nat) (d : Knd α) : Knd (List α) := fun ok w xs cs => ∃ v, cs = [v] /\ RowAt sz d ok w v xs
theorem Good.slice {α : Type} {sz : Nat} {d : Knd α} (hd : Good sz d) : Good 1 (slK sz d) where
  len := by rintro ok w x cs ⟨v, rfl, _⟩; rfl
  one := by
    rintro ok w x cs ⟨v, rfl, A, c, rfl, _⟩ u hu
    simp only [List.mem_singleton] at hu
    subst hu; rfl
  move := by
    rintro ok ok' w w' x cs hm ⟨v, rfl, h⟩
    exact ⟨v, rfl, h.move hd hm⟩
def immK {α : Type} (enc : α -> Value) : Knd α := fun _ _ x cs => cs = [enc x]
theorem Good.imm {α : Type} {enc : α -> Value} (h : ∀ x, (enc x).oneCell' = true) : Good 1 (immK enc) where
  len := by rintro ok w x cs rfl; rfl
  one := by
    rintro ok w x cs rfl u hu
    simp only [List.mem_singleton] at hu
    subst hu; exact h x
  move := by rintro ok ok' w w' x cs _ h; exact h
def prK {α β : Type} (d : Knd α) (f : Knd β) : Knd (α × β) := fun ok w x cs => ∃ a b, cs = a ++ b /\ d ok w x.1 a /\ f ok w x.2 b
theorem Good.pr {α β : Type} {s t : Nat} {d : Knd α} {f : Knd β} (hd : Good s d) (hf : Good t f) : Good (s + t) (prK d f) where
  len := by rintro ok w x cs ⟨a, b, rfl, h1, h2⟩; rw [List.length_append, hd.len h1, hf.len h2]
  one := by
    rintro ok w x cs ⟨a, b, rfl, h1, h2⟩ u hu
    rcases List.mem_append.1 hu with hu | hu
    · exact hd.one h1 u hu
    · exact hf.one h2 u hu
  move := by
    rintro ok ok' w w' x cs hm ⟨a, b, rfl, h1, h2⟩
    exact ⟨a, b, rfl, hd.move hm h1, hf.move hm h2⟩
def encB (b : UInt8) : Value := .int .u8 b.toNat
abbrev byteK : Knd UInt8 := immK encB
theorem goodByte : Good 1 byteK := Good.imm (fun _ => rfl)
abbrev BytesAt := RowAt 1 byteK
abbrev bytesK : Knd Bw.Bytes := slK 1 byteK
theorem goodBytes : Good 1 bytesK := goodByte.slice
abbrev pairK : Knd Bw.PV := prK bytesK bytesK
theorem goodPair : Good 2 pairK := goodBytes.pr goodBytes
abbrev PairsAt := RowAt 2 pairK
theorem pairK_open {ok : Nat -> Prop} {w : World} {p : Bw.PV} {cs : List Value} (h : pairK ok w p cs) : ∃ u v, cs = [u, v] /\ BytesAt ok w u p.1 /\ BytesAt ok w v p.2 := by
  obtain ⟨a, b, rfl, ⟨u, rfl, hu⟩, ⟨v, rfl, hv⟩⟩ := h
  exact ⟨u, v, rfl, hu, hv⟩
theorem pairK_mk {ok : Nat -> Prop} {w : World} {p : Bw.PV} {u v : Value} (hu : BytesAt ok w u p.1) (hv : BytesAt ok w v p.2) : pairK ok w p [u, v] :=
  ⟨[u], [v], rfl, ⟨u, rfl, hu⟩, ⟨v, rfl, hv⟩⟩
theorem add_none (b o n : Nat) : (⟨b, o, none⟩ : Addr).add n = ⟨b, o + n, none⟩ := by
  unfold Addr.add
  split
  · rename_i h; subst h; rfl
  · rfl
theorem pair_get {ok : Nat -> Prop} {w : World} {A : Option Addr} {n c j : Nat} {xs : List Bw.PV} {p : Bw.PV} (h : PairsAt ok w (.slice A n c) xs) (hj : xs[j]? = some p) :
    ∃ b o u v, A = some ⟨b, o, none⟩ /\ ok b /\ w.cell? ⟨b, o + j * 2, none⟩ = some u /\ w.cell? ⟨b, o + j * 2 + 1, none⟩ = some v /\ BytesAt ok w u p.1 /\ BytesAt ok w v p.2 := by
  obtain ⟨b, o, cs, rfl, hx, hc⟩ := h.get hj
  obtain ⟨u, v, rfl, hu, hv⟩ := pairK_open hx
  exact ⟨b, o, u, v, rfl, (hc 0 u rfl).1, (hc 0 u rfl).2, (hc 1 v rfl).2, hu, hv⟩
def Reps {α : Type} (R : α -> List Value -> Prop) (sz : Nat) (xs : List α) (cs : List Value) : Prop :=
  cs.length = xs.length * sz /\ ∀ j x, xs[j]? = some x -> R x ((cs.drop (j * sz)).take sz)
theorem Reps.nil {α : Type} (R : α -> List Value -> Prop) (sz : Nat) : Reps R sz [] [] := ⟨by simp, fun j x h => by simp at h⟩
theorem Reps.imp {α : Type} {R R' : α -> List Value -> Prop} {sz : Nat} {xs : List α} {cs : List Value} (h : Reps R sz xs cs) (hR : ∀ x c, R x c -> R' x c) : Reps R' sz xs cs := ⟨h.1, fun j x hj => hR _ _ (h.2 j x hj)⟩
theorem Reps.append {α : Type} {R : α -> List Value -> Prop} {sz : Nat} {xs ys : List α} {cs ds : List Value} (h : Reps R sz xs cs) (k : Reps R sz ys ds) : Reps R sz (xs ++ ys) (cs ++ ds) := by
  refine ⟨by rw [List.length_append, h.1, k.1, List.length_append, Nat.add_mul], fun j x hj => ?_⟩
  rcases Nat.lt_or_ge j xs.length with hl | hl
  · rw [List.getElem?_append_left hl] at hj
    have h1 : j * sz + sz <= cs.length := by rw [h.1, <- Nat.succ_mul]; exact Nat.mul_le_mul_right _ hl
    rw [List.drop_append_of_le_length (by omega), List.take_append_of_le_length (by rw [List.length_drop]; omega)]
    exact h.2 j x hj
  · rw [List.getElem?_append_right hl] at hj
    have e : (cs ++ ds).drop (j * sz) = ds.drop ((j - xs.length) * sz) := by
      have hz : cs.length <= j * sz := by rw [h.1]; exact Nat.mul_le_mul_right _ hl
      rw [List.drop_append, List.drop_eq_nil_of_le hz, List.nil_append, h.1, Nat.sub_mul]
    rw [e]
    exact k.2 _ x hj
theorem Reps.one {α : Type} {R : α -> List Value -> Prop} {sz : Nat} {x : α} {cs : List Value} (h : R x cs) (hl : cs.length = sz) : Reps R sz [x] cs := by
  refine ⟨by simp [hl], fun j y hj => ?_⟩
  cases j with
  | zero =>
    simp only [List.getElem?_cons_zero, Option.some.injEq] at hj
    subst hj
    rw [Nat.zero_mul, List.drop_zero, <- hl, List.take_length]; exact h
  | succ j => simp at hj
def OwnAt {α : Type} (e sz : Nat) (d : Knd α) (ok : Nat -> Prop) (w : World) (base : Nat) (v : Value) (xs : List α) : Prop :=
  (∀ k, v.ownBlock = some k -> ok k) /\ ∃ inner, w.ownsRow base e sz v xs.length inner /\ Reps (d (fun k => ok k /\ some k ≠ v.ownBlock) w) sz xs inner
theorem OwnAt.nil {α : Type} {e sz : Nat} {d : Knd α} {ok : Nat -> Prop} {w : World} {base : Nat} : OwnAt e sz d ok w base (.slice none 0 0) [] :=
  ⟨fun k h => by simp [Value.ownBlock] at h, [], World.ownsRow_nil _ _ _ _, Reps.nil _ _⟩
theorem OwnAt.made {α : Type} {e sz : Nat} {d : Knd α} {ok : Nat -> Prop} {w : World} {base : Nat} (hok : ok w.heap.size) (hb : base <= w.heap.size) :
    OwnAt e sz d ok (w.alloc (.cells #[] e)) base (.slice (some ⟨w.heap.size, 0, none⟩) 0 0) [] :=
  ⟨fun k h => by simp [Value.ownBlock] at h; exact h ▸ hok, [], World.ownsRow_made w #[] 0 hb (Nat.zero_le _) (by simp), Reps.nil _ _⟩
theorem OwnAt.row {α : Type} {e sz : Nat} {d : Knd α} (hd : Good sz d) {ok : Nat -> Prop} {w : World} {base : Nat} {v : Value} {xs : List α} (h : OwnAt e sz d ok w base v xs) : RowAt sz d ok w v xs := by
  obtain ⟨hok, inner, ho, hr⟩ := h
  have hcells := fun {g} (hg : v.ownBlock = some g) => World.ownsRow.cells ho hg
  rcases ho.2 with ⟨rfl, hn⟩ | ⟨g, cap, cur, rfl, hg, hh, hnc, hcm, hcs, ht⟩
  · have : xs = [] := List.eq_nil_of_length_eq_zero hn
    subst this; exact RowAt.nil
  · refine ⟨some ⟨g, 0, none⟩, cap, rfl, hnc, hcm, (fun h => by cases h), (fun ad h _ => by cases h; rfl), fun j x hj => ?_⟩
    have hjl := (List.getElem?_eq_some_iff.1 hj).1
    have hx := hr.2 j x hj
    refine ⟨⟨g, 0, none⟩, _, rfl, hd.move (Moves.weaken fun k hk _ => hk.1) hx, fun i u hu => ⟨hok g rfl, ?_⟩⟩
    rw [List.getElem?_take] at hu
    split at hu
    · rw [List.getElem?_drop] at hu
      have := hcells rfl _ _ hu
      rwa [add_none] at this
    · cases hu
theorem OwnAt.lt {α : Type} {e sz : Nat} {d : Knd α} {ok : Nat -> Prop} {w : World} {base : Nat} {v : Value} {xs : List α} (h : OwnAt e sz d ok w base v xs) : ∀ k, v.ownBlock = some k -> base <= k /\ k < w.heap.size := by
  obtain ⟨_, inner, ho, _⟩ := h
  exact ho.lt
theorem OwnAt.block {α : Type} {e sz : Nat} {d : Knd α} {ok : Nat -> Prop} {w : World} {base : Nat} {v : Value} {xs : List α} (h : OwnAt e sz d ok w base v xs) (hx : xs ≠ []) : ∃ g cap, v = .slice (some ⟨g, 0, none⟩) xs.length cap := by
  obtain ⟨_, inner, ho, _⟩ := h
  rcases ho.2 with ⟨_, hn⟩ | ⟨g, cap, cur, rfl, _⟩
  · exact absurd (List.eq_nil_of_length_eq_zero hn) hx
  · exact ⟨g, cap, rfl⟩
theorem OwnAt.aside {α : Type} {e sz : Nat} {d : Knd α} {ok : Nat -> Prop} {w : World} {base n : Nat} {v : Value} {xs : List α} (h : OwnAt e sz d ok w base v xs) (hn : w.heap.size <= n) (hok : ∀ k, n <= k -> ok k) {w1 w2 : World} (hb : Below w1.heap.size w1 w2) :
    Moves (fun k => n <= k) (fun k => ok k /\ some k ≠ v.ownBlock) w1 w2 := fun k hk hl => ⟨⟨hok k hk, fun e => by have := (h.lt k e.symm).2; omega⟩, hb.block k hl⟩
theorem OwnAt.move {α : Type} {e sz : Nat} {d : Knd α} (hd : Good sz d) {ok ok' : Nat -> Prop} {w w' : World} {base : Nat} {v : Value} {xs : List α} (hm : Moves ok ok' w w') (h : OwnAt e sz d ok w base v xs) : OwnAt e sz d ok' w' base v xs := by
  obtain ⟨hok, inner, ho, hr⟩ := h
  have hb : ∀ k, v.ownBlock = some k -> ok' k /\ w'.heap[k]? = w.heap[k]? := fun k hk => hm k (hok k hk) (ho.lt k hk).2
  refine ⟨fun k hk => (hb k hk).1, inner, ⟨ho.1, ?_⟩, hr.imp fun x c => hd.move fun k hk hl => ?_⟩
  · rcases ho.2 with h2 | ⟨g, cap, cur, rfl, hg, hh, r⟩
    · exact .inl h2
    · exact .inr ⟨g, cap, cur, rfl, hg, ((hb g rfl).2).trans hh, r⟩
  · obtain ⟨h1, h2⟩ := hm k hk.1 hl
    exact ⟨⟨h1, hk.2⟩, h2⟩
section
variable {α : Type} {d : Knd α} {P : Program} {ops : Array Oper} {rest : List Oper} {o : Oper} {a : Act} {Q : Exit -> Act -> World -> Prop} {ok : Nat -> Prop} {w : World}
theorem wpo_app {K : Act -> World -> Prop} {sz : Nat} (hd : Good sz d) (s x : Operand) (t : TypeId)
    (ho : o.op = .call { callee := .builtin .append, args := #[s, x], argTypes := #[t, t] })
    (base : Nat) (e : TypeId) (i : TypeInfo) (z : Value) (bytes : Nat) (ht : P.underlying t = some (.slice e)) (hi : P.info? e = some i) (hz : i.zero = some z)
    (hsize : i.size = sz) (hby : i.bytes = bytes) (hzs : z.cells.size = sz) (hsz : 0 < sz)
    (v : Value) (xs : List α) (hs : a.eval s = v) (hown : OwnAt e sz d ok w base v xs)
    (ad : Addr) (m c : Nat) (ys : List α) (news : List Value) (hx : a.eval x = .slice (some ad) m c) (hm : ys.length = m)
    (hnews : ∀ j u, news[j]? = some u -> w.cell? (ad.add j) = some u) (hreps : Reps (d (fun k => ok k /\ some k ≠ v.ownBlock) w) sz ys news)
    (hok : ∀ k, w.heap.size <= k -> ok k) (hbytes : (xs.length + m) * bytes <= 140737488355328) (hb0 : 0 < bytes) (hbase : base <= w.heap.size)
    (h : ∀ v' w', OwnAt e sz d ok w' base v' (xs ++ ys) -> w.grownBy w' v.ownBlock -> (v'.ownBlock = v.ownBlock \/ v'.ownBlock = some w.heap.size) -> K (a.put o.dst v') w') :
    o.wp P a w K Q := by
  obtain ⟨hv, inner, hor, hr⟩ := hown
  have h63 : xs.length + m <= maxLen := by
    have := Nat.le_trans (Nat.le_mul_of_pos_right (xs.length + m) hb0) hbytes
    unfold maxLen; omega
  have hone : ∀ u ∈ news, u.oneCell' = true := by
    intro u hu
    obtain ⟨q, hq, rfl⟩ := List.mem_iff_getElem.1 hu
    have hql : q / sz < ys.length := by rw [Nat.div_lt_iff_lt_mul hsz, <- hreps.1]; exact hq
    refine hd.one (hreps.2 (q / sz) _ (List.getElem?_eq_getElem hql)) _ ?_
    refine List.mem_iff_getElem?.2 ⟨q % sz, ?_⟩
    rw [List.getElem?_take, if_pos (Nat.mod_lt _ hsz), List.getElem?_drop, Nat.mul_comm, Nat.div_add_mod]
    exact List.getElem?_eq_getElem hq
  obtain ⟨v', w', hr0, hown', hg, _, hat⟩ := run_append_own_at (P := P) w base t o.type e i z sz bytes ht hi hz hsize hby hzs hsz v xs.length inner hor ad m c news (by rw [hreps.1, hm]) hnews hone h63 hbytes hbase
  unfold Oper.wp execOp
  simp only [ho, resolve, invoke, builtin, Sem.run_bind, Sem.run_pure, Result.andThen_ok, List.map_toArray, List.map_cons, List.map_nil, hs, hx, hr0]
  refine h v' w' ⟨fun k hk => ?_, inner ++ news, by rw [List.length_append, hm]; exact hown', ?_⟩ hg hat
  · rcases hat with hat | hat
    · exact hv k (hat.symm.trans hk)
    · have hh := hat.symm.trans hk
      injection hh with hh
      exact hok k (by omega)
  · have mv : Moves (fun k => ok k /\ some k ≠ v.ownBlock) (fun k => ok k /\ some k ≠ v'.ownBlock) w w' := fun k hk hl => by
      refine ⟨⟨hk.1, fun e => ?_⟩, hg.block k hl hk.2⟩
      rcases hat with hat | hat
      · exact hk.2 (e.trans hat)
      · have hh := e.trans hat
        injection hh with hh
        omega
    exact (hr.append hreps).imp fun x c => hd.move mv
theorem wp_app {sz : Nat} (hd : Good sz d) (hgd : o.guard = none) (s x : Operand) (t : TypeId)
    (ho : o.op = .call { callee := .builtin .append, args := #[s, x], argTypes := #[t, t] })
    (base : Nat) (e : TypeId) (i : TypeInfo) (z : Value) (bytes : Nat) (ht : P.underlying t = some (.slice e)) (hi : P.info? e = some i) (hz : i.zero = some z)
    (hsize : i.size = sz) (hby : i.bytes = bytes) (hzs : z.cells.size = sz) (hsz : 0 < sz)
    (v : Value) (xs : List α) (hs : a.eval s = v) (hown : OwnAt e sz d ok w base v xs)
    (ad : Addr) (m c : Nat) (ys : List α) (news : List Value) (hx : a.eval x = .slice (some ad) m c) (hm : ys.length = m)
    (hnews : ∀ j u, news[j]? = some u -> w.cell? (ad.add j) = some u) (hreps : Reps (d (fun k => ok k /\ some k ≠ v.ownBlock) w) sz ys news)
    (hok : ∀ k, w.heap.size <= k -> ok k) (hbytes : (xs.length + m) * bytes <= 140737488355328) (hb0 : 0 < bytes) (hbase : base <= w.heap.size)
    (h : ∀ v' w', OwnAt e sz d ok w' base v' (xs ++ ys) -> w.grownBy w' v.ownBlock -> (v'.ownBlock = v.ownBlock \/ v'.ownBlock = some w.heap.size) -> wpList P ops Q rest (a.put o.dst v') w') :
    wpList P ops Q (o :: rest) a w :=
  wpList_plain hgd fun _ hK => wpo_app hd s x t ho base e i z bytes ht hi hz hsize hby hzs hsz v xs hs hown ad m c ys news hx hm hnews hreps hok hbytes hb0 hbase fun v' w' h1 h2 h3 => hK _ _ (h v' w' h1 h2 h3)
theorem wpo_app1 {K : Act -> World -> Prop} {sz : Nat} (hd : Good sz d) (s x : Operand) (t : TypeId)
    (ho : o.op = .call { callee := .builtin .append, args := #[s, x], argTypes := #[t, t] })
    (base : Nat) (e : TypeId) (i : TypeInfo) (z : Value) (bytes : Nat) (ht : P.underlying t = some (.slice e)) (hi : P.info? e = some i) (hz : i.zero = some z)
    (hsize : i.size = sz) (hby : i.bytes = bytes) (hzs : z.cells.size = sz) (hsz : 0 < sz)
    (v : Value) (xs : List α) (hs : a.eval s = v) (hown : OwnAt e sz d ok w base v xs)
    (y : α) (cs : Array Value) (e' : TypeId) (hx : a.eval x = .slice (some ⟨w.heap.size, 0, none⟩) 1 1)
    (hy : d (fun k => ok k /\ some k ≠ v.ownBlock) w y cs.toList)
    (hok : ∀ k, w.heap.size <= k -> ok k) (hbytes : (xs.length + 1) * bytes <= 140737488355328) (hb0 : 0 < bytes) (hbase : base <= w.heap.size)
    (h : ∀ v' w', OwnAt e sz d ok w' base v' (xs ++ [y]) -> Below base w w' -> (v'.ownBlock = v.ownBlock \/ ∃ b, v'.ownBlock = some b /\ w.heap.size <= b) -> w.grownBy w' v.ownBlock -> K (a.put o.dst v') w') :
    o.wp P a (w.alloc (.cells cs e')) K Q := by
  have hb := (Below.refl w.heap.size w).alloc (Nat.le_refl _) (.cells cs e')
  have hl := hown.2
  have hbl : ∀ k, v.ownBlock = some k -> base <= k /\ k < w.heap.size := by
    obtain ⟨inner, hor, _⟩ := hl
    exact hor.lt
  refine wpo_app hd s x t ho base e i z bytes ht hi hz hsize hby hzs hsz v xs hs (hown.move hd (Moves.below hb)) ⟨w.heap.size, 0, none⟩ 1 1 [y] cs.toList hx rfl ?_
    (Reps.one (hd.move (Moves.below hb) hy) (hd.len hy)) (fun k hk => hok k (by simp at hk; omega)) hbytes hb0 (by simp; omega) ?_
  · intro j u hj
    rw [add_none, Nat.zero_add]
    have hj' : cs[j]? = some u := by rw [<- hj]; simp
    have hh : (w.alloc (.cells cs e')).heap[w.heap.size]? = some (.cells cs e') := heap_alloc_new w _
    unfold World.cell?
    simp only [hh]
    exact hj'
  · intro v' w' h1 h2 h3
    have hg : w.grownBy w' v.ownBlock := (World.grownBy_alloc w _ _).trans h2
    refine h v' w' h1 ((Below.refl base w).grown hg hbase (fun k hk => (hbl k hk).1)) ?_ hg
    rcases h3 with h3 | h3
    · exact .inl h3
    · exact .inr ⟨_, h3, by simp⟩
theorem wp_app1 {sz : Nat} (hd : Good sz d) (hgd : o.guard = none) (s x : Operand) (t : TypeId)
    (ho : o.op = .call { callee := .builtin .append, args := #[s, x], argTypes := #[t, t] })
    (base : Nat) (e : TypeId) (i : TypeInfo) (z : Value) (bytes : Nat) (ht : P.underlying t = some (.slice e)) (hi : P.info? e = some i) (hz : i.zero = some z)
    (hsize : i.size = sz) (hby : i.bytes = bytes) (hzs : z.cells.size = sz) (hsz : 0 < sz)
    (v : Value) (xs : List α) (hs : a.eval s = v) (hown : OwnAt e sz d ok w base v xs)
    (y : α) (cs : Array Value) (e' : TypeId) (hx : a.eval x = .slice (some ⟨w.heap.size, 0, none⟩) 1 1)
    (hy : d (fun k => ok k /\ some k ≠ v.ownBlock) w y cs.toList)
    (hok : ∀ k, w.heap.size <= k -> ok k) (hbytes : (xs.length + 1) * bytes <= 140737488355328) (hb0 : 0 < bytes) (hbase : base <= w.heap.size)
    (h : ∀ v' w', OwnAt e sz d ok w' base v' (xs ++ [y]) -> Below base w w' -> (v'.ownBlock = v.ownBlock \/ ∃ b, v'.ownBlock = some b /\ w.heap.size <= b) -> w.grownBy w' v.ownBlock -> wpList P ops Q rest (a.put o.dst v') w') :
    wpList P ops Q (o :: rest) a (w.alloc (.cells cs e')) :=
  wpList_plain hgd fun _ hK => wpo_app1 hd s x t ho base e i z bytes ht hi hz hsize hby hzs hsz v xs hs hown y cs e' hx hy hok hbytes hb0 hbase fun v' w' h1 h2 h3 h4 => hK _ _ (h v' w' h1 h2 h3 h4)
theorem st_app1 {K : Act -> World -> Prop} {E : Prop} {sz : Nat} (hd : Good sz d) (hgd : o.guard = none) (s x : Operand) (t : TypeId)
    (ho : o.op = .call { callee := .builtin .append, args := #[s, x], argTypes := #[t, t] })
    (base : Nat) (e : TypeId) (i : TypeInfo) (z : Value) (bytes : Nat) (ht : P.underlying t = some (.slice e)) (hi : P.info? e = some i) (hz : i.zero = some z)
    (hsize : i.size = sz) (hby : i.bytes = bytes) (hzs : z.cells.size = sz) (hsz : 0 < sz)
    (v : Value) (xs : List α) (hs : a.eval s = v) (hown : OwnAt e sz d ok w base v xs)
    (y : α) (cs : Array Value) (e' : TypeId) (hx : a.eval x = .slice (some ⟨w.heap.size, 0, none⟩) 1 1)
    (hy : d (fun k => ok k /\ some k ≠ v.ownBlock) w y cs.toList)
    (hok : ∀ k, w.heap.size <= k -> ok k) (hbytes : (xs.length + 1) * bytes <= 140737488355328) (hb0 : 0 < bytes) (hbase : base <= w.heap.size)
    (h : ∀ v' w', OwnAt e sz d ok w' base v' (xs ++ [y]) -> Below base w w' -> (v'.ownBlock = v.ownBlock \/ ∃ b, v'.ownBlock = some b /\ w.heap.size <= b) -> w.grownBy w' v.ownBlock -> K (a.put o.dst v') w') :
    if Region.wanted o (yielded ops a.tmps) = true then Oper.wp P o a (w.alloc (.cells cs e')) K Q else E := by
  have hw : Region.wanted o (yielded ops a.tmps) = true := by simp [Region.wanted, hgd]
  rw [if_pos hw]
  exact wpo_app1 hd s x t ho base e i z bytes ht hi hz hsize hby hzs hsz v xs hs hown y cs e' hx hy hok hbytes hb0 hbase h
end
theorem Reps.imm {α : Type} (enc : α -> Value) (ok : Nat -> Prop) (w : World) (xs : List α) : Reps (immK enc ok w) 1 xs (xs.map enc) := by
  refine ⟨by simp, fun j x hj => ?_⟩
  have hl := (List.getElem?_eq_some_iff.1 hj).1
  show ((xs.map enc).drop (j * 1)).take 1 = [enc x]
  rw [Nat.mul_one, List.drop_eq_getElem_cons (by simpa using hl)]
  simp only [List.take_succ_cons, List.take_zero, List.getElem_map]
  obtain ⟨_, h⟩ := List.getElem?_eq_some_iff.1 hj
  rw [h]
theorem RowAt.news {α : Type} {enc : α -> Value} {ok : Nat -> Prop} {w : World} {ad : Addr} {n c : Nat} {xs : List α} (h : RowAt 1 (immK enc) ok w (.slice (some ad) n c) xs) :
    ∀ j u, (xs.map enc)[j]? = some u -> w.cell? (ad.add j) = some u := by
  intro j u hj
  obtain ⟨A, c', he, _, _, _, hsp, h6⟩ := h
  injection he with he1 he2 he3
  subst he1
  rw [List.getElem?_map, Option.map_eq_some_iff] at hj
  obtain ⟨x, hx, rfl⟩ := hj
  obtain ⟨ad', cs, e, rfl, hc⟩ := h6 j x hx
  cases e
  have hs := hsp ad rfl (List.ne_nil_of_mem (List.mem_of_getElem? hx))
  obtain ⟨b, o, sp⟩ := ad
  cases hs
  have := (hc 0 (enc x) rfl).2
  rw [add_none]
  simpa using this
theorem wrap_succ {k n : Nat} (h : k < n) (hn : n <= 1048576) : wrap64 ((k : Int) + 1) = ((k + 1 : Nat) : Int) := by unfold wrap64; omega
theorem int_succ {k n : Nat} (h : k < n) (hn : n <= 1048576) : Value.int .i64 (wrap64 ((k : Int) + 1)) = .int .i64 ((k + 1 : Nat) : Int) := by rw [wrap_succ h hn]
theorem less_succ {k n : Nat} (h : k < n) (hn : n <= 1048576) : n - (intOf (.int .i64 (wrap64 ((k : Int) + 1)))).toNat < n - (intOf (.int .i64 (k : Int))).toNat := by
  rw [wrap_succ h hn]; simp only [intOf, Int.toNat_natCast]; omega
theorem take_succ_snoc {α : Type} {l : List α} {k : Nat} (h : k < l.length) : l.take (k + 1) = l.take k ++ [l[k]] := by
  rw [List.take_succ_eq_append_getElem h]
theorem RowAt.single {α : Type} {sz : Nat} {d : Knd α} (hd : Good sz d) {ok : Nat -> Prop} {W : World} {g : Nat} {cs : Array Value} {t : TypeId} {fr : Nat × Nat} {x : α} (hx : d ok W x cs.toList) (hb : ok g) (hh : W.heap[g]? = some (.cells cs t fr)) :
    RowAt sz d ok W (.slice (some ⟨g, 0, none⟩) 1 1) [x] := by
  have _ := hd
  refine ⟨_, _, rfl, Nat.le_refl _, by unfold maxLen; omega, (fun h => by cases h), (fun ad h _ => by cases h; rfl), fun j y hj => ?_⟩
  cases j with
  | zero =>
    simp only [List.getElem?_cons_zero, Option.some.injEq] at hj
    subst hj
    refine ⟨_, _, rfl, hx, fun i u hu => ⟨hb, ?_⟩⟩
    unfold World.cell?
    simp only [hh]
    simpa using hu
  | succ j => simp at hj
def TreeAt (ok : Nat -> Prop) (w : World) : Value -> Bw.T -> Prop
  | v, .nil => v = .pointer none
  | v, .node l p r => ∃ b u1 u2 lv rv, v = .pointer (some ⟨b, 0, none⟩) /\ CellAt ok w b 0 u1 /\ CellAt ok w b 1 u2 /\ CellAt ok w b 2 lv /\ CellAt ok w b 3 rv /\
      CellAt ok w b 4 (.int .i64 ((Bw.T.node l p r).size : Nat)) /\ BytesAt ok w u1 p.1 /\ BytesAt ok w u2 p.2 /\ TreeAt ok w lv l /\ TreeAt ok w rv r
theorem TreeAt.move {ok ok' : Nat -> Prop} {w w' : World} (hm : Moves ok ok' w w') : ∀ (t : Bw.T) (v : Value), TreeAt ok w v t -> TreeAt ok' w' v t
  | .nil, _, h => h
  | .node l p r, v, h => by
    obtain ⟨b, u1, u2, lv, rv, rfl, h0, h1, h2, h3, h4, k1, k2, hl, hr⟩ := h
    exact ⟨b, u1, u2, lv, rv, rfl, h0.move hm, h1.move hm, h2.move hm, h3.move hm, h4.move hm, k1.move goodByte hm, k2.move goodByte hm, TreeAt.move hm l _ hl, TreeAt.move hm r _ hr⟩
theorem TreeAt.form {ok : Nat -> Prop} {w : World} {t : Bw.T} {v : Value} (h : TreeAt ok w v t) : ∃ A, v = .pointer A := by
  cases t with
  | nil => exact ⟨_, h⟩
  | node l p r =>
    obtain ⟨b, _, _, _, _, rfl, _⟩ := h
    exact ⟨_, rfl⟩
def Gives (w : World) (R : Value -> World -> Prop) (e : Ending) (w' : World) : Prop := ∃ v, e = .returned v /\ R v w' /\ Below w.heap.size w w'
end Go.Bw
/- What the library's byte entries tell of rows of bytes in memory. Over any program. -/
namespace Go.Bw
open Go.RowKit
theorem RowAt.byteCells {ok : Nat -> Prop} {w : World} {ad : Addr} {n c : Nat} {l : Bw.Bytes} (h : BytesAt ok w (.slice (some ad) n c) l) : ∀ j x, l[j]? = some x -> w.cell? (ad.add j) = some (.int .u8 x.toNat) := by
  intro j x hj
  exact RowAt.news h j (encB x) (by rw [List.getElem?_map, hj]; rfl)
theorem run_loadBytesE {P : Program} {w : World} : ∀ (l : List UInt8) (a : Addr) (acc : ByteArray), (∀ j x, l[j]? = some x -> w.cell? (a.add j) = some (.int .u8 x.toNat)) ->
    (Extern.Bytes.loadBytes a l.length acc).run P w = .ok ⟨acc.data ++ l.toArray⟩ w
  | [], a, acc, _ => by simp [Extern.Bytes.loadBytes]
  | x :: l, a, acc, h => by
    have h0 : w.cell? a = some (.int .u8 x.toNat) := by
      have := h 0 x rfl
      simpa [Addr.add] using this
    have ih := run_loadBytesE (P := P) (w := w) l (a.add 1) (acc.push x) (fun j y hj => by
      have := h (j + 1) y (by simpa using hj)
      have e : (a.add 1).add j = a.add (j + 1) := by
        unfold Addr.add
        by_cases hj0 : j = 0
        · simp [hj0]
        · simp [hj0]; omega
      rw [e]; exact this)
    have e2 : ((x.toNat : Int).toNat).toUInt8 = x := by simp
    rw [List.length_cons, Extern.Bytes.loadBytes]
    simp only [Sem.run_bind, load, Sem.run, h0, Result.andThen, e2]
    rw [ih]
    congr 1
    simp
theorem run_bytesOfE {P : Program} {ok : Nat -> Prop} {w : World} {v : Value} {l : Bw.Bytes} (h : BytesAt ok w v l) : (Extern.Bytes.bytesOf v).run P w = .ok ⟨l.toArray⟩ w := by
  obtain ⟨A, c, rfl⟩ := h.form
  cases A with
  | none =>
    obtain ⟨A', c', e, _, _, hz, _, _⟩ := h
    injection e with e1 e2 e3
    subst e1
    have : l = [] := List.eq_nil_of_length_eq_zero (by have := hz rfl; omega)
    subst this
    rfl
  | some ad =>
    have := run_loadBytesE (P := P) l ad .empty h.byteCells
    rw [Extern.Bytes.bytesOf, this]
    congr 1
    show ByteArray.mk (#[] ++ l.toArray) = _
    rw [Array.empty_append]
theorem run_compareE {P : Program} {ok ok' : Nat -> Prop} {w : World} {u v : Value} {a b : Bw.Bytes} (hu : BytesAt ok w u a) (hv : BytesAt ok' w v b) :
    (Extern.BytealgCompare.compare #[u, v]).run P w = .ok (.int .i64 (Lib.compareBytes a b)) w := by
  change Sem.run P (do pure (goInt (Extern.BytealgCompare.cmp (<- Extern.Bytes.bytesOf u) (<- Extern.Bytes.bytesOf v)))) w = _
  simp only [Sem.run_bind, Sem.run_pure, run_bytesOfE hu, run_bytesOfE hv, Result.andThen]
  rw [Lib.cmp_eq]
  rfl
theorem run_conv {P : Program} {ok : Nat -> Prop} {w : World} {v : Value} {l : Bw.Bytes} (src dst e : TypeId) (hs : P.underlying src = some (.slice e)) (he : P.underlying e = some (.int .u8)) (hd : P.underlying dst = some .string) (h : BytesAt ok w v l) :
    (convert src dst v).run P w = .ok (.string ⟨l.toArray⟩) w := by
  obtain ⟨A, c, rfl⟩ := h.form
  cases A with
  | none =>
    obtain ⟨A', c', e', _, _, hz, _, _⟩ := h
    injection e' with e1 e2 e3
    subst e1
    have : l = [] := List.eq_nil_of_length_eq_zero (by have := hz rfl; omega)
    subst this
    exact run_convert_bytes_nil (P := P) (w := w) src e hs he _ _ dst hd
  | some ad =>
    exact run_convert_bytes_back w src dst e ad c l hs he hd (fun j hj => h.byteCells j l[j] (List.getElem?_eq_getElem hj))
end Go.Bw
/- Nodes in memory. tl, tb, tr: the dynamic types of a leaf, a bucket, a branch. Over any program. -/
namespace Go.Bw
open Go.RowKit
structure NT where
  tl : Nat
  tb : Nat
  tr : Nat
mutual
def NodeAt (q : NT) (ok : Nat -> Prop) (w : World) (v : Value) : Bw.N -> Prop
  | .leaf h p => ∃ b u1 u2, v = .iface q.tl (.pointer (some ⟨b, 0, none⟩)) /\ CellAt ok w b 0 (.int .u64 (h : Nat)) /\ CellAt ok w b 1 u1 /\ CellAt ok w b 2 u2 /\ BytesAt ok w u1 p.1 /\ BytesAt ok w u2 p.2
  | .bucket h t => ∃ b tv, v = .iface q.tb (.pointer (some ⟨b, 0, none⟩)) /\ CellAt ok w b 0 (.int .u64 (h : Nat)) /\ CellAt ok w b 1 tv /\ TreeAt ok w tv t
  | .branch m kids => ∃ b g o c, v = .iface q.tr (.pointer (some ⟨b, 0, none⟩)) /\ CellAt ok w b 0 (.int .u32 (m : Nat)) /\ CellAt ok w b 1 (.slice (some ⟨g, o, none⟩) kids.length c) /\
      CellAt ok w b 2 (.int .i64 (Bw.N.countL kids : Nat)) /\ kids.length <= c /\ c <= maxLen /\ KidsAt q ok w g o kids
def KidsAt (q : NT) (ok : Nat -> Prop) (w : World) (g o : Nat) : List Bw.N -> Prop
  | [] => True
  | k :: r => (∃ v, CellAt ok w g o v /\ NodeAt q ok w v k) /\ KidsAt q ok w g (o + 1) r
end
theorem NodeAt.move {q : NT} {ok ok' : Nat -> Prop} {w w' : World} (hm : Moves ok ok' w w') (n : Bw.N) : ∀ v, NodeAt q ok w v n -> NodeAt q ok' w' v n := by
  refine Bw.N.ind (P := fun n => ∀ v, NodeAt q ok w v n -> NodeAt q ok' w' v n) ?_ ?_ ?_ n
  · rintro h p v hv
    simp only [NodeAt] at hv ⊢
    obtain ⟨b, u1, u2, rfl, h0, h1, h2, k1, k2⟩ := hv
    exact ⟨b, u1, u2, rfl, h0.move hm, h1.move hm, h2.move hm, k1.move goodByte hm, k2.move goodByte hm⟩
  · rintro h t v hv
    simp only [NodeAt] at hv ⊢
    obtain ⟨b, tv, rfl, h0, h1, ht⟩ := hv
    exact ⟨b, tv, rfl, h0.move hm, h1.move hm, ht.move hm⟩
  · rintro m kids ih v hv
    simp only [NodeAt] at hv ⊢
    obtain ⟨b, g, o, c, rfl, h0, h1, h2, hl, hc, hk⟩ := hv
    refine ⟨b, g, o, c, rfl, h0.move hm, h1.move hm, h2.move hm, hl, hc, ?_⟩
    clear h0 h1 h2 hl hc
    induction kids generalizing o with
    | nil => simp only [KidsAt]
    | cons k r ihr =>
      simp only [KidsAt] at hk ⊢
      obtain ⟨⟨u, hu, hn⟩, hr⟩ := hk
      exact ⟨⟨u, hu.move hm, ih k (by simp) u hn⟩, ihr (fun k hk => ih k (by simp [hk])) _ hr⟩
theorem NodeAt.form {q : NT} {ok : Nat -> Prop} {w : World} {v : Value} {n : Bw.N} (h : NodeAt q ok w v n) : ∃ t b, v = .iface t (.pointer (some ⟨b, 0, none⟩)) := by
  cases n <;> simp only [NodeAt] at h
  · obtain ⟨b, _, _, rfl, _⟩ := h; exact ⟨_, _, rfl⟩
  · obtain ⟨b, _, rfl, _⟩ := h; exact ⟨_, _, rfl⟩
  · obtain ⟨b, _, _, _, rfl, _⟩ := h; exact ⟨_, _, rfl⟩
def ONodeAt (q : NT) (ok : Nat -> Prop) (w : World) (v : Value) : Option Bw.N -> Prop
  | none => v = .nilIface
  | some n => NodeAt q ok w v n
theorem ONodeAt.move {q : NT} {ok ok' : Nat -> Prop} {w w' : World} (hm : Moves ok ok' w w') {v : Value} {n : Option Bw.N} (h : ONodeAt q ok w v n) : ONodeAt q ok' w' v n := by
  cases n with
  | none => exact h
  | some n => exact NodeAt.move hm n v h
def nodeK (q : NT) : Knd (Option Bw.N) := fun ok w n cs => ∃ v, cs = [v] /\ ONodeAt q ok w v n
theorem goodNode (q : NT) : Good 1 (nodeK q) where
  len := by rintro ok w x cs ⟨v, rfl, _⟩; rfl
  one := by
    rintro ok w x cs ⟨v, rfl, h⟩ u hu
    simp only [List.mem_singleton] at hu
    subst hu
    cases x with
    | none => cases h; rfl
    | some n => obtain ⟨t, b, rfl⟩ := NodeAt.form h; rfl
  move := by
    rintro ok ok' w w' x cs hm ⟨v, rfl, h⟩
    exact ⟨v, rfl, h.move hm⟩
abbrev NodesAt (q : NT) := RowAt 1 (nodeK q)
theorem kids_of_row {q : NT} {ok : Nat -> Prop} {w : World} {g o : Nat} {kids : List Bw.N} (h : ∀ j x, (kids.map some)[j]? = some x -> ∃ cs, nodeK q ok w x cs /\ ∀ i u, cs[i]? = some u -> CellAt ok w g (o + (j * 1 + i)) u) : KidsAt q ok w g o kids := by
  induction kids generalizing o with
  | nil => simp only [KidsAt]
  | cons k r ih =>
    simp only [KidsAt]
    refine ⟨?_, ih fun j x hj => ?_⟩
    · obtain ⟨cs, ⟨v, rfl, hv⟩, hc⟩ := h 0 (some k) rfl
      exact ⟨v, by have := hc 0 v rfl; simpa using this, hv⟩
    · obtain ⟨cs, hx, hc⟩ := h (j + 1) x (by simpa using hj)
      refine ⟨cs, hx, fun i u hu => ?_⟩
      have := hc i u hu
      have e : o + ((j + 1) * 1 + i) = o + 1 + (j * 1 + i) := by omega
      rwa [e] at this
theorem row_of_kids {q : NT} {ok : Nat -> Prop} {w : World} {g o : Nat} {kids : List Bw.N} (h : KidsAt q ok w g o kids) : ∀ j x, (kids.map some)[j]? = some x -> ∃ cs, nodeK q ok w x cs /\ ∀ i u, cs[i]? = some u -> CellAt ok w g (o + (j * 1 + i)) u := by
  induction kids generalizing o with
  | nil => intro j x hj; simp at hj
  | cons k r ih =>
    simp only [KidsAt] at h
    obtain ⟨⟨v, hv, hn⟩, hr⟩ := h
    intro j x hj
    cases j with
    | zero =>
      simp only [List.map_cons, List.getElem?_cons_zero, Option.some.injEq] at hj
      subst hj
      refine ⟨[v], ⟨v, rfl, hn⟩, fun i u hu => ?_⟩
      cases i with
      | zero => simp only [List.getElem?_cons_zero, Option.some.injEq] at hu; subst hu; simpa using hv
      | succ i => simp at hu
    | succ j =>
      obtain ⟨cs, hx, hc⟩ := ih hr j x (by simpa using hj)
      refine ⟨cs, hx, fun i u hu => ?_⟩
      have := hc i u hu
      have e : o + ((j + 1) * 1 + i) = o + 1 + (j * 1 + i) := by omega
      rwa [e]
end Go.Bw
/- The library's insertion sort, over arrays, is the plain stable insertion of lists. -/
namespace Bw
open Go.Sort (swp insInner insOuter insertionSort)
section
variable {α : Type} [Inhabited α] (f : α -> PV) (less : α -> α -> Bool) (hless : ∀ x y, less x y = true ↔ lt (f x).1 (f y).1)
end
end Bw
/- Between my rows of the call's own and the library's words for a row that is sorted ('HoldsK', 'sortWorldK'). Over any program. -/
namespace Go.Bw
open Go.RowKit Go.Sort Go.Proofs
structure El (ok : Nat -> Prop) (w : World) where
  u : Value
  v : Value
  p : Bw.PV
  hu : BytesAt ok w u p.1
  hv : BytesAt ok w v p.2
instance (ok : Nat -> Prop) (w : World) : Inhabited (El ok w) := ⟨⟨.slice none 0 0, .slice none 0 0, ([], []), RowAt.nil, RowAt.nil⟩⟩
def El.enc {ok : Nat -> Prop} {w : World} (x : El ok w) : List Value := [x.u, x.v]
def El.cf {ok : Nat -> Prop} {w : World} (x y : El ok w) : Int := Lib.compareBytes x.p.1 y.p.1
theorem El.enc_len {ok : Nat -> Prop} {w : World} (x : El ok w) : x.enc.length = 2 := rfl
theorem El.enc_one {ok : Nat -> Prop} {w : World} (x : El ok w) : ∀ v ∈ x.enc, v.oneCell' = true := by
  intro v hv
  simp only [El.enc, List.mem_cons, List.not_mem_nil, or_false] at hv
  rcases hv with rfl | rfl
  · obtain ⟨A, c, h⟩ := x.hu.form; rw [h]; rfl
  · obtain ⟨A, c, h⟩ := x.hv.form; rw [h]; rfl
theorem els_of_reps {ok : Nat -> Prop} {w : World} {xs : List Bw.PV} {inner : List Value} (h : Reps (pairK ok w) 2 xs inner) :
    ∃ ds : List (El ok w), ds.map El.p = xs /\ ∀ j x, ds[j]? = some x -> (inner.drop (j * 2)).take 2 = x.enc := by
  have key : ∀ j : Fin xs.length, ∃ x : El ok w, x.p = xs[j] /\ (inner.drop (j * 2)).take 2 = x.enc := by
    intro j
    obtain ⟨u, v, hc, hu, hv⟩ := pairK_open (h.2 j xs[j] (List.getElem?_eq_getElem j.isLt))
    exact ⟨⟨u, v, xs[j], hu, hv⟩, rfl, hc⟩
  refine ⟨List.ofFn fun j => Classical.choose (key j), ?_, fun j x hj => ?_⟩
  · apply List.ext_getElem
    · simp
    · intro i h1 h2
      simp only [List.getElem_map, List.getElem_ofFn]
      exact (Classical.choose_spec (key ⟨i, h2⟩)).1
  · have hl : j < xs.length := by
      have := (List.getElem?_eq_some_iff.1 hj).1
      simpa using this
    obtain ⟨_, hx⟩ := List.getElem?_eq_some_iff.1 hj
    simp only [List.getElem_ofFn] at hx
    rw [<- hx]
    exact (Classical.choose_spec (key ⟨j, hl⟩)).2
theorem holds_of_own {ok ok' : Nat -> Prop} {w w0 : World} {base e g n cap : Nat} {inner : List Value} {ds : List (El ok w0)}
    (ho : w.ownsRow base e 2 (.slice (some ⟨g, 0, none⟩) n cap) ds.length inner) (hd : ∀ j x, ds[j]? = some x -> (inner.drop (j * 2)).take 2 = x.enc) : HoldsK El.enc 2 w g 0 ds.toArray := by
  have _ := ok'
  intro t ht
  rw [size_flatK] at ht
  simp only [List.size_toArray] at ht
  have hj : t / 2 < ds.length := by omega
  have hx := hd (t / 2) ds[t / 2] (List.getElem?_eq_getElem hj)
  have hcell := World.ownsRow.cells ho (g := g) rfl t ((ds[t / 2].enc)[t % 2]!) (by
    have h2 : t % 2 < 2 := Nat.mod_lt _ (by omega)
    have hin : t < inner.length := by rw [ho.1]; exact ht
    have : ((inner.drop (t / 2 * 2)).take 2)[t % 2]? = inner[t]? := by
      rw [List.getElem?_take, if_pos h2, List.getElem?_drop]
      congr 1; omega
    rw [<- this, hx]
    have hl : t % 2 < (ds[t / 2].enc).length := by rw [El.enc_len]; exact h2
    rw [List.getElem?_eq_getElem hl]
    simp [hl])
  rw [add_none] at hcell
  refine ⟨?_, ?_⟩
  · rw [get_flatK _ _ _ _ (by simpa using ht)]
    have hg : ds.toArray[t / 2]! = ds[t / 2] := by simp [hj]
    rw [hg]
    exact hcell
  · rcases ho.2 with ⟨h, _⟩ | ⟨g', cap', cur, he, _, hh, _⟩
    · cases h
    · cases he
      simp [World.frozen?, hh]
theorem grown_sortWorld {α : Type} [Inhabited α] {enc : α -> List Value} {w : World} {g : Nat} (hlt : g < w.heap.size) (m : Nat) (d : Array α) (os : Array Obj) : w.grownBy (sortWorldK enc 2 w g 0 m d os) (some g) := by
  have _ := hlt
  refine ⟨rfl, rfl, rfl, ?_, fun k hk hne => ?_⟩
  · simp [sortWorldK, grow, putRowK, putRow, mapBlock]
  · have hkg : g ≠ k := fun e => hne (by rw [e])
    show (((w.heap.modify g _) ++ os)[k]?) = _
    rw [Array.getElem?_append_left (by rw [Array.size_modify]; exact hk), Array.getElem?_modify, if_neg hkg]
theorem el_less {ok : Nat -> Prop} {w : World} (x y : El ok w) : ltOf El.cf x y = true ↔ Bw.lt x.p.1 y.p.1 := by
  unfold ltOf El.cf Bw.lt
  rcases Bw.cmp_range x.p.1 y.p.1 with h | h | h <;> simp [h]
theorem own_of_sorted {ok : Nat -> Prop} {w : World} {base e g n cap m : Nat} {xs : List Bw.PV} (hown : OwnAt e 2 pairK ok w base (.slice (some ⟨g, 0, none⟩) n cap) xs)
    {d : Array (El (fun k => ok k /\ some k ≠ some g) w)} (hs : d.size = xs.length) (os : Array Obj) :
    OwnAt e 2 pairK ok (sortWorldK El.enc 2 w g 0 m d os) base (.slice (some ⟨g, 0, none⟩) n cap) (d.toList.map El.p) /\ w.grownBy (sortWorldK El.enc 2 w g 0 m d os) (some g) := by
  obtain ⟨hok, inner, ho, hr⟩ := hown
  have hlt := (ho.lt g rfl).2
  have hgr : w.grownBy (sortWorldK El.enc 2 w g 0 m d os) (some g) := by
    refine ⟨rfl, rfl, rfl, ?_, fun k hk hne => ?_⟩
    · simp [sortWorldK, grow, putRowK, putRow, mapBlock]
    · have hkg : g ≠ k := fun e => hne (by rw [e])
      show (((w.heap.modify g _) ++ os)[k]?) = _
      rw [Array.getElem?_append_left (by rw [Array.size_modify]; exact hk), Array.getElem?_modify, if_neg hkg]
  rcases ho.2 with ⟨h, _⟩ | ⟨g', cap', cur, he, hbg, hh, hnc, hcm, hcs, ht⟩
  · cases h
  · cases he
    refine ⟨⟨hok, (flatK El.enc 2 d).toList, ⟨?_, .inr ⟨g, cap, putCells id 0 (flatK El.enc 2 d) cur, ?_, hbg, ?_, ?_, hcm, ?_, ?_⟩⟩, ?_, ?_⟩, hgr⟩
    · simp
    · simp [hs]
    · show (((w.heap.modify g (onCells (putCells id 0 (flatK El.enc 2 d)))) ++ os)[g]?) = _
      rw [Array.getElem?_append_left (by rw [Array.size_modify]; exact hlt), Array.getElem?_modify, if_pos rfl, hh]
      rfl
    · simp [hs]; exact hnc
    · simp [putCells, hcs]
    · have hsz : (flatK El.enc 2 d).size = d.size * 2 := size_flatK _ _ _
      have hle : d.size * 2 <= cur.size := by rw [hcs, hs]; exact Nat.mul_le_mul_right _ hnc
      apply List.ext_getElem
      · simp [putCells]; omega
      · intro i h1 h2
        have hi : i < d.size * 2 := by simpa using h2
        simp only [List.getElem_take, Array.getElem_toList, putCells, Array.getElem_mapIdx, Nat.zero_add, Nat.sub_zero]
        rw [if_pos ⟨Nat.zero_le _, by rw [hsz]; exact hi⟩]
        simp [hi]
    · simp
    · intro j x hj
      rw [List.getElem?_map, Option.map_eq_some_iff] at hj
      obtain ⟨y, hy, rfl⟩ := hj
      obtain ⟨hjl, hy'⟩ := List.getElem?_eq_some_iff.1 hy
      have hjd : j < d.size := by simpa using hjl
      have hc : ((flatK El.enc 2 d).toList.drop (j * 2)).take 2 = y.enc := by
        apply List.ext_getElem
        · simp [El.enc]; omega
        · intro i h1 h2
          have hi2 : i < 2 := by simpa [El.enc] using h2
          have ht : j * 2 + i < d.size * 2 := by omega
          simp only [List.getElem_take, List.getElem_drop, Array.getElem_toList]
          have e1 : (flatK El.enc 2 d)[j * 2 + i]'(by rw [size_flatK]; exact ht) = (flatK El.enc 2 d)[j * 2 + i]! := by simp [ht]
          rw [e1, get_flatK _ _ _ _ ht]
          have e2 : (j * 2 + i) / 2 = j := by omega
          have e3 : (j * 2 + i) % 2 = i := by omega
          have e4 : d[j]! = y := by rw [<- hy']; simp [hjd]
          rw [e2, e3, e4]
          simp [h2]
      rw [hc]
      have mv : Moves (fun k => ok k /\ some k ≠ some g) (fun k => ok k /\ some k ≠ (Value.slice (some ⟨g, 0, none⟩) xs.length cap).ownBlock) w (sortWorldK El.enc 2 w g 0 m d os) :=
        fun k hk hl => ⟨hk, hgr.block k hl hk.2⟩
      exact pairK_mk (y.hu.move goodByte mv) (y.hv.move goodByte mv)
end Go.Bw
/- Sets of the numbers from 0 to 31, as plain data: how many bits, by tables, by sums in words. -/
namespace Bw
def ones : Nat -> Nat -> Nat
  | 0, _ => 0
  | n + 1, m => m % 2 + ones n (m / 2)
theorem ones_le : ∀ n m, ones n m <= n
  | 0, _ => Nat.le_refl _
  | n + 1, m => by have := ones_le n (m / 2); simp only [ones]; omega
theorem ones_zero : ∀ n, ones n 0 = 0
  | 0 => rfl
  | n + 1 => by simp [ones, ones_zero n]
theorem ones_add : ∀ a b m, ones (a + b) m = ones a m + ones b (m / 2 ^ a)
  | 0, b, m => by simp [ones]
  | a + 1, b, m => by
    rw [show a + 1 + b = (a + b) + 1 by omega]
    simp only [ones]
    rw [ones_add a b (m / 2), Nat.div_div_eq_div_mul, <- Nat.pow_succ']
    simp only [Nat.succ_eq_add_one]
    omega
theorem ones_mod : ∀ a m, ones a (m % 2 ^ a) = ones a m
  | 0, m => rfl
  | a + 1, m => by
    have h1 : m % 2 ^ (a + 1) % 2 = m % 2 := Nat.mod_mod_of_dvd _ ⟨2 ^ a, by rw [Nat.pow_succ']⟩
    have h2 : m % 2 ^ (a + 1) / 2 = m / 2 % 2 ^ a := by rw [Nat.pow_succ', Nat.mod_mul_right_div_self]
    simp only [ones, h1, h2, ones_mod a (m / 2)]
theorem ones_eq (n m : Nat) : ones n m = ((List.range n).filter (m.testBit ·)).length := by
  induction n generalizing m with
  | zero => rfl
  | succ n ih =>
    simp only [ones, ih]
    have e : (fun x => m.testBit x) ∘ Nat.succ = fun x => (m / 2).testBit x := by funext x; simp [Nat.testBit_succ]
    rw [List.range_succ_eq_map, List.filter_cons, List.filter_map, e]
    rw [Nat.testBit_zero]
    split
    · rename_i h
      have h := of_decide_eq_true h
      rw [List.length_cons, List.length_map, h]; omega
    · rename_i h
      have h : m % 2 = 0 := by
        have : ¬ m % 2 = 1 := fun e => h (decide_eq_true e)
        omega
      rw [List.length_map, h]; omega
theorem ones_low {i k : Nat} (m : Nat) (h : i <= k) : ones k (m % 2 ^ i) = ones i m := by
  obtain ⟨d, rfl⟩ := Nat.exists_eq_add_of_le h
  rw [ones_add, ones_mod, Nat.div_eq_of_lt (Nat.mod_lt _ (Nat.two_pow_pos i)), ones_zero, Nat.add_zero]
theorem length_bitsOf (m : Nat) : (bitsOf m).length = ones 32 m := (ones_eq 32 m).symm
theorem bitsOf_split (m c : Nat) (h : c <= 32) : bitsOf m = (List.range c).filter (m.testBit ·) ++ ((List.range (32 - c)).map (c + ·)).filter (m.testBit ·) := by
  have e : List.range 32 = List.range c ++ (List.range (32 - c)).map (c + ·) := by rw [<- List.range_add]; congr 1; omega
  rw [bitsOf, e, List.filter_append]
theorem bitsOf_at (m c : Nat) (h : c < 32) (ht : m.testBit c = true) : (bitsOf m)[ones c m]? = some c := by
  rw [bitsOf_split m c (by omega), ones_eq, List.getElem?_append_right (Nat.le_refl _), Nat.sub_self]
  obtain ⟨d, hd⟩ : ∃ d, 32 - c = d + 1 := ⟨31 - c, by omega⟩
  rw [hd, List.range_succ_eq_map, List.map_cons, List.filter_cons]
  simp [ht]
theorem ones_bytes (m : Nat) : ones 32 m = ones 8 (m / 16777216) + ones 8 (m / 65536 % 256) + ones 8 (m / 256 % 256) + ones 8 (m % 256) := by
  rw [show (32 : Nat) = 8 + (8 + (8 + 8)) from rfl, ones_add, ones_add, ones_add, Nat.div_div_eq_div_mul, Nat.div_div_eq_div_mul]
  have h (x : Nat) : ones 8 (x % 256) = ones 8 x := ones_mod 8 x
  rw [h, h, h]
  simp only [show (2 : Nat) ^ 8 = 256 from rfl, show (256 * 256 : Nat) = 65536 from rfl, show (65536 * 256 : Nat) = 16777216 from rfl]
  omega
theorem and_byte (a b c d : Nat) (hb : b < 256) (hd : d < 256) : (a * 256 + b) &&& (c * 256 + d) = (a &&& c) * 256 + (b &&& d) := by
  have h1 : b &&& d < 256 := Nat.and_lt_two_pow b (n := 8) hd
  apply Nat.eq_of_testBit_eq
  intro i
  have e (x y : Nat) (hy : y < 256) : (x * 256 + y).testBit i = if i < 8 then y.testBit i else x.testBit (i - 8) := by
    rw [Nat.mul_comm]; exact Nat.testBit_two_pow_mul_add (i := 8) x hy i
  rw [Nat.testBit_and, e a b hb, e c d hd, e _ _ h1]
  split
  · rw [Nat.testBit_and]
  · rw [Nat.testBit_and]
theorem byte1 : ∀ b : Fin 256, ∀ e : Fin 2, ((e.val * 128 + b.val / 2) &&& 85) = (b.val / 2 &&& 85) := by decide +kernel
theorem byte2 : ∀ b : Fin 256, ∀ e : Fin 4, ((e.val * 64 + b.val / 4) &&& 51) = (b.val / 4 &&& 51) := by decide +kernel
def w1 (k x : Nat) : Nat := (x / 2 &&& k) + (x &&& k)
def w2 (k x : Nat) : Nat := (x / 4 &&& k) + (x &&& k)
def w3 (k x : Nat) : Nat := (x / 16 + x) &&& k
theorem w1_step (a b c : Nat) (hb : b < 256) : w1 (c * 256 + 85) (a * 256 + b) = w1 c a * 256 + w1 85 b := by
  have e : (a * 256 + b) / 2 = (a / 2) * 256 + (a % 2 * 128 + b / 2) := by omega
  unfold w1
  rw [e, and_byte _ _ _ _ (by omega) (by decide), and_byte _ _ _ _ hb (by decide)]
  have := byte1 ⟨b, hb⟩ ⟨a % 2, Nat.mod_lt _ (by decide)⟩
  simp only at this
  rw [this]; omega
theorem w2_step (a b c : Nat) (hb : b < 256) : w2 (c * 256 + 51) (a * 256 + b) = w2 c a * 256 + w2 51 b := by
  have e : (a * 256 + b) / 4 = (a / 4) * 256 + (a % 4 * 64 + b / 4) := by omega
  unfold w2
  rw [e, and_byte _ _ _ _ (by omega) (by decide), and_byte _ _ _ _ hb (by decide)]
  have := byte2 ⟨b, hb⟩ ⟨a % 4, Nat.mod_lt _ (by decide)⟩
  simp only at this
  rw [this]; omega
theorem w_byte : ∀ b : Fin 256, w1 85 b.val < 256 /\ w2 51 (w1 85 b.val) < 69 /\ w2 51 (w1 85 b.val) % 16 < 5 /\ ((w2 51 (w1 85 b.val) / 16 + w2 51 (w1 85 b.val)) &&& 15) = ones 8 b.val := by decide +kernel
theorem byte3 : ∀ b : Fin 69, ∀ e : Fin 5, b.val % 16 < 5 -> ((e.val * 16 + b.val / 16 + b.val) &&& 15) = ((b.val / 16 + b.val) &&& 15) := by decide +kernel
theorem w3_step (a b c : Nat) (hb : b < 69) (hb2 : b % 16 < 5) (ha : a % 16 < 5) : w3 (c * 256 + 15) (a * 256 + b) = w3 c a * 256 + ((b / 16 + b) &&& 15) := by
  have e : (a * 256 + b) / 16 + (a * 256 + b) = (a / 16 + a) * 256 + (a % 16 * 16 + b / 16 + b) := by omega
  unfold w3
  rw [e, and_byte _ _ _ _ (by omega) (by decide)]
  have := byte3 ⟨b, hb⟩ ⟨a % 16, ha⟩ hb2
  simp only at this
  rw [this]
theorem words (m : Nat) (hm : m < 4294967296) :
    w3 1085102592571150095 (w2 3689348814741910323 (w1 6148914691236517205 m)) = ((ones 8 (m / 16777216) * 256 + ones 8 (m / 65536 % 256)) * 256 + ones 8 (m / 256 % 256)) * 256 + ones 8 (m % 256) := by
  obtain ⟨b3, h3, e3⟩ : ∃ b, b < 256 /\ b = m / 16777216 := ⟨_, by omega, rfl⟩
  obtain ⟨b2, h2, e2⟩ : ∃ b, b < 256 /\ b = m / 65536 % 256 := ⟨_, by omega, rfl⟩
  obtain ⟨b1, h1, e1⟩ : ∃ b, b < 256 /\ b = m / 256 % 256 := ⟨_, by omega, rfl⟩
  obtain ⟨b0, h0, e0⟩ : ∃ b, b < 256 /\ b = m % 256 := ⟨_, by omega, rfl⟩
  have em : m = (((0 * 256 + b3) * 256 + b2) * 256 + b1) * 256 + b0 := by omega
  rw [<- e3, <- e2, <- e1, <- e0, em]
  have z1 (k : Nat) : w1 k 0 = 0 := by simp [w1]
  have z2 (k : Nat) : w2 k 0 = 0 := by simp [w2]
  have z3 (k : Nat) : w3 k 0 = 0 := by simp [w3]
  rw [show 6148914691236517205 = (((1431655765 * 256 + 85) * 256 + 85) * 256 + 85) * 256 + 85 from rfl, w1_step _ _ _ h0, w1_step _ _ _ h1, w1_step _ _ _ h2, w1_step _ _ _ h3, z1]
  obtain ⟨p0, q0, r0, s0⟩ := w_byte ⟨b0, h0⟩
  obtain ⟨p1, q1, r1, s1⟩ := w_byte ⟨b1, h1⟩
  obtain ⟨p2, q2, r2, s2⟩ := w_byte ⟨b2, h2⟩
  obtain ⟨p3, q3, r3, s3⟩ := w_byte ⟨b3, h3⟩
  simp only at p0 q0 r0 s0 p1 q1 r1 s1 p2 q2 r2 s2 p3 q3 r3 s3
  rw [show 3689348814741910323 = (((858993459 * 256 + 51) * 256 + 51) * 256 + 51) * 256 + 51 from rfl, w2_step _ _ _ p0, w2_step _ _ _ p1, w2_step _ _ _ p2, w2_step _ _ _ p3, z2]
  rw [show 1085102592571150095 = (((252645135 * 256 + 15) * 256 + 15) * 256 + 15) * 256 + 15 from rfl, w3_step _ _ _ q0 r0 (by omega), w3_step _ _ _ q1 r1 (by omega), w3_step _ _ _ q2 r2 (by omega), w3_step _ _ _ q3 r3 (by omega), z3, s0, s1, s2, s3]
  omega
end Bw
/- More of what lies in memory. -/
namespace Go.Bw
open Go.RowKit
theorem RowAt.newsG {α : Type} {sz : Nat} {d : Knd α} (hd : Good sz d) {ok : Nat -> Prop} {w : World} {b o n c : Nat} {xs : List α} (h : RowAt sz d ok w (.slice (some ⟨b, o, none⟩) n c) xs) :
    ∀ k, k <= xs.length -> ∃ news, Reps (d ok w) sz (xs.take k) news /\ ∀ j u, news[j]? = some u -> ok b /\ w.cell? ⟨b, o + j, none⟩ = some u := by
  intro k
  induction k with
  | zero => intro _; exact ⟨[], by rw [List.take_zero]; exact Reps.nil _ _, fun j u hj => by simp at hj⟩
  | succ k ih =>
    intro hk
    obtain ⟨news, hr, hc⟩ := ih (by omega)
    have hlt : k < xs.length := by omega
    obtain ⟨b', o', cs, he, hx, hcs⟩ := h.get (List.getElem?_eq_getElem hlt)
    cases he
    have hl : news.length = k * sz := by rw [hr.1, List.length_take, Nat.min_eq_left (by omega)]
    refine ⟨news ++ cs, by rw [take_succ_snoc hlt]; exact hr.append (Reps.one hx (hd.len hx)), fun j u hj => ?_⟩
    rcases Nat.lt_or_ge j news.length with hj' | hj'
    · rw [List.getElem?_append_left hj'] at hj
      exact hc j u hj
    · rw [List.getElem?_append_right hj'] at hj
      have := hcs _ u hj
      rw [show o + (k * sz + (j - news.length)) = o + j by omega] at this
      exact this
theorem RowAt.news_all {α : Type} {sz : Nat} {d : Knd α} (hd : Good sz d) {ok : Nat -> Prop} {w : World} {b o n c : Nat} {xs : List α} (h : RowAt sz d ok w (.slice (some ⟨b, o, none⟩) n c) xs) :
    ∃ news, Reps (d ok w) sz xs news /\ ∀ j u, news[j]? = some u -> ok b /\ w.cell? ⟨b, o + j, none⟩ = some u := by
  have := h.newsG hd xs.length (Nat.le_refl _)
  rwa [List.take_length] at this
theorem Reps.move {α : Type} {sz : Nat} {d : Knd α} (hd : Good sz d) {ok ok' : Nat -> Prop} {w w' : World} {xs : List α} {cs : List Value} (hm : Moves ok ok' w w') (h : Reps (d ok w) sz xs cs) : Reps (d ok' w') sz xs cs :=
  h.imp fun _ _ => hd.move hm
theorem RowAt.weaken {α : Type} {sz : Nat} {d : Knd α} (hd : Good sz d) {ok ok' : Nat -> Prop} {w : World} {v : Value} {xs : List α} (h : RowAt sz d ok w v xs) (hk : ∀ k, ok k -> ok' k) : RowAt sz d ok' w v xs :=
  h.move hd (Moves.weaken fun k h _ => hk k h)
theorem cell_new (w : World) (n : Nat) (cs : Array Value) (e : TypeId) (i : Nat) (v : Value) (h : cs[i]? = some v) : ((w.alloc (.cells cs e)).drewN n).cell? ⟨w.heap.size, i, none⟩ = some v := by
  show (w.alloc (.cells cs e)).cell? ⟨w.heap.size, i, none⟩ = some v
  unfold World.cell?
  simp only [heap_alloc_new w (.cells cs e)]
  exact h
end Go.Bw
/- What the document has for a node, in memory: five cells. Strings, numbers. Plans in memory. Over any program. -/
namespace Go.Bw
open Go.RowKit
def str (b : Bw.Bytes) : Value := .string ⟨b.toArray⟩
abbrev strK : Knd Bw.Bytes := immK str
theorem goodStr : _root_.Go.Bw.Good 1 strK := Good.imm (fun _ => rfl)
abbrev spK : Knd Bw.PV := prK strK strK
theorem goodSp : _root_.Go.Bw.Good 2 spK := goodStr.pr goodStr
abbrev SPairsAt := RowAt 2 spK
theorem spK_open {ok : Nat -> Prop} {w : World} {p : Bw.PV} {cs : List Value} (h : spK ok w p cs) : cs = [str p.1, str p.2] := by
  obtain ⟨a, b, rfl, rfl, rfl⟩ := h
  rfl
theorem spK_mk {ok : Nat -> Prop} {w : World} {p : Bw.PV} : spK ok w p [str p.1, str p.2] := ⟨[str p.1], [str p.2], rfl, rfl, rfl⟩
theorem sp_get {ok : Nat -> Prop} {w : World} {A : Option Addr} {n c j : Nat} {xs : List Bw.PV} {p : Bw.PV} (h : SPairsAt ok w (.slice A n c) xs) (hj : xs[j]? = some p) :
    ∃ b o, A = some ⟨b, o, none⟩ /\ ok b /\ w.cell? ⟨b, o + j * 2, none⟩ = some (str p.1) /\ w.cell? ⟨b, o + j * 2 + 1, none⟩ = some (str p.2) := by
  obtain ⟨b, o, cs, rfl, hx, hc⟩ := h.get hj
  obtain rfl := spK_open hx
  exact ⟨b, o, rfl, (hc 0 _ rfl).1, (hc 0 _ rfl).2, (hc 1 _ rfl).2⟩
def encN (n : Nat) : Value := .int .i64 (n : Nat)
abbrev natK : Knd Nat := immK encN
theorem goodNat : _root_.Go.Bw.Good 1 natK := Good.imm (fun _ => rfl)
abbrev NatsAt := RowAt 1 natK
mutual
def XAt (ok : Nat -> Prop) (w : World) (cs : List Value) : Bw.X -> Prop
  | .mk k h ps set kids => ∃ vp vs A c, cs = [.int .i64 (k : Nat), .int .u64 (h : Nat), vp, vs, .slice A kids.length c] /\ SPairsAt ok w vp ps /\ NatsAt ok w vs set /\
      kids.length <= c /\ c <= maxLen /\ (A = none -> c = 0) /\ (∀ ad, A = some ad -> kids ≠ [] -> ad.spot = none) /\ XKidsAt ok w A 0 kids
def XKidsAt (ok : Nat -> Prop) (w : World) (A : Option Addr) (o : Nat) : List Bw.X -> Prop
  | [] => True
  | y :: r => (∃ ad cs, A = some ad /\ XAt ok w cs y /\ ∀ i u, cs[i]? = some u -> CellAt ok w ad.block (ad.off + (o + i)) u) /\ XKidsAt ok w A (o + 5) r
end
def xK : Knd Bw.X := fun ok w x cs => XAt ok w cs x
theorem xkids_iff {ok : Nat -> Prop} {w : World} {A : Option Addr} {kids : List Bw.X} : ∀ o, XKidsAt ok w A o kids ↔ ∀ j x, kids[j]? = some x -> ∃ ad cs, A = some ad /\ xK ok w x cs /\ ∀ i u, cs[i]? = some u -> CellAt ok w ad.block (ad.off + (o + (j * 5 + i))) u := by
  induction kids with
  | nil => intro o; simp [XKidsAt]
  | cons k r ih =>
    intro o
    simp only [XKidsAt]
    constructor
    · rintro ⟨h1, h2⟩ j x hj
      cases j with
      | zero =>
        simp only [List.getElem?_cons_zero, Option.some.injEq] at hj
        subst hj
        obtain ⟨ad, cs, e, hx, hc⟩ := h1
        exact ⟨ad, cs, e, hx, fun i u hu => by simpa using hc i u hu⟩
      | succ j =>
        obtain ⟨ad, cs, e, hx, hc⟩ := (ih (o + 5)).1 h2 j x (by simpa using hj)
        refine ⟨ad, cs, e, hx, fun i u hu => ?_⟩
        have := hc i u hu
        rwa [show o + 5 + (j * 5 + i) = o + ((j + 1) * 5 + i) by omega] at this
    · intro h
      refine ⟨?_, (ih (o + 5)).2 fun j x hj => ?_⟩
      · obtain ⟨ad, cs, e, hx, hc⟩ := h 0 k rfl
        exact ⟨ad, cs, e, hx, fun i u hu => by simpa using hc i u hu⟩
      · obtain ⟨ad, cs, e, hx, hc⟩ := h (j + 1) x (by simpa using hj)
        refine ⟨ad, cs, e, hx, fun i u hu => ?_⟩
        have := hc i u hu
        rwa [show o + ((j + 1) * 5 + i) = o + 5 + (j * 5 + i) by omega] at this
theorem xK_iff {ok : Nat -> Prop} {w : World} {k h : Nat} {ps : List Bw.PV} {set : List Nat} {kids : List Bw.X} {cs : List Value} :
    xK ok w (.mk k h ps set kids) cs ↔ ∃ vp vs vk, cs = [.int .i64 (k : Nat), .int .u64 (h : Nat), vp, vs, vk] /\ SPairsAt ok w vp ps /\ NatsAt ok w vs set /\ RowAt 5 xK ok w vk kids := by
  unfold xK
  simp only [XAt]
  constructor
  · rintro ⟨vp, vs, A, c, rfl, h1, h2, h3, h4, h5, h6, h7⟩
    exact ⟨vp, vs, _, rfl, h1, h2, A, c, rfl, h3, h4, h5, h6, fun j x hj => by have := (xkids_iff 0).1 h7 j x hj; simp only [Nat.zero_add] at this; exact this⟩
  · rintro ⟨vp, vs, vk, rfl, h1, h2, A, c, rfl, h3, h4, h5, h6, h7⟩
    exact ⟨vp, vs, A, c, rfl, h1, h2, h3, h4, h5, h6, (xkids_iff 0).2 fun j x hj => by simp only [Nat.zero_add]; exact h7 j x hj⟩
theorem XAt.move {ok ok' : Nat -> Prop} {w w' : World} (hm : Moves ok ok' w w') (x : Bw.X) : ∀ cs, xK ok w x cs -> xK ok' w' x cs := by
  refine Bw.X.ind (P := fun x => ∀ cs, xK ok w x cs -> xK ok' w' x cs) ?_ x
  intro k h p s kids ih cs hc
  rw [xK_iff] at hc ⊢
  obtain ⟨vp, vs, vk, rfl, h1, h2, A, c, rfl, h3, h4, h5, h6, h7⟩ := hc
  refine ⟨vp, vs, _, rfl, h1.move goodSp hm, h2.move goodNat hm, A, c, rfl, h3, h4, h5, h6, fun j x hj => ?_⟩
  obtain ⟨ad, cs, e, hx, hcc⟩ := h7 j x hj
  exact ⟨ad, cs, e, ih x (List.mem_of_getElem? hj) cs hx, fun i u hu => (hcc i u hu).move hm⟩
theorem goodX : _root_.Go.Bw.Good 5 xK where
  len := by
    rintro ok w ⟨k, h, p, s, kids⟩ cs hc
    rw [xK_iff] at hc
    obtain ⟨vp, vs, vk, rfl, _⟩ := hc
    rfl
  one := by
    rintro ok w ⟨k, h, p, s, kids⟩ cs hc u hu
    rw [xK_iff] at hc
    obtain ⟨vp, vs, vk, rfl, h1, h2, h3⟩ := hc
    obtain ⟨_, _, rfl⟩ := h1.form
    obtain ⟨_, _, rfl⟩ := h2.form
    obtain ⟨_, _, rfl⟩ := h3.form
    simp only [List.mem_cons, List.not_mem_nil, or_false] at hu
    rcases hu with rfl | rfl | rfl | rfl | rfl <;> rfl
  move := by
    intro ok ok' w w' x cs hm h
    exact XAt.move hm x cs h
theorem xK_zero {ok : Nat -> Prop} {w : World} : xK ok w .zero [.int .i64 0, .int .u64 0, .slice none 0 0, .slice none 0 0, .slice none 0 0] :=
  xK_iff.2 ⟨_, _, _, rfl, RowAt.nil, RowAt.nil, RowAt.nil⟩
def encI (n : Int) : Value := .int .i64 n
abbrev intK : Knd Int := immK encI
theorem goodInt : _root_.Go.Bw.Good 1 intK := Good.imm (fun _ => rfl)
abbrev AllB : Nat -> Prop := fun _ => True
end Go.Bw
namespace Go.Bw
open Go.RowKit
theorem gB1 {B : Nat} {a w : World} (h : Below B a w := by (repeat (first | exact Below.refl _ _ | with_reducible assumption | refine Below.drew ?_ | (refine Below.alloc ?_ (by simp) _) | (refine Below.alloc ?_ (by simp; omega) _)))) : Below B a w := h
theorem gB2 {B : Nat} {a w : World} (h : Below B a w := by (repeat (first | exact Below.refl _ _ | with_reducible assumption | refine Below.drew ?_ | refine b_drewN ?_ _ | (refine Below.alloc ?_ (by simp) _) | (refine Below.alloc ?_ (by simp; omega) _)))) : Below B a w := h
theorem gB3 {B : Nat} {a w : World} (h : Below B a w := by (repeat (first | exact Below.refl _ _ | with_reducible assumption | refine Below.drew ?_ | refine b_drewN ?_ _ | (refine Below.alloc ?_ (by first | omega | (simp <;> omega)) _)))) : Below B a w := h
theorem gB4 {B : Nat} {a w : World} (h : Below B a w := by (repeat (first | exact Below.refl _ _ | with_reducible assumption | refine Below.drew ?_ | refine b_drewN ?_ _ | (refine Below.setCell ?_ (by first | omega | (simp <;> omega)) _) | (refine Below.alloc ?_ (by first | omega | (simp <;> omega)) _)))) : Below B a w := h
theorem gB5 {B : Nat} {a w : World} (h : Below B a w := by (repeat (first | with_reducible exact Below.refl _ _ | with_reducible assumption | with_reducible refine Below.setCell ?_ (by first | omega | (simp <;> omega)) _ | with_reducible refine Below.drew ?_ | with_reducible refine b_drewN ?_ _ | with_reducible refine Below.alloc ?_ (by first | omega | (simp <;> omega)) _))) : Below B a w := h
end Go.Bw
