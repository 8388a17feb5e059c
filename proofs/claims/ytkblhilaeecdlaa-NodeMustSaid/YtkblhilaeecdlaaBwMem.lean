/- What lies in memory: rows, bytes, pairs; each predicate tells the blocks that it looks at ('ok'). Over any program. -/
import Derived.WalkKit
import Derived.WalkSpells
import Derived.Deep.DeepAppendWide
import Derived.Deep.Draws
import Derived.Maps.AppendAt
import Derived.Test.YtkblhilaeecdlaaBwModel
namespace Go.Bw
open Go.RowKit

/-- What the cells of an element say, of the blocks of 'ok' alone. -/
abbrev Knd (α : Type) := (Nat → Prop) → World → α → List Value → Prop

/-- From one world to another: the blocks that are looked at stay, and are let. -/
def Moves (ok ok' : Nat → Prop) (w w' : World) : Prop := ∀ k, ok k → k < w.heap.size → ok' k ∧ w'.heap[k]? = w.heap[k]?

theorem Moves.below {ok : Nat → Prop} {w w' : World} (h : Below w.heap.size w w') : Moves ok ok w w' := fun k hk hl => ⟨hk, h.block k hl⟩
theorem Moves.weaken {ok ok' : Nat → Prop} {w : World} (h : ∀ k, ok k → k < w.heap.size → ok' k) : Moves ok ok' w w := fun k hk hl => ⟨h k hk hl, rfl⟩
theorem Moves.grown {ok : Nat → Prop} {w w' : World} {row : Option Nat} (h : w.grownBy w' row) (hr : ∀ k, ok k → some k ≠ row) : Moves ok ok w w' := fun k hk hl => ⟨hk, h.block k hl (hr k hk)⟩
theorem Moves.drewN {ok : Nat → Prop} (w : World) (n : Nat) : Moves ok ok w (w.drewN n) := fun _ hk _ => ⟨hk, rfl⟩

theorem Moves.trans {ok ok' ok'' : Nat → Prop} {a b c : World} (h : Moves ok ok' a b) (hs : a.heap.size ≤ b.heap.size) (k : Moves ok' ok'' b c) : Moves ok ok'' a c := fun i hi hl => by
  obtain ⟨h1, h2⟩ := h i hi hl
  obtain ⟨k1, k2⟩ := k i h1 (by omega)
  exact ⟨k1, k2.trans h2⟩
theorem Moves.set {ok : Nat → Prop} {w : World} {p : Addr} (u : Value) (h : ∀ k, ok k → k ≠ p.block) : Moves ok ok w (w.setCell p u) := fun k hk _ => ⟨hk, Below.heap_setCell w p u k (h k hk)⟩

theorem Moves.fresh {n m : Nat} {w w' : World} (h : m ≤ n) (hb : Below w.heap.size w w') : Moves (fun k => n ≤ k) (fun k => m ≤ k) w w' := fun k hk hl => ⟨Nat.le_trans h hk, hb.block k hl⟩

theorem b_drewN {B : Nat} {a w : World} (h : Below B a w) (n : Nat) : Below B a (w.drewN n) := ⟨h.os, h.tape, h.output, h.size, h.block⟩

structure Good {α : Type} (sz : Nat) (d : Knd α) : Prop where
  len : ∀ {ok w x cs}, d ok w x cs → cs.length = sz
  one : ∀ {ok w x cs}, d ok w x cs → ∀ u ∈ cs, u.oneCell' = true
  move : ∀ {ok ok' w w' x cs}, Moves ok ok' w w' → d ok w x cs → d ok' w' x cs

/-- A cell of a block of ok. -/
def CellAt (ok : Nat → Prop) (w : World) (b o : Nat) (v : Value) : Prop := ok b ∧ w.cell? ⟨b, o, none⟩ = some v

theorem CellAt.move {ok ok' : Nat → Prop} {w w' : World} {b o : Nat} {v : Value} (hm : Moves ok ok' w w') (h : CellAt ok w b o v) : CellAt ok' w' b o v := by
  have hl := World.block_lt_of_cell? w _ h.2
  obtain ⟨h1, h2⟩ := hm b h.1 hl
  exact ⟨h1, (World.cell?_of_block (w := w) (a := ⟨b, o, none⟩) h2).trans h.2⟩

/-- A slice's elements, each of sz cells. -/
def RowAt {α : Type} (sz : Nat) (d : Knd α) (ok : Nat → Prop) (w : World) (v : Value) (xs : List α) : Prop :=
  ∃ A c, v = .slice A xs.length c ∧ xs.length ≤ c ∧ c ≤ maxLen ∧ (A = none → c = 0) ∧ (∀ ad, A = some ad → xs ≠ [] → ad.spot = none) ∧
    ∀ j x, xs[j]? = some x → ∃ ad cs, A = some ad ∧ d ok w x cs ∧ ∀ i u, cs[i]? = some u → CellAt ok w ad.block (ad.off + (j * sz + i)) u

theorem RowAt.move {α : Type} {sz : Nat} {d : Knd α} (hd : Good sz d) {ok ok' : Nat → Prop} {w w' : World} {v : Value} {xs : List α} (hm : Moves ok ok' w w') (h : RowAt sz d ok w v xs) : RowAt sz d ok' w' v xs := by
  obtain ⟨A, c, h1, h2, h3, h4, h5, h6⟩ := h
  refine ⟨A, c, h1, h2, h3, h4, h5, fun j x hj => ?_⟩
  obtain ⟨ad, cs, e, hx, hc⟩ := h6 j x hj
  exact ⟨ad, cs, e, hd.move hm hx, fun i u hu => (hc i u hu).move hm⟩

theorem RowAt.form {α : Type} {sz : Nat} {d : Knd α} {ok : Nat → Prop} {w : World} {v : Value} {xs : List α} (h : RowAt sz d ok w v xs) : ∃ A c, v = .slice A xs.length c := by
  obtain ⟨A, c, e, _⟩ := h
  exact ⟨A, c, e⟩

theorem RowAt.nil {α : Type} {sz : Nat} {d : Knd α} {ok : Nat → Prop} {w : World} : RowAt sz d ok w (.slice none 0 0) [] :=
  ⟨none, 0, rfl, Nat.le_refl _, Nat.zero_le _, fun _ => rfl, (fun _ h => by cases h), (fun j x h => by simp at h)⟩

theorem RowAt.take {α : Type} {sz : Nat} {d : Knd α} {ok : Nat → Prop} {w : World} {A : Option Addr} {n c k : Nat} {xs : List α} (h : RowAt sz d ok w (.slice A n c) xs) (hk : k ≤ xs.length) : RowAt sz d ok w (.slice A k c) (xs.take k) := by
  obtain ⟨A', c', e, h2, h3, h4, h5, h6⟩ := h
  injection e with e1 e2 e3
  subst e1; subst e3
  refine ⟨A, c, by rw [List.length_take, Nat.min_eq_left hk], by rw [List.length_take]; omega, h3, h4, (fun ad h hne => h5 ad h (by rintro rfl; simp at hne)), fun j x hj => ?_⟩
  rw [List.getElem?_take] at hj
  split at hj
  · exact h6 j x hj
  · cases hj

theorem RowAt.drop {α : Type} {sz : Nat} {d : Knd α} {ok : Nat → Prop} {w : World} {b o n c k : Nat} {xs : List α} (h : RowAt sz d ok w (.slice (some ⟨b, o, none⟩) n c) xs) (hk : k ≤ xs.length) :
    RowAt sz d ok w (.slice (some ⟨b, o + k * sz, none⟩) (n - k) (c - k)) (xs.drop k) := by
  obtain ⟨A', c', e, h2, h3, h4, h5, h6⟩ := h
  injection e with e1 e2 e3
  subst e1; subst e2; subst e3
  refine ⟨_, _, by rw [List.length_drop], by rw [List.length_drop]; omega, by omega, (fun h => by cases h), (fun ad h _ => by cases h; rfl), fun j x hj => ?_⟩
  rw [List.getElem?_drop] at hj
  obtain ⟨ad, cs, e, hx, hc⟩ := h6 _ x hj
  cases e
  refine ⟨_, cs, rfl, hx, fun i u hu => ?_⟩
  have := hc i u hu
  have e : o + k * sz + (j * sz + i) = o + ((k + j) * sz + i) := by rw [Nat.add_mul]; omega
  show CellAt ok w b (o + k * sz + (j * sz + i)) u
  rw [e]; exact this

theorem RowAt.empty {α : Type} {sz : Nat} {d : Knd α} {ok : Nat → Prop} {w : World} {b o c : Nat} (hc : c ≤ maxLen) : RowAt sz d ok w (.slice (some ⟨b, o, none⟩) 0 c) [] :=
  ⟨_, _, rfl, Nat.zero_le _, hc, (fun h => by cases h), (fun ad h _ => by cases h; rfl), fun j x hj => by simp at hj⟩

theorem RowAt.get {α : Type} {sz : Nat} {d : Knd α} {ok : Nat → Prop} {w : World} {A : Option Addr} {n c j : Nat} {xs : List α} {x : α} (h : RowAt sz d ok w (.slice A n c) xs) (hj : xs[j]? = some x) :
    ∃ b o cs, A = some ⟨b, o, none⟩ ∧ d ok w x cs ∧ ∀ i u, cs[i]? = some u → CellAt ok w b (o + (j * sz + i)) u := by
  obtain ⟨A', c', e, h2, h3, h4, h5, h6⟩ := h
  injection e with e1 e2 e3
  subst e1
  obtain ⟨ad, cs, rfl, hx, hc⟩ := h6 j x hj
  have hs := h5 ad rfl (List.ne_nil_of_mem (List.mem_of_getElem? hj))
  obtain ⟨b, o, sp⟩ := ad
  cases hs
  exact ⟨b, o, cs, rfl, hx, hc⟩

/-- Element j of a row of pairs. -/
theorem RowAt.cap {α : Type} {sz : Nat} {d : Knd α} {ok : Nat → Prop} {w : World} {A : Option Addr} {n c : Nat} {xs : List α} (h : RowAt sz d ok w (.slice A n c) xs) : n = xs.length ∧ xs.length ≤ c ∧ c ≤ maxLen := by
  obtain ⟨A', c', e, h2, h3, _⟩ := h
  injection e with e1 e2 e3
  subst e3
  exact ⟨e2, h2, h3⟩

/-- A slice, as an element of one cell. -/
def slK {α : Type} (sz : Nat) (d : Knd α) : Knd (List α) := fun ok w xs cs => ∃ v, cs = [v] ∧ RowAt sz d ok w v xs

theorem Good.slice {α : Type} {sz : Nat} {d : Knd α} (hd : Good sz d) : Good 1 (slK sz d) where
  len := by rintro ok w x cs ⟨v, rfl, _⟩; rfl
  one := by
    rintro ok w x cs ⟨v, rfl, A, c, rfl, _⟩ u hu
    simp only [List.mem_singleton] at hu
    subst hu; rfl
  move := by
    rintro ok ok' w w' x cs hm ⟨v, rfl, h⟩
    exact ⟨v, rfl, h.move hd hm⟩

/-- An element of one cell whose value hangs on no memory. -/
def immK {α : Type} (enc : α → Value) : Knd α := fun _ _ x cs => cs = [enc x]

theorem Good.imm {α : Type} {enc : α → Value} (h : ∀ x, (enc x).oneCell' = true) : Good 1 (immK enc) where
  len := by rintro ok w x cs rfl; rfl
  one := by
    rintro ok w x cs rfl u hu
    simp only [List.mem_singleton] at hu
    subst hu; exact h x
  move := by rintro ok ok' w w' x cs _ h; exact h

/-- Two parts, one behind the other. -/
def prK {α β : Type} (d : Knd α) (f : Knd β) : Knd (α × β) := fun ok w x cs => ∃ a b, cs = a ++ b ∧ d ok w x.1 a ∧ f ok w x.2 b

theorem Good.pr {α β : Type} {s t : Nat} {d : Knd α} {f : Knd β} (hd : Good s d) (hf : Good t f) : Good (s + t) (prK d f) where
  len := by rintro ok w x cs ⟨a, b, rfl, h1, h2⟩; rw [List.length_append, hd.len h1, hf.len h2]
  one := by
    rintro ok w x cs ⟨a, b, rfl, h1, h2⟩ u hu
    rcases List.mem_append.1 hu with hu | hu
    · exact hd.one h1 u hu
    · exact hf.one h2 u hu
  move := by
    rintro ok ok' w w' x cs hm ⟨a, b, rfl, h1, h2⟩
    exact ⟨a, b, rfl, hd.move hm h1, hf.move hm h2⟩

def encB (b : UInt8) : Value := .int .u8 b.toNat
abbrev byteK : Knd UInt8 := immK encB
theorem goodByte : Good 1 byteK := Good.imm (fun _ => rfl)
abbrev BytesAt := RowAt 1 byteK
abbrev bytesK : Knd Bw.Bytes := slK 1 byteK
theorem goodBytes : Good 1 bytesK := goodByte.slice
/-- a pair of two slices of bytes -/
abbrev pairK : Knd Bw.PV := prK bytesK bytesK
theorem goodPair : Good 2 pairK := goodBytes.pr goodBytes
abbrev PairsAt := RowAt 2 pairK

theorem pairK_open {ok : Nat → Prop} {w : World} {p : Bw.PV} {cs : List Value} (h : pairK ok w p cs) : ∃ u v, cs = [u, v] ∧ BytesAt ok w u p.1 ∧ BytesAt ok w v p.2 := by
  obtain ⟨a, b, rfl, ⟨u, rfl, hu⟩, ⟨v, rfl, hv⟩⟩ := h
  exact ⟨u, v, rfl, hu, hv⟩
theorem pairK_mk {ok : Nat → Prop} {w : World} {p : Bw.PV} {u v : Value} (hu : BytesAt ok w u p.1) (hv : BytesAt ok w v p.2) : pairK ok w p [u, v] :=
  ⟨[u], [v], rfl, ⟨u, rfl, hu⟩, ⟨v, rfl, hv⟩⟩

theorem add_none (b o n : Nat) : (⟨b, o, none⟩ : Addr).add n = ⟨b, o + n, none⟩ := by
  unfold Addr.add
  split
  · rename_i h; subst h; rfl
  · rfl

theorem pair_get {ok : Nat → Prop} {w : World} {A : Option Addr} {n c j : Nat} {xs : List Bw.PV} {p : Bw.PV} (h : PairsAt ok w (.slice A n c) xs) (hj : xs[j]? = some p) :
    ∃ b o u v, A = some ⟨b, o, none⟩ ∧ ok b ∧ w.cell? ⟨b, o + j * 2, none⟩ = some u ∧ w.cell? ⟨b, o + j * 2 + 1, none⟩ = some v ∧ BytesAt ok w u p.1 ∧ BytesAt ok w v p.2 := by
  obtain ⟨b, o, cs, rfl, hx, hc⟩ := h.get hj
  obtain ⟨u, v, rfl, hu, hv⟩ := pairK_open hx
  exact ⟨b, o, u, v, rfl, (hc 0 u rfl).1, (hc 0 u rfl).2, (hc 1 v rfl).2, hu, hv⟩

/-! ### rows of the call's own -/
def Reps {α : Type} (R : α → List Value → Prop) (sz : Nat) (xs : List α) (cs : List Value) : Prop :=
  cs.length = xs.length * sz ∧ ∀ j x, xs[j]? = some x → R x ((cs.drop (j * sz)).take sz)

theorem Reps.nil {α : Type} (R : α → List Value → Prop) (sz : Nat) : Reps R sz [] [] := ⟨by simp, fun j x h => by simp at h⟩
theorem Reps.imp {α : Type} {R R' : α → List Value → Prop} {sz : Nat} {xs : List α} {cs : List Value} (h : Reps R sz xs cs) (hR : ∀ x c, R x c → R' x c) : Reps R' sz xs cs := ⟨h.1, fun j x hj => hR _ _ (h.2 j x hj)⟩
theorem Reps.append {α : Type} {R : α → List Value → Prop} {sz : Nat} {xs ys : List α} {cs ds : List Value} (h : Reps R sz xs cs) (k : Reps R sz ys ds) : Reps R sz (xs ++ ys) (cs ++ ds) := by
  refine ⟨by rw [List.length_append, h.1, k.1, List.length_append, Nat.add_mul], fun j x hj => ?_⟩
  rcases Nat.lt_or_ge j xs.length with hl | hl
  · rw [List.getElem?_append_left hl] at hj
    have h1 : j * sz + sz ≤ cs.length := by rw [h.1, ← Nat.succ_mul]; exact Nat.mul_le_mul_right _ hl
    rw [List.drop_append_of_le_length (by omega), List.take_append_of_le_length (by rw [List.length_drop]; omega)]
    exact h.2 j x hj
  · rw [List.getElem?_append_right hl] at hj
    have e : (cs ++ ds).drop (j * sz) = ds.drop ((j - xs.length) * sz) := by
      have hz : cs.length ≤ j * sz := by rw [h.1]; exact Nat.mul_le_mul_right _ hl
      rw [List.drop_append, List.drop_eq_nil_of_le hz, List.nil_append, h.1, Nat.sub_mul]
    rw [e]
    exact k.2 _ x hj
theorem Reps.one {α : Type} {R : α → List Value → Prop} {sz : Nat} {x : α} {cs : List Value} (h : R x cs) (hl : cs.length = sz) : Reps R sz [x] cs := by
  refine ⟨by simp [hl], fun j y hj => ?_⟩
  cases j with
  | zero =>
    simp only [List.getElem?_cons_zero, Option.some.injEq] at hj
    subst hj
    rw [Nat.zero_mul, List.drop_zero, ← hl, List.take_length]; exact h
  | succ j => simp at hj

/-- A row that the call itself makes: its block is none that its elements look at. -/
def OwnAt {α : Type} (e sz : Nat) (d : Knd α) (ok : Nat → Prop) (w : World) (base : Nat) (v : Value) (xs : List α) : Prop :=
  (∀ k, v.ownBlock = some k → ok k) ∧ ∃ inner, w.ownsRow base e sz v xs.length inner ∧ Reps (d (fun k => ok k ∧ some k ≠ v.ownBlock) w) sz xs inner

theorem OwnAt.nil {α : Type} {e sz : Nat} {d : Knd α} {ok : Nat → Prop} {w : World} {base : Nat} : OwnAt e sz d ok w base (.slice none 0 0) [] :=
  ⟨fun k h => by simp [Value.ownBlock] at h, [], World.ownsRow_nil _ _ _ _, Reps.nil _ _⟩

theorem OwnAt.made {α : Type} {e sz : Nat} {d : Knd α} {ok : Nat → Prop} {w : World} {base : Nat} (hok : ok w.heap.size) (hb : base ≤ w.heap.size) :
    OwnAt e sz d ok (w.alloc (.cells #[] e)) base (.slice (some ⟨w.heap.size, 0, none⟩) 0 0) [] :=
  ⟨fun k h => by simp [Value.ownBlock] at h; exact h ▸ hok, [], World.ownsRow_made w #[] 0 hb (Nat.zero_le _) (by simp), Reps.nil _ _⟩

theorem OwnAt.row {α : Type} {e sz : Nat} {d : Knd α} (hd : Good sz d) {ok : Nat → Prop} {w : World} {base : Nat} {v : Value} {xs : List α} (h : OwnAt e sz d ok w base v xs) : RowAt sz d ok w v xs := by
  obtain ⟨hok, inner, ho, hr⟩ := h
  have hcells := fun {g} (hg : v.ownBlock = some g) => World.ownsRow.cells ho hg
  rcases ho.2 with ⟨rfl, hn⟩ | ⟨g, cap, cur, rfl, hg, hh, hnc, hcm, hcs, ht⟩
  · have : xs = [] := List.eq_nil_of_length_eq_zero hn
    subst this; exact RowAt.nil
  · refine ⟨some ⟨g, 0, none⟩, cap, rfl, hnc, hcm, (fun h => by cases h), (fun ad h _ => by cases h; rfl), fun j x hj => ?_⟩
    have hjl := (List.getElem?_eq_some_iff.1 hj).1
    have hx := hr.2 j x hj
    refine ⟨⟨g, 0, none⟩, _, rfl, hd.move (Moves.weaken fun k hk _ => hk.1) hx, fun i u hu => ⟨hok g rfl, ?_⟩⟩
    rw [List.getElem?_take] at hu
    split at hu
    · rw [List.getElem?_drop] at hu
      have := hcells rfl _ _ hu
      rwa [add_none] at this
    · cases hu

theorem OwnAt.lt {α : Type} {e sz : Nat} {d : Knd α} {ok : Nat → Prop} {w : World} {base : Nat} {v : Value} {xs : List α} (h : OwnAt e sz d ok w base v xs) : ∀ k, v.ownBlock = some k → base ≤ k ∧ k < w.heap.size := by
  obtain ⟨_, inner, ho, _⟩ := h
  exact ho.lt

theorem OwnAt.block {α : Type} {e sz : Nat} {d : Knd α} {ok : Nat → Prop} {w : World} {base : Nat} {v : Value} {xs : List α} (h : OwnAt e sz d ok w base v xs) (hx : xs ≠ []) : ∃ g cap, v = .slice (some ⟨g, 0, none⟩) xs.length cap := by
  obtain ⟨_, inner, ho, _⟩ := h
  rcases ho.2 with ⟨_, hn⟩ | ⟨g, cap, cur, rfl, _⟩
  · exact absurd (List.eq_nil_of_length_eq_zero hn) hx
  · exact ⟨g, cap, rfl⟩

/-- New memory of n and up, none of which is the row of v. -/
theorem OwnAt.aside {α : Type} {e sz : Nat} {d : Knd α} {ok : Nat → Prop} {w : World} {base n : Nat} {v : Value} {xs : List α} (h : OwnAt e sz d ok w base v xs) (hn : w.heap.size ≤ n) (hok : ∀ k, n ≤ k → ok k) {w1 w2 : World} (hb : Below w1.heap.size w1 w2) :
    Moves (fun k => n ≤ k) (fun k => ok k ∧ some k ≠ v.ownBlock) w1 w2 := fun k hk hl => ⟨⟨hok k hk, fun e => by have := (h.lt k e.symm).2; omega⟩, hb.block k hl⟩

/-- What turns none of its blocks. -/
theorem OwnAt.move {α : Type} {e sz : Nat} {d : Knd α} (hd : Good sz d) {ok ok' : Nat → Prop} {w w' : World} {base : Nat} {v : Value} {xs : List α} (hm : Moves ok ok' w w') (h : OwnAt e sz d ok w base v xs) : OwnAt e sz d ok' w' base v xs := by
  obtain ⟨hok, inner, ho, hr⟩ := h
  have hb : ∀ k, v.ownBlock = some k → ok' k ∧ w'.heap[k]? = w.heap[k]? := fun k hk => hm k (hok k hk) (ho.lt k hk).2
  refine ⟨fun k hk => (hb k hk).1, inner, ⟨ho.1, ?_⟩, hr.imp fun x c => hd.move fun k hk hl => ?_⟩
  · rcases ho.2 with h2 | ⟨g, cap, cur, rfl, hg, hh, r⟩
    · exact .inl h2
    · exact .inr ⟨g, cap, cur, rfl, hg, ((hb g rfl).2).trans hh, r⟩
  · obtain ⟨h1, h2⟩ := hm k hk.1 hl
    exact ⟨⟨h1, hk.2⟩, h2⟩

section
variable {α : Type} {d : Knd α} {P : Program} {ops : Array Oper} {rest : List Oper} {o : Oper} {a : Act} {Q : Exit → Act → World → Prop} {ok : Nat → Prop} {w : World}
/-- append(v, ys...) onto a row of the call's own. -/
theorem wpo_app {K : Act → World → Prop} {sz : Nat} (hd : Good sz d) (s x : Operand) (t : TypeId)
    (ho : o.op = .call { callee := .builtin .append, args := #[s, x], argTypes := #[t, t] })
    (base : Nat) (e : TypeId) (i : TypeInfo) (z : Value) (bytes : Nat) (ht : P.underlying t = some (.slice e)) (hi : P.info? e = some i) (hz : i.zero = some z)
    (hsize : i.size = sz) (hby : i.bytes = bytes) (hzs : z.cells.size = sz) (hsz : 0 < sz)
    (v : Value) (xs : List α) (hs : a.eval s = v) (hown : OwnAt e sz d ok w base v xs)
    (ad : Addr) (m c : Nat) (ys : List α) (news : List Value) (hx : a.eval x = .slice (some ad) m c) (hm : ys.length = m)
    (hnews : ∀ j u, news[j]? = some u → w.cell? (ad.add j) = some u) (hreps : Reps (d (fun k => ok k ∧ some k ≠ v.ownBlock) w) sz ys news)
    (hok : ∀ k, w.heap.size ≤ k → ok k) (hbytes : (xs.length + m) * bytes ≤ 140737488355328) (hb0 : 0 < bytes) (hbase : base ≤ w.heap.size)
    (h : ∀ v' w', OwnAt e sz d ok w' base v' (xs ++ ys) → w.grownBy w' v.ownBlock → (v'.ownBlock = v.ownBlock ∨ v'.ownBlock = some w.heap.size) → K (a.put o.dst v') w') :
    o.wp P a w K Q := by
  obtain ⟨hv, inner, hor, hr⟩ := hown
  have h63 : xs.length + m ≤ maxLen := by
    have := Nat.le_trans (Nat.le_mul_of_pos_right (xs.length + m) hb0) hbytes
    unfold maxLen; omega
  have hone : ∀ u ∈ news, u.oneCell' = true := by
    intro u hu
    obtain ⟨q, hq, rfl⟩ := List.mem_iff_getElem.1 hu
    have hql : q / sz < ys.length := by rw [Nat.div_lt_iff_lt_mul hsz, ← hreps.1]; exact hq
    refine hd.one (hreps.2 (q / sz) _ (List.getElem?_eq_getElem hql)) _ ?_
    refine List.mem_iff_getElem?.2 ⟨q % sz, ?_⟩
    rw [List.getElem?_take, if_pos (Nat.mod_lt _ hsz), List.getElem?_drop, Nat.mul_comm, Nat.div_add_mod]
    exact List.getElem?_eq_getElem hq
  obtain ⟨v', w', hr0, hown', hg, _, hat⟩ := run_append_own_at (P := P) w base t o.type e i z sz bytes ht hi hz hsize hby hzs hsz v xs.length inner hor ad m c news (by rw [hreps.1, hm]) hnews hone h63 hbytes hbase
  unfold Oper.wp execOp
  simp only [ho, resolve, invoke, builtin, Sem.run_bind, Sem.run_pure, Result.andThen_ok, List.map_toArray, List.map_cons, List.map_nil, hs, hx, hr0]
  refine h v' w' ⟨fun k hk => ?_, inner ++ news, by rw [List.length_append, hm]; exact hown', ?_⟩ hg hat
  · rcases hat with hat | hat
    · exact hv k (hat.symm.trans hk)
    · have hh := hat.symm.trans hk
      injection hh with hh
      exact hok k (by omega)
  · have mv : Moves (fun k => ok k ∧ some k ≠ v.ownBlock) (fun k => ok k ∧ some k ≠ v'.ownBlock) w w' := fun k hk hl => by
      refine ⟨⟨hk.1, fun e => ?_⟩, hg.block k hl hk.2⟩
      rcases hat with hat | hat
      · exact hk.2 (e.trans hat)
      · have hh := e.trans hat
        injection hh with hh
        omega
    exact (hr.append hreps).imp fun x c => hd.move mv

theorem wp_app {sz : Nat} (hd : Good sz d) (hgd : o.guard = none) (s x : Operand) (t : TypeId)
    (ho : o.op = .call { callee := .builtin .append, args := #[s, x], argTypes := #[t, t] })
    (base : Nat) (e : TypeId) (i : TypeInfo) (z : Value) (bytes : Nat) (ht : P.underlying t = some (.slice e)) (hi : P.info? e = some i) (hz : i.zero = some z)
    (hsize : i.size = sz) (hby : i.bytes = bytes) (hzs : z.cells.size = sz) (hsz : 0 < sz)
    (v : Value) (xs : List α) (hs : a.eval s = v) (hown : OwnAt e sz d ok w base v xs)
    (ad : Addr) (m c : Nat) (ys : List α) (news : List Value) (hx : a.eval x = .slice (some ad) m c) (hm : ys.length = m)
    (hnews : ∀ j u, news[j]? = some u → w.cell? (ad.add j) = some u) (hreps : Reps (d (fun k => ok k ∧ some k ≠ v.ownBlock) w) sz ys news)
    (hok : ∀ k, w.heap.size ≤ k → ok k) (hbytes : (xs.length + m) * bytes ≤ 140737488355328) (hb0 : 0 < bytes) (hbase : base ≤ w.heap.size)
    (h : ∀ v' w', OwnAt e sz d ok w' base v' (xs ++ ys) → w.grownBy w' v.ownBlock → (v'.ownBlock = v.ownBlock ∨ v'.ownBlock = some w.heap.size) → wpList P ops Q rest (a.put o.dst v') w') :
    wpList P ops Q (o :: rest) a w :=
  wpList_plain hgd fun _ hK => wpo_app hd s x t ho base e i z bytes ht hi hz hsize hby hzs hsz v xs hs hown ad m c ys news hx hm hnews hreps hok hbytes hb0 hbase fun v' w' h1 h2 h3 => hK _ _ (h v' w' h1 h2 h3)

/-- append(v, y): y's cells lie in a block made for that. -/
theorem wpo_app1 {K : Act → World → Prop} {sz : Nat} (hd : Good sz d) (s x : Operand) (t : TypeId)
    (ho : o.op = .call { callee := .builtin .append, args := #[s, x], argTypes := #[t, t] })
    (base : Nat) (e : TypeId) (i : TypeInfo) (z : Value) (bytes : Nat) (ht : P.underlying t = some (.slice e)) (hi : P.info? e = some i) (hz : i.zero = some z)
    (hsize : i.size = sz) (hby : i.bytes = bytes) (hzs : z.cells.size = sz) (hsz : 0 < sz)
    (v : Value) (xs : List α) (hs : a.eval s = v) (hown : OwnAt e sz d ok w base v xs)
    (y : α) (cs : Array Value) (e' : TypeId) (hx : a.eval x = .slice (some ⟨w.heap.size, 0, none⟩) 1 1)
    (hy : d (fun k => ok k ∧ some k ≠ v.ownBlock) w y cs.toList)
    (hok : ∀ k, w.heap.size ≤ k → ok k) (hbytes : (xs.length + 1) * bytes ≤ 140737488355328) (hb0 : 0 < bytes) (hbase : base ≤ w.heap.size)
    (h : ∀ v' w', OwnAt e sz d ok w' base v' (xs ++ [y]) → Below base w w' → (v'.ownBlock = v.ownBlock ∨ ∃ b, v'.ownBlock = some b ∧ w.heap.size ≤ b) → w.grownBy w' v.ownBlock → K (a.put o.dst v') w') :
    o.wp P a (w.alloc (.cells cs e')) K Q := by
  have hb := (Below.refl w.heap.size w).alloc (Nat.le_refl _) (.cells cs e')
  have hl := hown.2
  have hbl : ∀ k, v.ownBlock = some k → base ≤ k ∧ k < w.heap.size := by
    obtain ⟨inner, hor, _⟩ := hl
    exact hor.lt
  refine wpo_app hd s x t ho base e i z bytes ht hi hz hsize hby hzs hsz v xs hs (hown.move hd (Moves.below hb)) ⟨w.heap.size, 0, none⟩ 1 1 [y] cs.toList hx rfl ?_
    (Reps.one (hd.move (Moves.below hb) hy) (hd.len hy)) (fun k hk => hok k (by simp at hk; omega)) hbytes hb0 (by simp; omega) ?_
  · intro j u hj
    rw [add_none, Nat.zero_add]
    have hj' : cs[j]? = some u := by rw [← hj]; simp
    have hh : (w.alloc (.cells cs e')).heap[w.heap.size]? = some (.cells cs e') := heap_alloc_new w _
    unfold World.cell?
    simp only [hh]
    exact hj'
  · intro v' w' h1 h2 h3
    have hg : w.grownBy w' v.ownBlock := (World.grownBy_alloc w _ _).trans h2
    refine h v' w' h1 ((Below.refl base w).grown hg hbase (fun k hk => (hbl k hk).1)) ?_ hg
    rcases h3 with h3 | h3
    · exact .inl h3
    · exact .inr ⟨_, h3, by simp⟩
theorem wp_app1 {sz : Nat} (hd : Good sz d) (hgd : o.guard = none) (s x : Operand) (t : TypeId)
    (ho : o.op = .call { callee := .builtin .append, args := #[s, x], argTypes := #[t, t] })
    (base : Nat) (e : TypeId) (i : TypeInfo) (z : Value) (bytes : Nat) (ht : P.underlying t = some (.slice e)) (hi : P.info? e = some i) (hz : i.zero = some z)
    (hsize : i.size = sz) (hby : i.bytes = bytes) (hzs : z.cells.size = sz) (hsz : 0 < sz)
    (v : Value) (xs : List α) (hs : a.eval s = v) (hown : OwnAt e sz d ok w base v xs)
    (y : α) (cs : Array Value) (e' : TypeId) (hx : a.eval x = .slice (some ⟨w.heap.size, 0, none⟩) 1 1)
    (hy : d (fun k => ok k ∧ some k ≠ v.ownBlock) w y cs.toList)
    (hok : ∀ k, w.heap.size ≤ k → ok k) (hbytes : (xs.length + 1) * bytes ≤ 140737488355328) (hb0 : 0 < bytes) (hbase : base ≤ w.heap.size)
    (h : ∀ v' w', OwnAt e sz d ok w' base v' (xs ++ [y]) → Below base w w' → (v'.ownBlock = v.ownBlock ∨ ∃ b, v'.ownBlock = some b ∧ w.heap.size ≤ b) → w.grownBy w' v.ownBlock → wpList P ops Q rest (a.put o.dst v') w') :
    wpList P ops Q (o :: rest) a (w.alloc (.cells cs e')) :=
  wpList_plain hgd fun _ hK => wpo_app1 hd s x t ho base e i z bytes ht hi hz hsize hby hzs hsz v xs hs hown y cs e' hx hy hok hbytes hb0 hbase fun v' w' h1 h2 h3 h4 => hK _ _ (h v' w' h1 h2 h3 h4)

/-- The same at a step of a region that draws its order. -/
theorem st_app1 {K : Act → World → Prop} {E : Prop} {sz : Nat} (hd : Good sz d) (hgd : o.guard = none) (s x : Operand) (t : TypeId)
    (ho : o.op = .call { callee := .builtin .append, args := #[s, x], argTypes := #[t, t] })
    (base : Nat) (e : TypeId) (i : TypeInfo) (z : Value) (bytes : Nat) (ht : P.underlying t = some (.slice e)) (hi : P.info? e = some i) (hz : i.zero = some z)
    (hsize : i.size = sz) (hby : i.bytes = bytes) (hzs : z.cells.size = sz) (hsz : 0 < sz)
    (v : Value) (xs : List α) (hs : a.eval s = v) (hown : OwnAt e sz d ok w base v xs)
    (y : α) (cs : Array Value) (e' : TypeId) (hx : a.eval x = .slice (some ⟨w.heap.size, 0, none⟩) 1 1)
    (hy : d (fun k => ok k ∧ some k ≠ v.ownBlock) w y cs.toList)
    (hok : ∀ k, w.heap.size ≤ k → ok k) (hbytes : (xs.length + 1) * bytes ≤ 140737488355328) (hb0 : 0 < bytes) (hbase : base ≤ w.heap.size)
    (h : ∀ v' w', OwnAt e sz d ok w' base v' (xs ++ [y]) → Below base w w' → (v'.ownBlock = v.ownBlock ∨ ∃ b, v'.ownBlock = some b ∧ w.heap.size ≤ b) → w.grownBy w' v.ownBlock → K (a.put o.dst v') w') :
    if Region.wanted o (yielded ops a.tmps) = true then Oper.wp P o a (w.alloc (.cells cs e')) K Q else E := by
  have hw : Region.wanted o (yielded ops a.tmps) = true := by simp [Region.wanted, hgd]
  rw [if_pos hw]
  exact wpo_app1 hd s x t ho base e i z bytes ht hi hz hsize hby hzs hsz v xs hs hown y cs e' hx hy hok hbytes hb0 hbase h
end

theorem Reps.imm {α : Type} (enc : α → Value) (ok : Nat → Prop) (w : World) (xs : List α) : Reps (immK enc ok w) 1 xs (xs.map enc) := by
  refine ⟨by simp, fun j x hj => ?_⟩
  have hl := (List.getElem?_eq_some_iff.1 hj).1
  show ((xs.map enc).drop (j * 1)).take 1 = [enc x]
  rw [Nat.mul_one, List.drop_eq_getElem_cons (by simpa using hl)]
  simp only [List.take_succ_cons, List.take_zero, List.getElem_map]
  obtain ⟨_, h⟩ := List.getElem?_eq_some_iff.1 hj
  rw [h]

/-- The cells of a row whose elements hang on no memory. -/
theorem RowAt.news {α : Type} {enc : α → Value} {ok : Nat → Prop} {w : World} {ad : Addr} {n c : Nat} {xs : List α} (h : RowAt 1 (immK enc) ok w (.slice (some ad) n c) xs) :
    ∀ j u, (xs.map enc)[j]? = some u → w.cell? (ad.add j) = some u := by
  intro j u hj
  obtain ⟨A, c', he, _, _, _, hsp, h6⟩ := h
  injection he with he1 he2 he3
  subst he1
  rw [List.getElem?_map, Option.map_eq_some_iff] at hj
  obtain ⟨x, hx, rfl⟩ := hj
  obtain ⟨ad', cs, e, rfl, hc⟩ := h6 j x hx
  cases e
  have hs := hsp ad rfl (List.ne_nil_of_mem (List.mem_of_getElem? hx))
  obtain ⟨b, o, sp⟩ := ad
  cases hs
  have := (hc 0 (enc x) rfl).2
  rw [add_none]
  simpa using this

theorem wrap_succ {k n : Nat} (h : k < n) (hn : n ≤ 1048576) : wrap64 ((k : Int) + 1) = ((k + 1 : Nat) : Int) := by unfold wrap64; omega
theorem int_succ {k n : Nat} (h : k < n) (hn : n ≤ 1048576) : Value.int .i64 (wrap64 ((k : Int) + 1)) = .int .i64 ((k + 1 : Nat) : Int) := by rw [wrap_succ h hn]
theorem less_succ {k n : Nat} (h : k < n) (hn : n ≤ 1048576) : n - (intOf (.int .i64 (wrap64 ((k : Int) + 1)))).toNat < n - (intOf (.int .i64 (k : Int))).toNat := by
  rw [wrap_succ h hn]; simp only [intOf, Int.toNat_natCast]; omega
theorem take_succ_snoc {α : Type} {l : List α} {k : Nat} (h : k < l.length) : l.take (k + 1) = l.take k ++ [l[k]] := by
  rw [List.take_succ_eq_append_getElem h]

theorem RowAt.single {α : Type} {sz : Nat} {d : Knd α} (hd : Good sz d) {ok : Nat → Prop} {W : World} {g : Nat} {cs : Array Value} {t : TypeId} {fr : Nat × Nat} {x : α} (hx : d ok W x cs.toList) (hb : ok g) (hh : W.heap[g]? = some (.cells cs t fr)) :
    RowAt sz d ok W (.slice (some ⟨g, 0, none⟩) 1 1) [x] := by
  have _ := hd
  refine ⟨_, _, rfl, Nat.le_refl _, by unfold maxLen; omega, (fun h => by cases h), (fun ad h _ => by cases h; rfl), fun j y hj => ?_⟩
  cases j with
  | zero =>
    simp only [List.getElem?_cons_zero, Option.some.injEq] at hj
    subst hj
    refine ⟨_, _, rfl, hx, fun i u hu => ⟨hb, ?_⟩⟩
    unfold World.cell?
    simp only [hh]
    simpa using hu
  | succ j => simp at hj

/-! ### trees -/
def TreeAt (ok : Nat → Prop) (w : World) : Value → Bw.T → Prop
  | v, .nil => v = .pointer none
  | v, .node l p r => ∃ b u1 u2 lv rv, v = .pointer (some ⟨b, 0, none⟩) ∧ CellAt ok w b 0 u1 ∧ CellAt ok w b 1 u2 ∧ CellAt ok w b 2 lv ∧ CellAt ok w b 3 rv ∧
      CellAt ok w b 4 (.int .i64 ((Bw.T.node l p r).size : Nat)) ∧ BytesAt ok w u1 p.1 ∧ BytesAt ok w u2 p.2 ∧ TreeAt ok w lv l ∧ TreeAt ok w rv r

theorem TreeAt.move {ok ok' : Nat → Prop} {w w' : World} (hm : Moves ok ok' w w') : ∀ (t : Bw.T) (v : Value), TreeAt ok w v t → TreeAt ok' w' v t
  | .nil, _, h => h
  | .node l p r, v, h => by
    obtain ⟨b, u1, u2, lv, rv, rfl, h0, h1, h2, h3, h4, k1, k2, hl, hr⟩ := h
    exact ⟨b, u1, u2, lv, rv, rfl, h0.move hm, h1.move hm, h2.move hm, h3.move hm, h4.move hm, k1.move goodByte hm, k2.move goodByte hm, TreeAt.move hm l _ hl, TreeAt.move hm r _ hr⟩

theorem TreeAt.form {ok : Nat → Prop} {w : World} {t : Bw.T} {v : Value} (h : TreeAt ok w v t) : ∃ A, v = .pointer A := by
  cases t with
  | nil => exact ⟨_, h⟩
  | node l p r =>
    obtain ⟨b, _, _, _, _, rfl, _⟩ := h
    exact ⟨_, rfl⟩

/-- What a function that makes memory of its own gives back. -/
def Gives (w : World) (R : Value → World → Prop) (e : Ending) (w' : World) : Prop := ∃ v, e = .returned v ∧ R v w' ∧ Below w.heap.size w w'

end Go.Bw
