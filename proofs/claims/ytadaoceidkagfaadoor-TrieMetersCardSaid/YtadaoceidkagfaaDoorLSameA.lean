
import Derived.Test.YtadaoceidkagfaaDoorNodeC
import Derived.Test.YtadaoceidkagfaaDoorBwG
import Derived.Laws.StructEq
import Derived.KernelRfl
import Derived.Test.YtadaoceidkagfaaDoorRangeA
import Derived.Test.YtadaoceidkagfaaDoorSameA
import Derived.Shelf.AbstractIn
import Derived.Deep.RegionLaw
import Derived.Deep.AppendLies
import Derived.Test.YtadaoceidkagfaaDoorBwAll
import Derived.Shelf.SlSortCmp.WholeK
import Derived.Test.YtadaoceidkagfaaDoorListA
import Derived.Shelf.Abstract
namespace Go.Proofs.YtadaoceidkagfaaDoor
open Go.RowKit Go.Bw

def encSpot (s : Bw.Spot) : List Value := [.int .i64 (s.1 : Nat), .int .i64 (s.2.1 : Nat), .int .u64 (s.2.2.1 : Nat), .int .u32 (s.2.2.2.1 : Nat), .int .i64 (s.2.2.2.2 : Nat)]
/-- a spot, in five cells -/
def spotK : Knd Bw.Spot := fun _ _ x cs => cs = encSpot x
theorem goodSpot : _root_.Go.Bw.Good 5 spotK where
  len := by rintro ok w x cs rfl; rfl
  one := by
    rintro ok w x cs rfl u hu
    simp only [encSpot, List.mem_cons, List.not_mem_nil, or_false] at hu
    rcases hu with rfl | rfl | rfl | rfl | rfl <;> rfl
  move := by rintro ok ok' w w' x cs _ h; exact h
abbrev SpotsAt := RowAt 5 spotK

theorem spot_get {ok : Nat → Prop} {w : World} {A : Option Addr} {n c j : Nat} {xs : List Bw.Spot} {s : Bw.Spot} (h : SpotsAt ok w (.slice A n c) xs) (hj : xs[j]? = some s) :
    ∃ b o, A = some ⟨b, o, none⟩ ∧ w.cell? ⟨b, o + j * 5, none⟩ = some (.int .i64 (s.1 : Nat)) ∧ w.cell? ⟨b, o + j * 5 + 1, none⟩ = some (.int .i64 (s.2.1 : Nat)) ∧ w.cell? ⟨b, o + j * 5 + 2, none⟩ = some (.int .u64 (s.2.2.1 : Nat)) ∧
      w.cell? ⟨b, o + j * 5 + 3, none⟩ = some (.int .u32 (s.2.2.2.1 : Nat)) ∧ w.cell? ⟨b, o + j * 5 + 4, none⟩ = some (.int .i64 (s.2.2.2.2 : Nat)) := by
  obtain ⟨b, o, cs, rfl, rfl, hc⟩ := h.get hj
  exact ⟨b, o, rfl, (hc 0 _ rfl).2, (hc 1 _ rfl).2, (hc 2 _ rfl).2, (hc 3 _ rfl).2, (hc 4 _ rfl).2⟩

def EqRel (a b : List Bw.Spot) (w : World) (i : Value) (wr : World) : Prop := ∃ k : Nat, k ≤ a.length ∧ i = .int .i64 k ∧ a.take k = b.take k ∧ Below w.heap.size w wr

theorem take_step {α : Type} {a b : List α} {k : Nat} (ha : k < a.length) (hb : k < b.length) (h : a.take k = b.take k) (e : a[k] = b[k]) : a.take (k + 1) = b.take (k + 1) := by
  rw [take_succ_snoc ha, take_succ_snoc hb, h, e]

end Go.Proofs.YtadaoceidkagfaaDoor

namespace Go.Proofs.YtadaoceidkagfaaDoor
open Go.RowKit Go.Bw Go.Shelf
attribute [local go_sem] Oper.semAt_some

/-! ### plain -/
def _root_.Bw.N.num : Bw.N → Nat
  | .branch m _ => m
  | _ => 0
def _root_.Bw.N.kidAt (c : Nat) : Bw.N → Option Bw.N
  | .branch m kids => Bw.kidO m kids c
  | _ => none
def vol (wt : Bw.N × Nat → Nat) (l : List (Bw.N × Nat)) : Nat := (l.map wt).sum
theorem vol_append (wt : Bw.N × Nat → Nat) (a b : List (Bw.N × Nat)) : vol wt (a ++ b) = vol wt a + vol wt b := by simp [vol]
theorem vol_cons (wt : Bw.N × Nat → Nat) (x : Bw.N × Nat) (b : List (Bw.N × Nat)) : vol wt (x :: b) = wt x + vol wt b := by simp [vol]
mutual
/-- what a visit may need, however its rounds come -/
def _root_.Bw.N.need (wt : Bw.N × Nat → Nat) (lv : Nat) : Bw.N → Nat
  | .leaf h p => wt (.leaf h p, lv)
  | .bucket h t => wt (.bucket h t, lv)
  | .branch m kids => wt (.branch m kids, lv) + 32 * vol wt (Bw.N.visitsL (lv + 1) kids) + Bw.N.needL wt (lv + 1) kids
def _root_.Bw.N.needL (wt : Bw.N × Nat → Nat) (lv : Nat) : List Bw.N → Nat
  | [] => 0
  | k :: r => k.need wt lv + Bw.N.needL wt lv r
end

theorem vol_mem {wt : Bw.N × Nat → Nat} {lv : Nat} {kids : List Bw.N} {k : Bw.N} (h : k ∈ kids) : vol wt (k.visits lv) ≤ vol wt (Bw.N.visitsL lv kids) ∧ k.need wt lv ≤ Bw.N.needL wt lv kids := by
  induction kids with
  | nil => simp at h
  | cons a r ih =>
    simp only [Bw.N.visitsL, Bw.N.needL, vol_append]
    rcases List.mem_cons.1 h with rfl | h
    · omega
    · have := ih h; omega

theorem mem_visitsL {lv : Nat} {kids : List Bw.N} {k : Bw.N} (h : k ∈ kids) : ∀ x ∈ k.visits lv, x ∈ Bw.N.visitsL lv kids := by
  induction kids with
  | nil => simp at h
  | cons a r ih =>
    intro x hx
    simp only [Bw.N.visitsL, List.mem_append]
    rcases List.mem_cons.1 h with rfl | h
    · exact .inl hx
    · exact .inr (ih h x hx)

theorem kidO_mem {m c : Nat} {kids : List Bw.N} {k : Bw.N} (h : Bw.kidO m kids c = some k) : k ∈ kids := by
  unfold Bw.kidO at h
  split at h
  · exact List.mem_of_getElem? h
  · cases h

theorem kids_bits {m : Nat} {kids : List Bw.N} (hl : kids.length = (Bw.bitsOf m).length) : (Bw.bitsOf m).map (fun c => Bw.kidO m kids c) = kids.map some := by
  apply List.ext_getElem
  · simp [hl]
  · intro i h1 h2
    simp only [List.length_map] at h1 h2
    simp only [List.getElem_map]
    have hm : (Bw.bitsOf m)[i] ∈ Bw.bitsOf m := List.getElem_mem h1
    have ht := (Bw.mem_bitsOf.1 hm).2
    have hat := Bw.bits_at_mem hm
    have hij : Bw.ones (Bw.bitsOf m)[i] m = i := by
      obtain ⟨hj, he⟩ := List.getElem?_eq_some_iff.1 hat
      exact (List.getElem_inj (Bw.nodup_bitsOf m)).1 he
    unfold Bw.kidO
    rw [if_pos ht, hij, List.getElem?_eq_getElem h2]

theorem visitsL_flat (lv : Nat) (kids : List Bw.N) : Bw.N.visitsL lv kids = (kids.map some).flatMap (Bw.visitsO lv) := by
  induction kids with
  | nil => rfl
  | cons k r ih => simp [Bw.N.visitsL, ih, Bw.visitsO]

theorem visits_eq {n : Bw.N} (hf : n.fit) (lv : Nat) : n.visits lv = (n, lv) :: (Bw.bitsOf n.num).flatMap fun c => Bw.visitsO (lv + 1) (n.kidAt c) := by
  cases n with
  | leaf h p => simp [Bw.N.visits, Bw.N.num, Bw.bitsOf_zero]
  | bucket h t => simp [Bw.N.visits, Bw.N.num, Bw.bitsOf_zero]
  | branch m kids =>
    simp only [Bw.N.fit] at hf
    simp only [Bw.N.visits, Bw.N.num, Bw.N.kidAt]
    rw [visitsL_flat, ← kids_bits hf.2.1, List.flatMap_map]

/-! ### what a call may turn: the block o, and rows of the element type e; nothing of the blocks below n -/
def ECells (e : Nat) (W : World) (k : Nat) : Prop := ∃ cs fr, W.heap[k]? = some (.cells cs e fr)

structure Tame (n o e : Nat) (W W' : World) : Prop where
  os : W'.os = W.os
  tape : W'.tape = W.tape
  output : W'.output = W.output
  size : W.heap.size ≤ W'.heap.size
  keep : ∀ k, k < W.heap.size → (k < n ∨ k ≠ o ∧ ¬ ECells e W k) → W'.heap[k]? = W.heap[k]?

theorem Tame.of_below {n o e : Nat} {W W' : World} (h : Below W.heap.size W W') : Tame n o e W W' := ⟨h.os, h.tape, h.output, h.size, fun k hk _ => h.block k hk⟩
theorem Tame.refl (n o e : Nat) (W : World) : Tame n o e W W := .of_below (Below.refl _ _)
theorem Tame.trans {n o e : Nat} {A B C : World} (h : Tame n o e A B) (k : Tame n o e B C) : Tame n o e A C :=
  ⟨k.os.trans h.os, k.tape.trans h.tape, k.output.trans h.output, Nat.le_trans h.size k.size, fun i hi hc => by
    have h1 := h.keep i hi hc
    refine (k.keep i (Nat.lt_of_lt_of_le hi h.size) (hc.imp id fun ⟨a, b⟩ => ⟨a, fun ⟨cs, fr, hx⟩ => b ⟨cs, fr, by rw [← h1]; exact hx⟩⟩)).trans h1⟩
theorem Tame.below {n o e : Nat} {W W' : World} (h : Tame n o e W W') (hn : n ≤ W.heap.size) : Below n W W' :=
  ⟨h.os, h.tape, h.output, h.size, fun k hk => h.keep k (Nat.lt_of_lt_of_le hk hn) (.inl hk)⟩
theorem Tame.block {n o e : Nat} {W W' : World} {k : Nat} {x : Obj} (h : Tame n o e W W') (hx : W.heap[k]? = some x) (hko : k ≠ o) (hne : ∀ cs fr, x ≠ .cells cs e fr) : W'.heap[k]? = some x :=
  (h.keep k (Array.getElem?_eq_some_iff.1 hx).1 (.inr ⟨hko, fun ⟨cs, fr, hy⟩ => hne cs fr (Option.some.inj (hx.symm.trans hy))⟩)).trans hx
theorem Tame.boxed {n o e : Nat} {W W' : World} {B : Nat} {t : TypeId} {v : Value} (h : Tame n o e W W') (hb : Boxed W B t v) (hte : t ≠ e) (hko : B ≠ o) : Boxed W' B t v :=
  h.block hb hko fun cs fr he => by injection he with _ h2 _; exact hte h2
theorem Tame.others {n o e : Nat} {W W' : World} (h : Tame n o e W W') (ho : ∃ b, W.heap[o]? = some b ∧ b.isCells = true) : KeepsOthers W W' :=
  ⟨h.size, fun k x hx hc => h.block hx (fun he => by obtain ⟨b, hb, hc'⟩ := ho; rw [he, hb] at hx; cases hx; rw [hc] at hc'; cases hc') fun cs fr he => by subst he; cases hc⟩

theorem ownFrom_tame {β : Type} (n o e : Nat) (W1 : World) : OwnFrom W1.heap.size (fun (_ : β) W => Tame n o e W1 W) := fun _ X Y row hs hg hr =>
  ⟨hg.os.trans hs.os, hg.tape.trans hs.tape, hg.output.trans hs.output, Nat.le_trans hs.size hg.size, fun k hk hc => by
    refine (hg.block k (Nat.lt_of_lt_of_le hk hs.size) (fun he => ?_)).trans (hs.keep k hk hc)
    have := (hr k he.symm).1
    omega⟩

theorem ownFrom_map {β γ : Type} {B B' : Nat} {I : β → World → Prop} (h : OwnFrom B I) (hB : B ≤ B') (g : γ → β) : OwnFrom B' (fun s W => I (g s) W) := fun s W W' row hs hg hr =>
  h (g s) W W' row hs hg fun r e => ⟨Nat.le_trans hB (hr r e).1, (hr r e).2⟩

theorem low_move {n0 o e : Nat} {W W' : World} (h : Tame n0 o e W W') : Moves (fun k => k < n0) (fun k => k < n0) W W' := fun k hk hl => ⟨hk, h.keep k hl (.inl hk)⟩

/-- what Kid tells, in one form -/
theorem kid_at {ok : Nat → Prop} {v : Value} {n : Bw.N} {w : World} (c : Nat) (h : NodeAt nt ok w v n) (hf : n.fit) :
    Calls Tryd.prog 46 #[v, .int .i64 (c : Nat)] w fun e w' => ∃ u b d, e = .returned (.tuple #[u, .bool b]) ∧ ONodeAt nt ok w u (n.kidAt c) ∧ w' = w.drewN d := by
  refine (kid_any (n := some n) (c : Int) h (fun m kids e => by cases e; simp only [Bw.N.fit] at hf; exact ⟨hf.1, hf.2.1⟩)).mono ?_
  rintro e w' ⟨⟨r, rfl, hk⟩, d, rfl⟩
  cases n with
  | leaf h p => exact ⟨_, _, d, by rw [hk], rfl, rfl⟩
  | bucket h t => exact ⟨_, _, d, by rw [hk], rfl, rfl⟩
  | branch m kids =>
    simp only [KidTold] at hk
    simp only [Bw.N.fit] at hf
    simp only [Bw.N.kidAt, Bw.kidO]
    split at hk
    · rename_i hb
      obtain ⟨u, k, rfl, hk1, hk2⟩ := hk
      simp only [Int.toNat_natCast] at hb hk1
      exact ⟨u, true, d, rfl, by rw [if_pos hb.2.2, hk1]; exact hk2, rfl⟩
    · rename_i hb
      refine ⟨_, _, d, by rw [hk], ?_, rfl⟩
      rw [if_neg]
      · rfl
      · intro ht
        have hc : c < 32 := by
          rcases Nat.lt_or_ge c 32 with x | x
          · exact x
          · have := Nat.pow_le_pow_right (n := 2) (by decide) x
            rw [Nat.testBit_lt_two_pow (by omega)] at ht; cases ht
        exact hb ⟨by omega, by omega, by simpa using ht⟩

theorem map_at {ok : Nat → Prop} {v : Value} {n : Bw.N} {w : World} (h : NodeAt nt ok w v n) :
    Calls Tryd.prog 45 #[v] w fun e w' => ∃ b, e = .returned (.tuple #[.int .u32 (n.num : Nat), .bool b]) ∧ w = w' := by
  refine (map_any (n := some n) h).mono ?_
  rintro e w' ⟨rfl, rfl⟩
  cases n <;> exact ⟨_, rfl, rfl⟩

theorem box_new (W : World) (o : Obj) {B : Nat} {t : TypeId} {v : Value} (h : Boxed W B t v) : Boxed (W.alloc o) B t v := h.alloc o

theorem fit_num {n : Bw.N} (h : n.fit) : n.num < 4294967296 := by
  cases n with
  | leaf => simp [Bw.N.num]
  | bucket => simp [Bw.N.num]
  | branch m kids => simp only [Bw.N.fit] at h; exact h.1

end Go.Proofs.YtadaoceidkagfaaDoor

namespace Go.Proofs.YtadaoceidkagfaaDoor
open Go.RowKit Go.Bw

/-! ### rows that lie in a box, whatever is turned that is no cells -/
/-- what an element's cells say hangs on cells alone -/
def Steady {α : Type} (d : Knd α) : Prop := ∀ (ok : Nat → Prop) (W W' : World) (row : Option Nat) (x : α) (cs : List Value), d ok W x cs → W.grownBy W' row → (∀ r, row = some r → ∃ o : Obj, W.heap[r]? = some o ∧ o.isCells = false) → d ok W' x cs

theorem steady_imm {α : Type} (enc : α → Value) : Steady (immK enc) := fun _ _ _ _ _ _ h _ _ => h
theorem steady_spot : Steady spotK := fun _ _ _ _ _ _ h _ _ => h
theorem steady_row {α : Type} {sz : Nat} {d : Knd α} (hd : Steady d) {ok : Nat → Prop} {W W' : World} {row : Option Nat} {v : Value} {xs : List α} (h : RowAt sz d ok W v xs) (hg : W.grownBy W' row)
    (hr : ∀ r, row = some r → ∃ o : Obj, W.heap[r]? = some o ∧ o.isCells = false) : RowAt sz d ok W' v xs := by
  obtain ⟨A, c, h1, h2, h3, h4, h5, h6⟩ := h
  refine ⟨A, c, h1, h2, h3, h4, h5, fun j x hj => ?_⟩
  obtain ⟨ad, cs, e, hx, hc⟩ := h6 j x hj
  exact ⟨ad, cs, e, hd _ _ _ _ _ _ hx hg hr, fun i u hu => ⟨(hc i u hu).1, cell_kept (hc i u hu).2 hg hr⟩⟩
theorem steady_sl {α : Type} {sz : Nat} {d : Knd α} (hd : Steady d) : Steady (slK sz d) := by
  rintro ok W W' row x cs ⟨v, rfl, h⟩ hg hr
  exact ⟨v, rfl, steady_row hd h hg hr⟩
theorem steady_pr {α β : Type} {d : Knd α} {f : Knd β} (hd : Steady d) (hf : Steady f) : Steady (prK d f) := by
  rintro ok W W' row x cs ⟨a, b, rfl, h1, h2⟩ hg hr
  exact ⟨a, b, rfl, hd _ _ _ _ _ _ h1 hg hr, hf _ _ _ _ _ _ h2 hg hr⟩
theorem steady_pair : Steady pairK := steady_pr (steady_sl (steady_imm _)) (steady_sl (steady_imm _))

theorem own_steady {α : Type} {e sz base : Nat} {d : Knd α} (hd : Steady d) {ok : Nat → Prop} {W W' : World} {row : Option Nat} {v : Value} {xs : List α} (h : OwnAt e sz d ok W base v xs) (hg : W.grownBy W' row)
    (hr : ∀ r, row = some r → ∃ o : Obj, W.heap[r]? = some o ∧ o.isCells = false) : OwnAt e sz d ok W' base v xs := by
  obtain ⟨hok, inner, ho, hreps⟩ := h
  refine ⟨hok, inner, ho.kept hg ?_, hreps.imp fun x cs hx => hd _ _ _ _ _ _ hx hg hr⟩
  rcases ho.2 with ⟨rfl, _⟩ | ⟨g, cap, cur, rfl, _, hgb, _⟩
  · exact .inl rfl
  · refine .inr fun e' => ?_
    obtain ⟨o, ho, hc⟩ := hr g (by simpa [Value.ownBlock] using e'.symm)
    rw [hgb] at ho; cases ho; cases hc

/-- a variable o of the call's own, in which a row of the call's own lies -/
def InvRow {α : Type} (e te sz : Nat) (d : Knd α) (f : List (Bw.N × Nat) → List α) (w0 : World) (o : Nat) (pre : List (Bw.N × Nat)) (W : World) : Prop :=
  ∃ vo, Boxed W o te vo ∧ OwnAt e sz d (fun k => w0.heap.size ≤ k ∧ k ≠ o) W w0.heap.size vo (f pre) ∧ Below w0.heap.size w0 W

theorem InvRow.low {α : Type} {e te sz : Nat} {d : Knd α} {f : List (Bw.N × Nat) → List α} {w0 : World} {o : Nat} {pre : List (Bw.N × Nat)} {W : World} (h : InvRow e te sz d f w0 o pre W) (hT : Tab w0) :
    w0.heap.size ≤ W.heap.size ∧ Tab W ∧ ∃ b, W.heap[o]? = some b ∧ b.isCells = true := by
  obtain ⟨vo, hb, _, hB⟩ := h
  exact ⟨hB.size, hT.below hT.pos hB, _, hb, rfl⟩

theorem InvRow.own {α : Type} {e te sz : Nat} {d : Knd α} (hd : Steady d) {f : List (Bw.N × Nat) → List α} {w0 : World} {o : Nat} : OwnFrom w0.heap.size (InvRow e te sz d f w0 o) := by
  rintro pre X Y row ⟨vo, hb, hown, hB⟩ hg hr
  refine ⟨vo, hb.kept hg (fun e' => ?_), own_steady hd hown hg (fun r e => (hr r e).2), hB.grown hg hB.size (fun r e => (hr r e).1)⟩
  obtain ⟨_, o', ho, hc⟩ := hr o e'.symm
  rw [show X.heap[o]? = _ from hb] at ho; cases ho; cases hc

/-- a row that grew, and was put back into its variable: nothing else was turned -/
theorem tame_put {n o e base sz : Nat} {α : Type} {d : Knd α} {ok : Nat → Prop} {W W' : World} {v u : Value} {xs : List α} (hown : OwnAt e sz d ok W base v xs) (hn : n ≤ base) (ho : n ≤ o) (hg : W.grownBy W' v.ownBlock) : Tame n o e W (W'.setCell ⟨o, 0, none⟩ u) := by
  refine ⟨hg.os, hg.tape, hg.output, by simpa using hg.size, fun k hk hc => ?_⟩
  have hko : k ≠ o := by rcases hc with h | ⟨h, _⟩ <;> omega
  refine (Below.heap_setCell W' ⟨o, 0, none⟩ u k hko).trans (hg.block k hk fun he => ?_)
  obtain ⟨_, inner, how, _⟩ := hown
  rcases how.2 with ⟨rfl, _⟩ | ⟨g, cap, cur, rfl, hb, hgb, _⟩
  · simp [Value.ownBlock] at he
  · obtain rfl : k = g := by simpa [Value.ownBlock] using he
    rcases hc with h | ⟨_, h⟩
    · omega
    · exact h ⟨cur, (0, 0), hgb⟩

end Go.Proofs.YtadaoceidkagfaaDoor

namespace Go.Proofs.YtadaoceidkagfaaDoor
open Go.RowKit Go.Bw

mutual
/-- all pairs in a node, as they come -/
def _root_.Bw.N.pairs : Bw.N → List Bw.PV
  | .leaf _ p => [p]
  | .bucket _ t => t.list
  | .branch _ kids => Bw.N.pairsL kids
def _root_.Bw.N.pairsL : List Bw.N → List Bw.PV
  | [] => []
  | k :: r => k.pairs ++ Bw.N.pairsL r
end
theorem pairsL_flat (kids : List Bw.N) : Bw.N.pairsL kids = kids.flatMap Bw.N.pairs := by
  induction kids with
  | nil => rfl
  | cons k r ih => simp [Bw.N.pairsL, ih]

theorem run_app_none {w : World} {AO : Option Addr} {n co : Nat} (ty : TypeId) (h : n ≤ co) (h0 : AO = none → co = 0) :
    (Builtin.append_ #[94, 94] ty #[.slice AO n co, .slice none 0 0]).run Tryd.prog w = .ok (.slice AO n co) w := by
  obtain ⟨i0, hi, hz0, hz1, hz2⟩ := info_parts infoP
  cases AO with
  | none =>
    have hc := h0 rfl
    subst hc
    obtain rfl : n = 0 := by omega
    simp [Builtin.append_, run_underlying Tryd.underlying94, sizeOf, typeInfo, hi, Builtin.lenOf, run_firstCells_none]
  | some ad =>
    simp [Builtin.append_, run_underlying Tryd.underlying94, sizeOf, typeInfo, hi, Builtin.lenOf, run_firstCells_none, storeCells, h]

theorem wp_app_same {P : Program} {ops : Array Oper} {Q : Exit → Act → World → Prop} {o : Oper} {rest : List Oper} {a : Act} {w : World} {v u : Value} (hgd : o.guard = none) (s x : Operand) (t : TypeId)
    (ho : o.op = .call { callee := .builtin .append, args := #[s, x], argTypes := #[t, t] }) (hs : a.eval s = v) (hx : a.eval x = u) (hr : (Builtin.append_ #[t, t] o.type #[v, u]).run P w = .ok v w)
    (h : wpList P ops Q rest (a.put o.dst v) w) : wpList P ops Q (o :: rest) a w :=
  wpList_plain hgd fun _ hK => by
    unfold Oper.wp execOp
    simp only [ho, resolve, invoke, builtin, Sem.run_bind, Sem.run_pure, Result.andThen_ok, List.map_toArray, List.map_cons, List.map_nil, hs, hx, hr]
    exact hK _ _ h

def ColRel (xs : List Bw.PV) (kids : List Bw.N) (base : Nat) (w : World) (v i : Value) (wr : World) : Prop :=
  ∃ k : Nat, k ≤ kids.length ∧ i = .int .i64 k ∧ OwnAt 47 2 pairK AllB wr base v (xs ++ Bw.N.pairsL (kids.take k)) ∧ Below base w wr

theorem low_pair {base : Nat} {w : World} {v u : Value} {l : Bw.Bytes} {xs : List Bw.PV} (hown : OwnAt 47 2 pairK AllB w base v xs) (h : BytesAt (fun k => k < base) w u l) : BytesAt (fun k => AllB k ∧ some k ≠ v.ownBlock) w u l :=
  h.move goodByte (Moves.weaken fun k hk _ => ⟨trivial, fun e => by have := (hown.lt k e.symm).1; omega⟩)

end Go.Proofs.YtadaoceidkagfaaDoor

namespace Go.Proofs.YtadaoceidkagfaaDoor
open Go.RowKit Go.Bw Go.Shelf Go.Proofs

/-- a closure that compares two pairs by their keys -/
def CmpKeys (K : Nat) : Prop := ∀ (ok ok' : Nat → Prop) (u v u' v' : Value) (a b : Bw.Bytes) (w : World), BytesAt ok w u a → BytesAt ok' w v b →
  Calls Tryd.prog K #[.agg #[u, u'], .agg #[v, v']] w fun e w' => e = .returned (.int .i64 (Lib.compareBytes a b)) ∧ w' = (w.alloc (.cells #[u, u'] 47)).alloc (.cells #[v, v'] 47)

open Go.Sort in
theorem cmpLaysK {K : Nat} (hK : CmpKeys K) {ok : Nat → Prop} {w : World} {g size : Nat} (hlt : g < w.heap.size) : CmpLays Tryd.prog K #[] (El.enc (ok := fun k => ok k ∧ some k ≠ some g) (w := w)) 2 El.cf g 0 size w := by
  intro m os dk _ x y
  have hgr : w.grownBy (sortWorldK El.enc 2 w g 0 m dk os) (some g) := grown_sortWorld hlt m dk os
  have mv : Moves (fun k => ok k ∧ some k ≠ some g) (fun k => ok k ∧ some k ≠ some g) w (sortWorldK El.enc 2 w g 0 m dk os) := fun k hk hl => ⟨hk, hgr.block k hl hk.2⟩
  refine (hK _ _ _ _ _ _ _ _ _ (x.hu.move goodByte mv) (y.hu.move goodByte mv)).mono ?_
  rintro e w' ⟨rfl, rfl⟩
  exact ⟨rfl, 0, _, by rw [alloc_eq_grow, alloc_eq_grow, grow_grow]; rfl⟩

theorem swoEl {ok : Nat → Prop} {w : World} : Go.Sort.SWO (ltOf (El.cf (ok := ok) (w := w))) where
  irrefl := fun x => by
    have := el_less x x
    cases h : ltOf El.cf x x with
    | false => rfl
    | true => exact absurd (this.1 h) (Bw.lt_irrefl _)
  trans := fun x y z h1 h2 => (el_less x z).2 (Bw.lt_trans ((el_less x y).1 h1) ((el_less y z).1 h2))
  ntrans := fun x y z h1 h2 => by
    cases h : ltOf El.cf x z with
    | false => rfl
    | true =>
      have h3 := (el_less x z).1 h
      have n1 : ¬ Bw.lt x.p.1 y.p.1 := fun e => by rw [(el_less x y).2 e] at h1; cases h1
      have n2 : ¬ Bw.lt y.p.1 z.p.1 := fun e => by rw [(el_less y z).2 e] at h2; cases h2
      exact absurd h3 (Bw.not_lt_trans n2 n1)

theorem fit_pairs (n : Bw.N) : n.fit → ∀ p ∈ n.pairs, p.1.length ≤ 1048576 ∧ p.2.length ≤ 1048576 := by
  refine Bw.N.ind (P := fun n => n.fit → ∀ p ∈ n.pairs, p.1.length ≤ 1048576 ∧ p.2.length ≤ 1048576) ?_ ?_ ?_ n
  · intro h p hf q hq
    simp only [Bw.N.pairs, List.mem_singleton] at hq
    subst hq
    exact hf
  · intro h t hf q hq
    simp only [Bw.N.fit] at hf
    exact hf.2.2.1 q hq
  · intro m kids ih hf q hq
    simp only [Bw.N.fit, Bw.N.fitL_iff] at hf
    simp only [Bw.N.pairs, pairsL_flat, List.mem_flatMap] at hq
    obtain ⟨k, hk, hq⟩ := hq
    exact ih k hk (hf.2.2 k hk) q hq

theorem own_rebase {α : Type} {e sz base base' : Nat} {d : Knd α} {ok : Nat → Prop} {w : World} {v : Value} {xs : List α} (h : OwnAt e sz d ok w base v xs) (hb : base' ≤ base) : OwnAt e sz d ok w base' v xs := by
  obtain ⟨h1, inner, ho, hr⟩ := h
  exact ⟨h1, inner, ⟨ho.1, ho.2.imp id fun ⟨g, c, cur, k1, k2, k3⟩ => ⟨g, c, cur, k1, Nat.le_trans hb k2, k3⟩⟩, hr⟩

end Go.Proofs.YtadaoceidkagfaaDoor

namespace Go.Proofs.YtadaoceidkagfaaDoor
open Go.RowKit Go.Bw

/-- append(v, ys...) at a step of a region that draws its order -/
theorem st_app {α : Type} {d : Knd α} {P : Program} {ops : Array Oper} {Q : Exit → Act → World → Prop} {o : Oper} {a : Act} {w : World} {ok : Nat → Prop} {K : Act → World → Prop} {E : Prop} {sz : Nat} (hd : _root_.Go.Bw.Good sz d) (hgd : o.guard = none) (s x : Operand) (t : TypeId)
    (ho : o.op = .call { callee := .builtin .append, args := #[s, x], argTypes := #[t, t] })
    (base : Nat) (e : TypeId) (i : TypeInfo) (z : Value) (bytes : Nat) (ht : P.underlying t = some (.slice e)) (hi : P.info? e = some i) (hz : i.zero = some z)
    (hsize : i.size = sz) (hby : i.bytes = bytes) (hzs : z.cells.size = sz) (hsz : 0 < sz)
    (v : Value) (xs : List α) (hs : a.eval s = v) (hown : OwnAt e sz d ok w base v xs)
    (ad : Addr) (m c : Nat) (ys : List α) (news : List Value) (hx : a.eval x = .slice (some ad) m c) (hm : ys.length = m)
    (hnews : ∀ j u, news[j]? = some u → w.cell? (ad.add j) = some u) (hreps : Reps (d (fun k => ok k ∧ some k ≠ v.ownBlock) w) sz ys news)
    (hok : ∀ k, w.heap.size ≤ k → ok k) (hbytes : (xs.length + m) * bytes ≤ 140737488355328) (hb0 : 0 < bytes) (hbase : base ≤ w.heap.size)
    (h : ∀ v' w', OwnAt e sz d ok w' base v' (xs ++ ys) → w.grownBy w' v.ownBlock → (v'.ownBlock = v.ownBlock ∨ v'.ownBlock = some w.heap.size) → K (a.put o.dst v') w') :
    if Region.wanted o (yielded ops a.tmps) = true then Oper.wp P o a w K Q else E := by
  have hw : Region.wanted o (yielded ops a.tmps) = true := by simp [Region.wanted, hgd]
  rw [if_pos hw]
  exact wpo_app hd s x t ho base e i z bytes ht hi hz hsize hby hzs hsz v xs hs hown ad m c ys news hx hm hnews hreps hok hbytes hb0 hbase h

abbrev InvEnds := InvRow 47 94 2 pairK Bw.heldOf

end Go.Proofs.YtadaoceidkagfaaDoor

namespace Go.Proofs.YtadaoceidkagfaaDoor
open Go.RowKit Go.Bw Go.Shelf

theorem dec_beq (a b : Bw.Bytes) : decide (a = b) = (a == b) := by by_cases h : a = b <;> simp [h]

def PEqRel (a b : List Bw.PV) (w : World) (i : Value) (wr : World) : Prop := ∃ k : Nat, k ≤ a.length ∧ i = .int .i64 k ∧ a.take k = b.take k ∧ Below w.heap.size w wr

end Go.Proofs.YtadaoceidkagfaaDoor

namespace Go.Proofs.YtadaoceidkagfaaDoor
open Go.RowKit Go.Bw

/-! ### how much is gone through -/
theorem need_le {wt : Bw.N × Nat → Nat} (hw : ∀ x, 1 ≤ wt x) (n : Bw.N) : ∀ lv, n.need wt lv ≤ 33 * (vol wt (n.visits lv) * vol wt (n.visits lv)) := by
  refine Bw.N.ind (P := fun n => ∀ lv, n.need wt lv ≤ 33 * (vol wt (n.visits lv) * vol wt (n.visits lv))) ?_ ?_ ?_ n
  · intro h p lv
    simp only [Bw.N.need, Bw.N.visits, vol, List.map_cons, List.map_nil, List.sum_cons, List.sum_nil, Nat.add_zero]
    have := hw (.leaf h p, lv)
    have := Nat.le_mul_of_pos_right (wt (.leaf h p, lv)) this
    omega
  · intro h t lv
    simp only [Bw.N.need, Bw.N.visits, vol, List.map_cons, List.map_nil, List.sum_cons, List.sum_nil, Nat.add_zero]
    have := hw (.bucket h t, lv)
    have := Nat.le_mul_of_pos_right (wt (.bucket h t, lv)) this
    omega
  · intro m kids ih lv
    have hk : Bw.N.needL wt (lv + 1) kids ≤ 33 * (vol wt (Bw.N.visitsL (lv + 1) kids) * vol wt (Bw.N.visitsL (lv + 1) kids)) := by
      have : ∀ ks : List Bw.N, (∀ k ∈ ks, k ∈ kids) → Bw.N.needL wt (lv + 1) ks ≤ 33 * (vol wt (Bw.N.visitsL (lv + 1) ks) * vol wt (Bw.N.visitsL (lv + 1) ks)) := by
        intro ks
        induction ks with
        | nil => intro _; simp [Bw.N.needL]
        | cons k r ihr =>
          intro hm
          have h1 := ih k (hm k (by simp)) (lv + 1)
          have h2 := ihr fun x hx => hm x (by simp [hx])
          simp only [Bw.N.needL, Bw.N.visitsL, vol_append]
          generalize vol wt (k.visits (lv + 1)) = a at *
          generalize vol wt (Bw.N.visitsL (lv + 1) r) = b at *
          have e : (a + b) * (a + b) = a * a + b * b + 2 * (a * b) := by rw [Nat.add_mul, Nat.mul_add, Nat.mul_add, Nat.mul_comm b a]; omega
          omega
      exact this kids fun _ h => h
    simp only [Bw.N.need, Bw.N.visits, vol_cons]
    have h0 := hw (.branch m kids, lv)
    generalize wt (.branch m kids, lv) = a at *
    generalize vol wt (Bw.N.visitsL (lv + 1) kids) = b at *
    have e : (a + b) * (a + b) = a * a + b * b + 2 * (a * b) := by rw [Nat.add_mul, Nat.mul_add, Nat.mul_add, Nat.mul_comm b a]; omega
    have h1 := Nat.le_mul_of_pos_right a h0
    have h2 := Nat.le_mul_of_pos_left b h0
    omega

/-- what is gone through in a layout: few, and none lies deep -/
theorem lays_visits {level : Nat} {n : Bw.N} {S : Bw.En → Prop} (h : Bw.Lays level n S) : ∀ l : List Bw.En, Bw.Unlike l → (∀ e, e ∈ l ↔ S e) → level ≤ 13 → (∃ r, ∀ e, S e → e.1 % 32 ^ level = r) → (∀ e, S e → e.1 < 18446744073709551616) →
    1 ≤ l.length ∧ (∀ x ∈ n.visits level, x.2 ≤ 13) ∧ (n.visits level).length ≤ l.length * (14 - level) := by
  induction h with
  | @leaf level h p S hs =>
    intro l hu hm hlv _ _
    have h1 : 1 ≤ l.length := List.length_pos_iff.2 (List.ne_nil_of_mem ((hm (h, p)).2 ((hs _).2 rfl)))
    refine ⟨h1, ?_, ?_⟩
    · intro x hx; simp only [Bw.N.visits, List.mem_singleton] at hx; subst hx; exact hlv
    · simp only [Bw.N.visits, List.length_singleton]; exact Nat.mul_pos h1 (by omega)
  | @bucket level h t S he hr h2 hs =>
    intro l hu hm hlv _ _
    obtain ⟨a, b, r, hl⟩ := Bw.two_of_length h2
    have h1 : 1 ≤ l.length := List.length_pos_iff.2 (List.ne_nil_of_mem ((hm (h, a)).2 ((hs _).2 ⟨rfl, by rw [hl]; simp⟩)))
    refine ⟨h1, ?_, ?_⟩
    · intro x hx; simp only [Bw.N.visits, List.mem_singleton] at hx; subst hx; exact hlv
    · simp only [Bw.N.visits, List.length_singleton]; exact Nat.mul_pos h1 (by omega)
  | @branch level m kids S hm32 hl h2 hc hk ih =>
    intro l hu hm hlv hr hb
    have hlv12 := Bw.lays_branch_level (Bw.Lays.branch hm32 hl h2 hc hk) hlv hr hb
    obtain ⟨a, b, ha, _⟩ := h2
    have h1 : 1 ≤ l.length := List.length_pos_iff.2 (List.ne_nil_of_mem ((hm a).2 ha))
    have key : ∀ (j : Nat) (hj : j < kids.length), (∀ x ∈ kids[j].visits (level + 1), x.2 ≤ 13) ∧ (kids[j].visits (level + 1)).length ≤ (Bw.partOf level ((Bw.bitsOf m)[j]'(by omega)) l).length * (13 - level) := by
      intro j hj
      have hjb : j < (Bw.bitsOf m).length := by omega
      have hp := ih j _ _ (List.getElem?_eq_getElem hjb) (List.getElem?_eq_getElem hj) (Bw.partOf level ((Bw.bitsOf m)[j]) l) (hu.filter _) (fun e => by rw [Bw.mem_partOf, hm]) (by omega)
        (by
          obtain ⟨r, hr⟩ := hr
          obtain ⟨e0, he0⟩ := (hk j _ _ (List.getElem?_eq_getElem hjb) (List.getElem?_eq_getElem hj)).some
          exact ⟨e0.1 % 32 ^ (level + 1), fun e he => Bw.chunk_inj ((hr e he.1).trans (hr e0 he0.1).symm) (he.2.trans he0.2.symm)⟩)
        (fun e he => hb e he.1)
      exact ⟨hp.2.1, by have := hp.2.2; rwa [show 14 - (level + 1) = 13 - level by omega] at this⟩
    have hsum : ∀ k, k ≤ kids.length → (∀ x ∈ Bw.N.visitsL (level + 1) (kids.take k), x.2 ≤ 13) ∧ (Bw.N.visitsL (level + 1) (kids.take k)).length ≤ (((Bw.bitsOf m).take k).map fun c => (Bw.partOf level c l).length).sum * (13 - level) := by
      intro k
      induction k with
      | zero => intro _; simp [Bw.N.visitsL]
      | succ k ihk =>
        intro hk'
        have hlt : k < kids.length := by omega
        obtain ⟨i1, i2⟩ := ihk (by omega)
        obtain ⟨k1, k2⟩ := key k hlt
        rw [take_succ_snoc hlt, take_succ_snoc (show k < (Bw.bitsOf m).length by omega), Bw.N.visitsL_append]
        refine ⟨fun x hx => ?_, ?_⟩
        · rcases List.mem_append.1 hx with hx | hx
          · exact i1 x hx
          · simp only [Bw.N.visitsL, List.append_nil] at hx; exact k1 x hx
        · simp only [List.length_append, Bw.N.visitsL, List.append_nil, List.map_append, List.map_cons, List.map_nil, List.sum_append, List.sum_cons, List.sum_nil, Nat.add_zero, Nat.add_mul]
          omega
    obtain ⟨s1, s2⟩ := hsum kids.length (Nat.le_refl _)
    rw [List.take_length] at s1 s2
    rw [hl, List.take_length] at s2
    have hall := Bw.sum_parts (fun e : Bw.En => Bw.chunkAt e.1 level) l (Bw.bitsOf m) (Bw.nodup_bitsOf m) (fun e he => hc e ((hm e).1 he))
    have hall' : ((Bw.bitsOf m).map fun c => (Bw.partOf level c l).length).sum = l.length := hall
    rw [hall'] at s2
    refine ⟨h1, fun x hx => ?_, ?_⟩
    · simp only [Bw.N.visits] at hx
      rcases List.mem_cons.1 hx with rfl | hx
      · exact hlv
      · exact s1 x hx
    · simp only [Bw.N.visits, List.length_cons]
      rw [show 14 - level = (13 - level) + 1 by omega, Nat.mul_succ]
      omega

def wtE (x : Bw.N × Nat) : Nat := 1 + x.1.held.length
theorem vol_wtE (l : List (Bw.N × Nat)) : vol wtE l = l.length + (Bw.heldOf l).length := by
  induction l with
  | nil => rfl
  | cons a r ih => rw [vol_cons, ih]; simp only [wtE, Bw.heldOf, List.flatMap_cons, List.length_append, List.length_cons]; omega
theorem vol_one (l : List (Bw.N × Nat)) : vol (fun _ => 1) l = l.length := by
  induction l with
  | nil => rfl
  | cons a r ih => rw [vol_cons, ih]; simp only [List.length_cons]; omega

theorem fit_visits (n : Bw.N) : ∀ lv, n.fit → ∀ x ∈ n.visits lv, x.1.fit := by
  refine Bw.N.ind (P := fun n => ∀ lv, n.fit → ∀ x ∈ n.visits lv, x.1.fit) ?_ ?_ ?_ n
  · intro h p lv hf x hx; simp only [Bw.N.visits, List.mem_singleton] at hx; subst hx; exact hf
  · intro h t lv hf x hx; simp only [Bw.N.visits, List.mem_singleton] at hx; subst hx; exact hf
  · intro m kids ih lv hf x hx
    have hf' := hf
    simp only [Bw.N.fit, Bw.N.fitL_iff] at hf'
    simp only [Bw.N.visits, visitsL_flat, List.mem_cons, List.mem_flatMap, List.mem_map] at hx
    rcases hx with rfl | ⟨o, ⟨k, hk, rfl⟩, hx⟩
    · exact hf
    · exact ih k hk (lv + 1) (hf'.2.2 k hk) x hx

theorem held_count (n : Bw.N) : ∀ lv, (Bw.heldOf (n.visits lv)).length = n.count := by
  refine Bw.N.ind (P := fun n => ∀ lv, (Bw.heldOf (n.visits lv)).length = n.count) ?_ ?_ ?_ n
  · intro h p lv; simp [Bw.heldOf, Bw.N.visits, Bw.N.held, Bw.N.count]
  · intro h t lv; simp [Bw.heldOf, Bw.N.visits, Bw.N.held, Bw.N.count, Bw.T.length_list]
  · intro m kids ih lv
    have : ∀ ks : List Bw.N, (∀ k ∈ ks, k ∈ kids) → (Bw.heldOf (Bw.N.visitsL (lv + 1) ks)).length = Bw.N.countL ks := by
      intro ks
      induction ks with
      | nil => intro _; rfl
      | cons k r ihr =>
        intro hm
        simp only [Bw.N.visitsL, Bw.heldOf_append, List.length_append, Bw.N.countL, ih k (hm k (by simp)) (lv + 1), ihr fun x hx => hm x (by simp [hx])]
    have h := this kids fun _ h => h
    simp only [Bw.N.count, Bw.N.visits]
    rw [← h]
    simp [Bw.heldOf, Bw.N.held]

/-- a node that is gone through with ease -/
structure Slim (n : Bw.N) : Prop where
  fit : n.fit
  deep : ∀ x ∈ n.visits 0, x.2 ≤ 100000
  few : vol wtE (n.visits 0) ≤ 100000

theorem Slim.need {n : Bw.N} (h : Slim n) : n.need wtE 0 ≤ 1099511627776 := by
  have h1 := need_le (wt := wtE) (fun x => by unfold wtE; omega) n 0
  have h2 := Nat.mul_le_mul h.few h.few
  omega
theorem Slim.need1 {n : Bw.N} (h : Slim n) : n.need (fun _ => 1) 0 ≤ 1099511627776 := by
  have h1 := need_le (wt := fun _ => 1) (fun _ => Nat.le_refl _) n 0
  have h2 : vol (fun _ => 1) (n.visits 0) ≤ 100000 := by have := h.few; rw [vol_wtE] at this; rw [vol_one]; omega
  have h3 := Nat.mul_le_mul h2 h2
  omega

theorem onodeL_form {ok : Nat → Prop} {w : World} {v : Value} {o : Option Bw.N} (h : ONodeAt nt ok w v o) : v = .nilIface ∨ ∃ t b, v = .iface t (.pointer (some ⟨b, 0, none⟩)) := by
  cases o with
  | none => exact .inl h
  | some n => exact .inr h.form

theorem slim_len {o : Option Bw.N} (h : ∀ n, o = some n → Slim n) : (Bw.spotsOf (Bw.visitsO 0 o)).length ≤ 1048576 ∧ (Bw.heldOf (Bw.visitsO 0 o)).length ≤ 1048576 := by
  cases o with
  | none => simp [Bw.visitsO, Bw.spotsOf, Bw.heldOf]
  | some n =>
    have := (h n rfl).few
    rw [vol_wtE] at this
    simp only [Bw.visitsO, Bw.spotsOf, List.length_map]
    omega

/-- are two nodes one, in shape and in what they hold? -/
def sameB (a b : Option Bw.N) : Bool := decide (Bw.spotsOf (Bw.visitsO 0 a) = Bw.spotsOf (Bw.visitsO 0 b)) && decide (Bw.heldOf (Bw.visitsO 0 a) = Bw.heldOf (Bw.visitsO 0 b))

end Go.Proofs.YtadaoceidkagfaaDoor
