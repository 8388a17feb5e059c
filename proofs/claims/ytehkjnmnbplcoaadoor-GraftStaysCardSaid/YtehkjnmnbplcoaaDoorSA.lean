
import Derived.Test.YtehkjnmnbplcoaaDoorGA
import Derived.Deep.DeepCutAuto
namespace Go.Proofs.YtehkjnmnbplcoaaDoor
open Go.RowKit Go.Bw

/-- What turns no block but those of D. -/
structure Aside (D : Nat → Prop) (w w' : World) : Prop where
  os : w'.os = w.os
  tape : w'.tape = w.tape
  output : w'.output = w.output
  size : w.heap.size ≤ w'.heap.size
  block : ∀ k, k < w.heap.size → ¬ D k → w'.heap[k]? = w.heap[k]?

theorem Aside.of_below {D : Nat → Prop} {w w' : World} (h : Below w.heap.size w w') : Aside D w w' := ⟨h.os, h.tape, h.output, h.size, fun k hk _ => h.block k hk⟩
theorem Aside.refl (D : Nat → Prop) (w : World) : Aside D w w := ⟨rfl, rfl, rfl, Nat.le_refl _, fun _ _ _ => rfl⟩
theorem Aside.trans {D : Nat → Prop} {a b c : World} (h : Aside D a b) (k : Aside D b c) : Aside D a c :=
  ⟨k.os.trans h.os, k.tape.trans h.tape, k.output.trans h.output, Nat.le_trans h.size k.size, fun i hi hn => (k.block i (Nat.lt_of_lt_of_le hi h.size) hn).trans (h.block i hi hn)⟩
theorem Aside.set {D : Nat → Prop} (w : World) {b : Nat} (o : Nat) (u : Value) (hb : D b) : Aside D w (w.setCell ⟨b, o, none⟩ u) :=
  ⟨rfl, rfl, rfl, by simp, fun k _ hn => Below.heap_setCell w ⟨b, o, none⟩ u k (fun e => hn (by simp only at e; rw [e]; exact hb))⟩
theorem Aside.grown {D : Nat → Prop} {w w' : World} {r : Option Nat} (h : w.grownBy w' r) (hr : ∀ k, r = some k → D k) : Aside D w w' :=
  ⟨h.os, h.tape, h.output, h.size, fun k hk hn => h.block k hk (fun e => hn (hr k e.symm))⟩
theorem Aside.moves {D ok : Nat → Prop} {w w' : World} (h : Aside D w w') (hok : ∀ k, ok k → ¬ D k) : Moves ok ok w w' := fun k hk hl => ⟨hk, h.block k hl (hok k hk)⟩
theorem Aside.below {D : Nat → Prop} {n : Nat} {w w' : World} (h : Aside D w w') (hn : n ≤ w.heap.size) (hD : ∀ k, D k → n ≤ k) : Below n w w' :=
  ⟨h.os, h.tape, h.output, h.size, fun k hk => h.block k (Nat.lt_of_lt_of_le hk hn) (fun hd => by have := hD k hd; omega)⟩

/-- A row of bytes in blocks of D, whatever they are. -/
def Scrap (D : Nat → Prop) (w : World) (v : Value) (n : Nat) : Prop :=
  ∃ A c, v = .slice A n c ∧ ∀ j, j < n → ∃ b o x, A = some ⟨b, o, none⟩ ∧ D b ∧ w.cell? ⟨b, o + j, none⟩ = some (.int .u8 x) ∧ w.frozen? ⟨b, o + j, none⟩ = false

theorem Scrap.set {D : Nat → Prop} {w : World} {v : Value} {n b o : Nat} {x : Int} (h : Scrap D w v n) : Scrap D (w.setCell ⟨b, o, none⟩ (.int .u8 x)) v n := by
  obtain ⟨A, c, rfl, h⟩ := h
  refine ⟨A, c, rfl, fun j hj => ?_⟩
  obtain ⟨b', o', y, rfl, hD, h1, h2⟩ := h j hj
  have hf : (w.setCell ⟨b, o, none⟩ (.int .u8 x)).frozen? ⟨b', o' + j, none⟩ = false := (World.frozen?_setCell _ _ _ _).trans h2
  by_cases e : (⟨b, o, none⟩ : Addr) = ⟨b', o' + j, none⟩
  · exact ⟨b', o', x, rfl, hD, by rw [e]; exact World.cell?_setCell_same w _ _ h1, hf⟩
  · exact ⟨b', o', y, rfl, hD, (World.cell?_setCell_other w _ _ _ e).trans h1, hf⟩

theorem Scrap.below {D : Nat → Prop} {w w' : World} {v : Value} {n : Nat} (h : Scrap D w v n) (hB : Below w.heap.size w w') : Scrap D w' v n := by
  obtain ⟨A, c, rfl, h⟩ := h
  refine ⟨A, c, rfl, fun j hj => ?_⟩
  obtain ⟨b', o', y, rfl, hD, h1, h2⟩ := h j hj
  have hl := World.block_lt_of_cell? w _ h1
  exact ⟨b', o', y, rfl, hD, (hB.cell (p := ⟨b', o' + j, none⟩) hl).trans h1, (hB.frozen (p := ⟨b', o' + j, none⟩) hl).trans h2⟩

theorem Scrap.mono {D D' : Nat → Prop} {w : World} {v : Value} {n : Nat} (h : Scrap D w v n) (hD : ∀ k, D k → D' k) : Scrap D' w v n := by
  obtain ⟨A, c, rfl, h⟩ := h
  refine ⟨A, c, rfl, fun j hj => ?_⟩
  obtain ⟨b', o', y, rfl, h0, h1, h2⟩ := h j hj
  exact ⟨b', o', y, rfl, hD _ h0, h1, h2⟩

theorem Scrap.form {D : Nat → Prop} {w : World} {v : Value} {n : Nat} (h : Scrap D w v n) : ∃ A c, v = .slice A n c := by
  obtain ⟨A, c, rfl, _⟩ := h
  exact ⟨A, c, rfl⟩

/-- append([]byte{}, u...): a row of its own. -/
theorem run_copyB {ok : Nat → Prop} {u : Value} {l : Bw.Bytes} {w : World} (g : Addr) (ty : TypeId) (hu : BytesAt ok w u l) (hl : l.length ≤ 1048576) :
    ∃ v' w', (Builtin.append_ #[29, 29] ty #[.slice (some g) 0 0, u]).run Tryd.prog w = .ok v' w' ∧
      ∃ D : Nat → Prop, (∀ k, D k → w.heap.size ≤ k ∧ k < w'.heap.size) ∧ BytesAt D w' v' l ∧ Scrap D w' v' l.length ∧ Below w.heap.size w w' := by
  obtain ⟨i0, hi, hz0, hz1, hz2⟩ := info_parts infoB
  obtain ⟨A, c, rfl⟩ := hu.form
  by_cases h0 : l = []
  · subst h0
    refine ⟨.slice (some g) 0 0, w, ?_, fun _ => False, fun _ h => h.elim, ⟨some g, 0, rfl, Nat.le_refl _, Nat.zero_le _, (fun e => by cases e), (fun _ _ e => absurd rfl e), fun j x hj => by simp at hj⟩, ⟨some g, 0, rfl, fun j hj => by simp at hj⟩, Below.refl _ _⟩
    cases A with
    | none => simp [Builtin.append_, run_underlying Tryd.underlying29, sizeOf, typeInfo, hi, Builtin.lenOf, run_firstCells_none, storeCells]
    | some ad =>
      have hf := run_firstCells_some (P := Tryd.prog) w i0.size 0 ad 0 c [] (by simp) (by simp)
      simp [Builtin.append_, run_underlying Tryd.underlying29, sizeOf, typeInfo, hi, Builtin.lenOf, hf, storeCells]
  · have hpos : 0 < l.length := List.length_pos_iff.2 h0
    cases A with
    | none =>
      obtain ⟨A', c', e, h2, _, h4, _⟩ := hu
      injection e with e1 e2 e3
      have := h4 e1.symm
      omega
    | some ad =>
      have hn := RowAt.news hu
      have hsz : i0.size = 1 := hz1
      have hby : i0.bytes = 1 := hz2
      obtain ⟨v', w', hr0, hown', hg, _, hat⟩ := run_append_own_at (P := Tryd.prog) w w.heap.size 29 ty 5 i0 (.int .u8 0) 1 1 Tryd.underlying29 hi hz0 hz1 hz2 rfl (by decide) (.slice none 0 0) 0 [] (World.ownsRow_nil _ _ _ _) ad l.length c (l.map encB) (by simp) hn (by simp [encB, Value.oneCell']) (by unfold maxLen; omega) (by omega) (Nat.le_refl _)
      have h1 := run_append_nil (P := Tryd.prog) (w := w) 29 ty 5 i0 (.int .u8 0) Tryd.underlying29 hi hz0 ad l.length c (l.map encB) (by simp [hsz]) hn hpos (by omega) (by rw [hby]; omega)
      have h2 := run_append_grow (P := Tryd.prog) (w := w) 29 ty 5 i0 (.int .u8 0) Tryd.underlying29 hi hz0 g 0 0 [] (by simp) (by simp) ad l.length c (l.map encB) (by simp [hsz]) hn (by omega) (by omega) (by rw [Nat.zero_add, nextslicecap_zero hpos, hby]; omega)
      have h3 := hr0.symm.trans h1
      injection h3 with h3 h4
      refine ⟨v', w', ?_, fun k => k = w.heap.size, ?_, ?_, ?_, ?_⟩
      · rw [h2, h3, h4]
        simp
      · rintro k rfl
        rw [h4]
        simp
      · have hO : OwnAt 5 1 byteK AllB w' w.heap.size v' l := ⟨fun _ _ => trivial, l.map encB, by simpa using hown', Reps.imm _ _ _ _⟩
        obtain ⟨A', c', e', q2, q3, q4, q5, q6⟩ := hO.row goodByte
        refine ⟨A', c', e', q2, q3, q4, q5, fun j x hj => ?_⟩
        obtain ⟨ad', cs, ea, hx, hc⟩ := q6 j x hj
        have hA := e'.symm.trans h3
        injection hA with hA _ _
        rw [ea] at hA
        injection hA with hA
        exact ⟨ad', cs, ea, hx, fun i u hu => ⟨by rw [hA], (hc i u hu).2⟩⟩
      · rcases hown'.2 with ⟨_, hz⟩ | ⟨g', cap, cur, hv, hg', hh, _⟩
        · omega
        · have hb : v'.ownBlock = some g' := by rw [hv]; rfl
          have hgw : g' = w.heap.size := by
            rw [hb] at hat
            rcases hat with hat | hat
            · cases hat
            · injection hat
          refine ⟨some ⟨g', 0, none⟩, cap, by rw [hv, Nat.zero_add], fun j hj => ⟨g', 0, (l[j].toNat : Nat), rfl, hgw, ?_, by simp [World.frozen?, hh]⟩⟩
          have := World.ownsRow.cells hown' hb j (encB l[j]) (by simp [List.getElem?_eq_getElem hj])
          rwa [add_none] at this
      · exact (Below.refl _ _).grown hg (Nat.le_refl _) (fun k e => by simp [Value.ownBlock] at e)
end Go.Proofs.YtehkjnmnbplcoaaDoor

namespace Go.Proofs.YtehkjnmnbplcoaaDoor
open Go.RowKit Go.Bw

/-- not in D, and not in either row's block -/
def Clean (D : Nat → Prop) (ns ms : Value) (b : Nat) : Prop := ¬ D b ∧ ns.ownBlock ≠ some b ∧ ms.ownBlock ≠ some b
/-- not in D, and not in the other row's block -/
def Apart (D : Nat → Prop) (v : Value) (b : Nat) : Prop := ¬ D b ∧ v.ownBlock ≠ some b
def mapsOf (l : List Bw.PV) (k : Nat) : List (List Bw.PV) := (List.range k).map fun j => Bw.come (l.take (j + 1))
theorem mapsOf_succ (l : List Bw.PV) (k : Nat) : mapsOf l (k + 1) = mapsOf l k ++ [Bw.come (l.take (k + 1))] := by
  unfold mapsOf
  rw [List.range_succ, List.map_append]
  rfl
theorem length_mapsOf (l : List Bw.PV) (k : Nat) : (mapsOf l k).length = k := by simp [mapsOf]

abbrev mapK : Knd (List Bw.PV) := slK 2 spK
abbrev goodMap : _root_.Go.Bw.Good 1 mapK := goodSp.slice
theorem infoM : (Tryd.prog.info? 28).map (fun i => (i.zero, i.size, i.bytes)) = some (some (.slice none 0 0), 1, 24) := by kernel_rfl

/-- the loop of GraftStays: the trie and the map, all so far, and the blocks D that are none of theirs -/
def SLoop (t : List Nat) (l : List Bw.PV) (w : World) (n m ns ms i : Value) (wr : World) : Prop :=
  ∃ (k : Nat) (o : Option Bw.N) (os : List (Option Bw.N)) (D : Nat → Prop),
    k ≤ l.length ∧ i = .int .i64 k ∧ os.length = k ∧ (∀ j o', os[j]? = some o' → Bw.OLays 0 o' (Bw.entries t (Bw.come (l.take (j + 1))))) ∧ Bw.OLays 0 o (Bw.entries t (Bw.come (l.take k))) ∧
    ONodeAt nt (Clean D ns ms) wr n o ∧ SPairsAt (Clean D ns ms) wr m (Bw.come (l.take k)) ∧
    OwnAt 27 1 (nodeK nt) (Apart D ms) wr w.heap.size ns os ∧ OwnAt 28 1 mapK (Apart D ns) wr w.heap.size ms (mapsOf l k) ∧
    (∀ b, D b → w.heap.size ≤ b ∧ b < wr.heap.size) ∧ Below w.heap.size w wr

theorem own_ne {ns v8 : Value} {n b : Nat} (e8 : v8.ownBlock = ns.ownBlock ∨ ∃ b, v8.ownBlock = some b ∧ n ≤ b) (h : ns.ownBlock ≠ some b) (hb : b < n) : v8.ownBlock ≠ some b := fun e => by
  rcases e8 with e8 | ⟨b', e8, hb'⟩
  · exact h (e8.symm.trans e)
  · have := e8.symm.trans e
    injection this with this
    omega

theorem SLoop.next {t : List Nat} {l : List Bw.PV} {w w7 w8 w9 : World} {k : Nat} {os : List (Option Bw.N)} {D : Nat → Prop} {nv mv ns ms v8 v9 : Value} {n5 : Bw.N} (hk : k < l.length)
    (hD : ∀ b, D b → w.heap.size ≤ b ∧ b < w7.heap.size) (hos : os.length = k) (hl : ∀ j o', os[j]? = some o' → Bw.OLays 0 o' (Bw.entries t (Bw.come (l.take (j + 1)))))
    (hn : NodeAt nt (Clean D ns ms) w7 nv n5) (hL : Bw.OLays 0 (some n5) (Bw.entries t (Bw.come (l.take (k + 1))))) (hm : SPairsAt (Clean D ns ms) w7 mv (Bw.come (l.take (k + 1))))
    (h8 : OwnAt 27 1 (nodeK nt) (Apart D ms) w8 w.heap.size v8 (os ++ [some n5]))
    (g8 : w7.grownBy w8 ns.ownBlock) (e8 : v8.ownBlock = ns.ownBlock ∨ ∃ b, v8.ownBlock = some b ∧ w7.heap.size ≤ b)
    (h9 : OwnAt 28 1 mapK (Apart D v8) w9 w.heap.size v9 (mapsOf l k ++ [Bw.come (l.take (k + 1))]))
    (g9 : w8.grownBy w9 ms.ownBlock) (e9 : v9.ownBlock = ms.ownBlock ∨ ∃ b, v9.ownBlock = some b ∧ w8.heap.size ≤ b) (hB : Below w.heap.size w w9) :
    SLoop t l w nv mv v8 v9 (.int .i64 ((k + 1 : Nat) : Int)) w9 := by
  have h78 := g8.size
  have h89 := g9.size
  have hmv : Moves (Clean D ns ms) (Clean D v8 v9) w7 w9 := fun b hb hbl =>
    ⟨⟨hb.1, own_ne e8 hb.2.1 hbl, own_ne e9 hb.2.2 (by omega)⟩, (g9.block b (by omega) (fun e => hb.2.2 e.symm)).trans (g8.block b hbl (fun e => hb.2.1 e.symm))⟩
  refine ⟨k + 1, some n5, os ++ [some n5], D, hk, rfl, by simp [hos], ?_, hL, ONodeAt.move hmv hn, hm.move goodSp hmv, ?_, ?_, fun b hb => ?_, hB⟩
  · intro j o' hj
    rcases Nat.lt_or_ge j os.length with hjl | hjl
    · rw [List.getElem?_append_left hjl] at hj
      exact hl j o' hj
    · rw [List.getElem?_append_right hjl] at hj
      have hj0 : j - os.length = 0 := by
        have := (List.getElem?_eq_some_iff.1 hj).1
        simp at this; omega
      rw [hj0] at hj
      simp only [List.getElem?_cons_zero, Option.some.injEq] at hj
      subst hj
      obtain rfl : j = k := by omega
      exact hL
  · exact h8.move (goodNode nt) fun b hb hbl => ⟨⟨hb.1, own_ne e9 hb.2 hbl⟩, g9.block b hbl (fun e => hb.2 e.symm)⟩
  · rw [mapsOf_succ]
    exact h9
  · have := hD b hb; omega

/-- What the rows have when the trie and the map of this round stand. -/
theorem rows_on {l : List Bw.PV} {w w7 w8 : World} {k : Nat} {D : Nat → Prop} {ns ms v8 : Value}
    (hM : OwnAt 28 1 mapK (Apart D ns) w7 w.heap.size ms (mapsOf l k)) (g8 : w7.grownBy w8 ns.ownBlock) (e8 : v8.ownBlock = ns.ownBlock ∨ ∃ b, v8.ownBlock = some b ∧ w7.heap.size ≤ b) :
    OwnAt 28 1 mapK (Apart D v8) w8 w.heap.size ms (mapsOf l k) :=
  hM.move goodMap fun b hb hbl => ⟨⟨hb.1, own_ne e8 hb.2 hbl⟩, g8.block b hbl (fun e => hb.2 e.symm)⟩

/-- the loop over the bytes of a copy -/
def BLoop (D : Nat → Prop) (w5 : World) (u1 u2 : Value) (n1 n2 n : Nat) (i : Value) (wr : World) : Prop :=
  ∃ j : Nat, j ≤ n ∧ i = .int .i64 j ∧ Aside D w5 wr ∧ Scrap D wr u1 n1 ∧ Scrap D wr u2 n2

def ELoop (l : List Bw.PV) (wE : World) (i : Value) (wr : World) : Prop := ∃ k : Nat, k ≤ l.length ∧ i = .int .i64 k ∧ Below wE.heap.size wE wr
theorem blk_new {w : World} {o : Obj} {i : Nat} (h : i = w.heap.size) : (w.alloc o).heap[i]? = some o := h ▸ heap_alloc_new w o
theorem blk_alloc {w : World} {o x : Obj} {i : Nat} (h : w.heap[i]? = some x) : (w.alloc o).heap[i]? = some x :=
  (Below.heap_alloc w o i (Array.getElem?_eq_some_iff.1 h).1).trans h
theorem blk_drew {w : World} {x : Obj} {i : Nat} (h : w.heap[i]? = some x) : w.drew.heap[i]? = some x := h
theorem blk_below {n : Nat} {a b : World} {x : Obj} {i : Nat} (hb : Below n a b) (hi : i < n) (h : a.heap[i]? = some x) : b.heap[i]? = some x := (hb.block i hi).trans h

/-- the two copies stand, in a box of their own -/
def CopyAt (w3 : World) (qx qy : Bw.Bytes) (s : Value) (wx : World) : Prop :=
  ∃ (g : Nat) (u1 u2 : Value) (E : Nat → Prop), s = .pointer (some ⟨g, 0, none⟩) ∧ w3.heap.size ≤ g ∧ ¬ E g ∧ (∀ b, E b → w3.heap.size ≤ b ∧ b < wx.heap.size) ∧ wx.heap[g]? = some (.cells #[u1, u2] 31 (0, 0)) ∧ BytesAt E wx u1 qx ∧ BytesAt E wx u2 qy ∧ Scrap E wx u1 qx.length ∧ Scrap E wx u2 qy.length ∧ Below w3.heap.size w3 wx

theorem Scrap.block {D : Nat → Prop} {w w' : World} {v : Value} {n : Nat} (h : Scrap D w v n) (hB : ∀ k, D k → k < w.heap.size → w'.heap[k]? = w.heap[k]?) : Scrap D w' v n := by
  obtain ⟨A, c, rfl, h⟩ := h
  refine ⟨A, c, rfl, fun j hj => ?_⟩
  obtain ⟨b', o', y, rfl, hD, h1, h2⟩ := h j hj
  have hl := World.block_lt_of_cell? w _ h1
  have hb := hB b' hD hl
  exact ⟨b', o', y, rfl, hD, (World.cell?_of_block (w := w) (a := ⟨b', o' + j, none⟩) hb).trans h1, by rw [← h2]; simp only [World.frozen?, hb]⟩

theorem copy_box {w3 wK wV : World} {EK EV : Nat → Prop} {a1 a2 z1 z2 : Value} {qx qy : Bw.Bytes} {G : Nat} (hEK : ∀ k, EK k → w3.heap.size ≤ k ∧ k < wK.heap.size) (hEV : ∀ k, EV k → w3.heap.size ≤ k ∧ k < wV.heap.size)
    (hKV : Below wK.heap.size wK wV) (hbox : wV.heap[G]? = some (.cells #[z1, z2] 31 (0, 0))) (hGK : ¬ EK G) (hGV : ¬ EV G) (h3 : w3.heap.size ≤ G)
    (hb1 : BytesAt EK wK a1 qx) (hs1 : Scrap EK wK a1 qx.length) (hb2 : BytesAt EV wV a2 qy) (hs2 : Scrap EV wV a2 qy.length) (hB : Below w3.heap.size w3 wV) :
    CopyAt w3 qx qy (.pointer (some ⟨G, 0, none⟩)) ((wV.setCell ⟨G, 0, none⟩ a1).setCell ⟨G, 1, none⟩ a2) := by
  have hm : ∀ k, k ≠ G → ((wV.setCell ⟨G, 0, none⟩ a1).setCell ⟨G, 1, none⟩ a2).heap[k]? = wV.heap[k]? := fun k hk => (Below.heap_setCell _ ⟨G, 1, none⟩ a2 k hk).trans (Below.heap_setCell _ ⟨G, 0, none⟩ a1 k hk)
  have hK : ∀ k, EK k → k < wK.heap.size → ((wV.setCell ⟨G, 0, none⟩ a1).setCell ⟨G, 1, none⟩ a2).heap[k]? = wK.heap[k]? := fun k hk hl => (hm k (fun e => hGK (e ▸ hk))).trans (hKV.block k hl)
  have hV : ∀ k, EV k → k < wV.heap.size → ((wV.setCell ⟨G, 0, none⟩ a1).setCell ⟨G, 1, none⟩ a2).heap[k]? = wV.heap[k]? := fun k hk _ => hm k (fun e => hGV (e ▸ hk))
  have hkv := hKV.size
  refine ⟨G, a1, a2, fun b => EK b ∨ EV b, rfl, h3, fun h => h.elim hGK hGV, ?_, ?_, hb1.move goodByte fun k hk hl => ⟨.inl hk, hK k hk hl⟩, hb2.move goodByte fun k hk hl => ⟨.inr hk, hV k hk hl⟩, (hs1.block hK).mono fun _ h => .inl h, (hs2.block hV).mono fun _ h => .inr h,
    (hB.setCell (p := ⟨G, 0, none⟩) h3 _).setCell (p := ⟨G, 1, none⟩) h3 _⟩
  · rintro b (h | h)
    · have := hEK b h; simp; omega
    · have := hEV b h; simp; omega
  · have hl := (Array.getElem?_eq_some_iff.1 hbox).1
    have h1 := Joins.block_setCell (i := 0) hbox a1
    have h2 := Joins.block_setCell (i := 1) h1 a2
    simpa using h2

theorem copy_new {w3 wK wV : World} {EK EV : Nat → Prop} {a1 a2 : Value} {qx qy : Bw.Bytes} (hEK : ∀ k, EK k → w3.heap.size ≤ k ∧ k < wK.heap.size) (hEV : ∀ k, EV k → w3.heap.size ≤ k ∧ k < wV.heap.size)
    (hKV : Below wK.heap.size wK wV) (hb1 : BytesAt EK wK a1 qx) (hs1 : Scrap EK wK a1 qx.length) (hb2 : BytesAt EV wV a2 qy) (hs2 : Scrap EV wV a2 qy.length) (hB : Below w3.heap.size w3 wV) :
    CopyAt w3 qx qy (.pointer (some ⟨wV.heap.size, 0, none⟩)) (wV.alloc (.cells #[a1, a2] 31)) := by
  have hm : ∀ k, k < wV.heap.size → (wV.alloc (.cells #[a1, a2] 31)).heap[k]? = wV.heap[k]? := fun k hk => Below.heap_alloc wV _ k hk
  have hkv := hKV.size
  have hK : ∀ k, EK k → k < wK.heap.size → (wV.alloc (.cells #[a1, a2] 31)).heap[k]? = wK.heap[k]? := fun k hk hl => (hm k (by omega)).trans (hKV.block k hl)
  have hV : ∀ k, EV k → k < wV.heap.size → (wV.alloc (.cells #[a1, a2] 31)).heap[k]? = wV.heap[k]? := fun k hk hl => hm k hl
  refine ⟨wV.heap.size, a1, a2, fun b => EK b ∨ EV b, rfl, hB.size, fun h => h.elim (fun h => by have := hEK _ h; omega) (fun h => by have := hEV _ h; omega), ?_, heap_alloc_new _ _, hb1.move goodByte fun k hk hl => ⟨.inl hk, hK k hk hl⟩, hb2.move goodByte fun k hk hl => ⟨.inr hk, hV k hk hl⟩, (hs1.block hK).mono fun _ h => .inl h, (hs2.block hV).mono fun _ h => .inr h, hB.alloc hB.size _⟩
  rintro b (h | h)
  · have := hEK b h; simp; omega
  · have := hEV b h; simp; omega
end Go.Proofs.YtehkjnmnbplcoaaDoor

namespace Go.Proofs.YtehkjnmnbplcoaaDoor
open Go.RowKit Go.Bw

theorem st_appB {K : Act → World → Prop} {E : Prop} {o : Oper} {ops : Array Oper} {a : Act} {Q : Exit → Act → World → Prop} {w : World} {ok : Nat → Prop} {u : Value} {l : Bw.Bytes} (hgd : o.guard = none) (s x : Operand)
    (ho : o.op = .call { callee := .builtin .append, args := #[s, x], argTypes := #[29, 29] }) (g : Addr) (hs : a.eval s = .slice (some g) 0 0) (hx : a.eval x = u) (hu : BytesAt ok w u l) (hl : l.length ≤ 1048576)
    (h : ∀ v' w' D, (∀ k, D k → w.heap.size ≤ k ∧ k < w'.heap.size) → BytesAt D w' v' l → Scrap D w' v' l.length → Below w.heap.size w w' → K (a.put o.dst v') w') :
    if Region.wanted o (yielded ops a.tmps) = true then Oper.wp Tryd.prog o a w K Q else E := by
  have hw : Region.wanted o (yielded ops a.tmps) = true := by simp [Region.wanted, hgd]
  rw [if_pos hw]
  obtain ⟨v', w', hr, D, h1, h2, h3, h4⟩ := run_copyB g o.type hu hl
  unfold Oper.wp execOp
  simp only [ho, resolve, invoke, builtin, Sem.run_bind, Sem.run_pure, Result.andThen_ok, List.map_toArray, List.map_cons, List.map_nil, hs, hx, hr]
  exact h v' w' D h1 h2 h3 h4

set_option maxRecDepth 100000 in
set_option maxHeartbeats 8000000 in
theorem stays_any {t : List Nat} {l : List Bw.PV} {tv v : Value} {w : World} (ht : ∀ x ∈ t, x < 18446744073709551616) (hr : PairsAt AllB w v l) (htr : RowAt 1 natK64 AllB w tv t) (hT : Tab w) :
    Calls Tryd.prog 4 #[tv, v] w fun e w' => e = .returned (.bool true) ∧ Below w.heap.size w w' := by
  obtain ⟨A, c, rfl⟩ := hr.form
  obtain ⟨AT, ct, rfl⟩ := htr.form
  have CF := Lib.hid (fine19_any 25 (by decide) htr hr)
  have CA := Lib.hid (fun W (hW : Below w.heap.size w W) => awake19_any W (hT.below hT.pos hW))
  cases hfine : fine19 t l 25 with
  | false =>
    rw [hfine] at CF
    clear hr htr ht hfine hT
    go_enter Tryd.func4, Tryd.ntmps4
    go_wp2_with fail
    refine CF.out.mono ?_
    rintro e w1 ⟨rfl, hb1⟩
    go_wp2_with fail
    refine (CA.out _ hb1).mono ?_
    rintro e w2 ⟨rfl, hb2⟩
    have HB := Lib.hid (hb1.trans (hb2.mono hb1.size))
    clear hb1 hb2
    go_wp2
    go_ret
    exact ⟨rfl, HB.out⟩
  | true =>
    rw [hfine] at CF
    obtain ⟨ht200, hl25, hby⟩ := fine19_parts hfine
    have HL : Hid (l.length ≤ 1048576) := Lib.hid (by omega)
    have HL25 := Lib.hid hl25
    have ht1 : t.length ≤ 1048576 := by omega
    have HM : Hid (∀ k, MapOk (Bw.come (l.take k))) := Lib.hid fun k => mapOk_come (Nat.le_trans (List.length_take_le' _ _) (by omega)) fun p hp => hby p (List.mem_of_mem_take hp)
    have HBY := Lib.hid hby; have HR := Lib.hid hr; have HTR := Lib.hid htr; have HT1 := Lib.hid ht1; have HTT := Lib.hid ht; have HTAB := Lib.hid hT
    obtain ⟨iN, hi, hz0, hz1, hz2⟩ := info_parts infoN
    have HI := Lib.hid hi; have HZ0 := Lib.hid hz0; have HZ1 := Lib.hid hz1; have HZ2 := Lib.hid hz2
    obtain ⟨iM, mi, mz0, mz1, mz2⟩ := info_parts infoM
    have MI := Lib.hid mi; have MZ0 := Lib.hid mz0; have MZ1 := Lib.hid mz1; have MZ2 := Lib.hid mz2
    clear hr htr ht hfine hT ht200 hl25 hby ht1 hi hz0 hz1 hz2 mi mz0 mz1 mz2
    go_enter Tryd.func4, Tryd.ntmps4
    go_wp2_with fail
    refine CF.out.mono ?_
    rintro e w1 ⟨rfl, hb1⟩
    have H0 : Hid (SLoop t l w .nilIface (.slice none 0 0) (.slice none 0 0) (.slice none 0 0) (.int .i64 0) w1) := Lib.hid ⟨0, none, [], fun _ => False, Nat.zero_le _, rfl, rfl, fun j o' h => by simp at h, rfl, rfl, RowAt.nil, OwnAt.nil, OwnAt.nil, fun _ h => h.elim, hb1⟩
    clear hb1
    go_wp2_with fail
    go_loopw [5, 6, 7, 8, 23] (SLoop t l w) (fun _ _ _ _ i _ => l.length - (intOf i).toNat)
    case atStart => exact H0.out
    case round =>
      obtain ⟨j, o, os, D, hj, rfl, hos, hol, hOL, hN, hMv, hns, hms, hD, hB⟩ := hrel
      obtain ⟨wA, rfl⟩ : ∃ wA, wA = wr := ⟨_, rfl⟩
      by_cases hlt : j < l.length
      · obtain ⟨b, off, u1, u2, rfl, hob, c0, c1, hu, hv⟩ := pair_get HR.out (List.getElem?_eq_getElem hlt)
        obtain ⟨U1, cu1, rfl⟩ := hu.form
        obtain ⟨U2, cu2, rfl⟩ := hv.form
        have hbl := World.block_lt_of_cell? w _ c0
        dsimp only at hbl
        have d0 := (hB.cell (p := ⟨b, off + j * 2, none⟩) hbl).trans c0
        have d1 := (hB.cell (p := ⟨b, off + j * 2 + 1, none⟩) hbl).trans c1
        have hbl2 : b < wA.heap.size := Nat.lt_of_lt_of_le hbl hB.size
        have h0 : (0 : Int) ≤ (j : Int) := by omega
        have h1 : (j : Int) < (l.length : Int) := by omega
        have hq := HBY.out l[j] (List.getElem_mem hlt)
        have hcs : Bw.come (l.take (j + 1)) = Bw.put (Bw.come (l.take j)) l[j] := by rw [take_succ_snoc hlt, come_snoc]
        have hmk := HM.out j
        have hmk1 := HM.out (j + 1)
        generalize l[j] = q at *
        obtain ⟨qx, qy⟩ := q
        dsimp only at *
        rw [hcs] at hmk1
        generalize hm : Bw.come (l.take j) = m at *
        obtain ⟨W1, hW1⟩ : ∃ W1, wA.alloc (.cells #[.slice U1 qx.length cu1, .slice U2 qy.length cu2] 31) = W1 := ⟨_, rfl⟩
        have hb1 : Below wA.heap.size wA W1 := by rw [← hW1]; (repeat (first | exact Below.refl _ _ | with_reducible assumption | refine Below.drew ?_ | refine b_drewN ?_ _ | (refine Below.alloc ?_ (by first | omega | (simp <;> omega)) _)))
        have hs1 : wA.heap.size < W1.heap.size := by rw [← hW1]; simp
        have x0 : W1.cell? ⟨wA.heap.size, 0, none⟩ = some (.slice U1 qx.length cu1) := by rw [← hW1]; exact cell_new wA 0 _ _ 0 _ rfl
        have x1 : W1.cell? ⟨wA.heap.size, 1, none⟩ = some (.slice U2 qy.length cu2) := by rw [← hW1]; exact cell_new wA 0 _ _ 1 _ rfl
        have hB1 := hB.trans (hb1.mono hB.size)
        have hBW : ∀ W, Below W1.heap.size W1 W → Below w.heap.size w W := fun W hW => hB1.trans (hW.mono hB1.size)
        have hbW : ∀ W, Below W1.heap.size W1 W → Below wA.heap.size wA W := fun W hW => hb1.trans (hW.mono hb1.size)
        have SK : Hid (∀ W, Below W1.heap.size W1 W → W.cell? ⟨wA.heap.size, 0, none⟩ = some (.slice U1 qx.length cu1) ∧ W.cell? ⟨wA.heap.size, 1, none⟩ = some (.slice U2 qy.length cu2)) := Lib.hid fun W hW => ⟨(hW.cell (p := ⟨wA.heap.size, 0, none⟩) hs1).trans x0, (hW.cell (p := ⟨wA.heap.size, 1, none⟩) hs1).trans x1⟩
        have HQ1 := Lib.hid (fun W (hW : Below W1.heap.size W1 W) => run_conv (P := Tryd.prog) 29 9 5 Tryd.underlying29 Tryd.underlying5 Tryd.underlying9 (hu.move goodByte (Moves.below (hBW W hW))))
        have HQ2 := Lib.hid (fun W (hW : Below W1.heap.size W1 W) => run_conv (P := Tryd.prog) 29 9 5 Tryd.underlying29 Tryd.underlying5 Tryd.underlying9 (hv.move goodByte (Moves.below (hBW W hW))))
        have HU := Lib.hid (fun W (hW : Below W1.heap.size W1 W) => hu.move goodByte (Moves.below (hBW W hW)))
        have HV := Lib.hid (fun W (hW : Below W1.heap.size W1 W) => hv.move goodByte (Moves.below (hBW W hW)))
        have CU := Lib.hid (fun W (hW : Below W1.heap.size W1 W) => rput_any (px := qx) (py := qy) (Nat.le_trans hmk.len (by decide)) hq.1 (fun q hq => (hmk.bytes q hq).1) (hMv.move goodSp (Moves.below (hbW W hW))) hmk.rises)
        have CH := Lib.hid (fun (W : World) (hW : Below w.heap.size w W) => (thash_any hq.1 HT1.out (HTR.out.move goodNat64 (Moves.below hW))).mono (R' := fun e w' => e = .returned (.int .u64 (Bw.tabHash t qx : Nat)) ∧ Below W.heap.size W w') (fun _ _ h => ⟨h.1, h.2 ▸ Below.refl _ _⟩))
        simp only [str] at CH
        have hz1 := Below.refl W1.heap.size W1
        obtain ⟨y0, y1⟩ := SK.out W1 hz1
        have q1 : (convert 29 9 (.slice U1 qx.length cu1)).run Tryd.prog (wA.alloc (.cells #[.slice U1 qx.length cu1, .slice U2 qy.length cu2] 31)) = .ok (.string ⟨qx.toArray⟩) W1 := by rw [hW1]; exact HQ1.out W1 hz1
        have q2 := HQ2.out W1 hz1
        obtain ⟨AM, cm, rfl⟩ := hMv.form
        have HLT := Lib.hid hlt
        have HQ := Lib.hid hq
        have HW1 := Lib.hid hW1
        have HB1W := Lib.hid hb1
        have HBW := Lib.hid hBW
        have HMK := Lib.hid hmk; have HMK1 := Lib.hid hmk1; have HCS := Lib.hid hcs; have HN := Lib.hid hN; have HOL := Lib.hid hOL; have HOS := Lib.hid hos; have HOLS := Lib.hid hol; have HNS := Lib.hid hns; have HMS := Lib.hid hms; have HD := Lib.hid hD; have HBR := Lib.hid hB
        obtain ⟨AN, cn, hnsv⟩ := (hns.row (goodNode nt)).form
        obtain ⟨AS, cs', hmsv⟩ := (hms.row goodMap).form
        rw [hos] at hnsv
        rw [length_mapsOf] at hmsv
        subst hnsv; subst hmsv
        clear hu hv c0 c1 hb1 hB1 hBW hbW hlt hW1 hmk1 hmk hcs hN hOL hMv hB hq H0 CF CA hos hol hns hms hD
        go_wp2_with fail
        refine (CU.out W1 hz1).mono ?_
        rintro e w3 ⟨mv3, rfl, hm3, hb3⟩
        have hs3 := Nat.le_trans (Nat.le_of_lt hs1) hb3.size
        obtain ⟨A3, c3, rfl⟩ := hm3.form
        have HM3 := Lib.hid hm3
        have HB3 := Lib.hid hb3
        clear hm3 hb3 y0 y1 q1 q2
        go_upto_region 12 with fail
        go_cut [12] (fun s12 wx => ∃ (g : Nat) (u1 u2 : Value) (E : Nat → Prop), s12 = .pointer (some ⟨g, 0, none⟩) ∧ w3.heap.size ≤ g ∧ ¬ E g ∧ (∀ b, E b → w3.heap.size ≤ b ∧ b < wx.heap.size) ∧ wx.heap[g]? = some (.cells #[u1, u2] 31 (0, 0)) ∧ BytesAt E wx u1 qx ∧ BytesAt E wx u2 qy ∧ Scrap E wx u1 qx.length ∧ Scrap E wx u2 qy.length ∧ Below w3.heap.size w3 wx)
        case first =>
          have H13 : Below W1.heap.size W1 w3 := HB3.out
          have hk : Below w3.heap.size w3 w3 := Below.refl w3.heap.size w3
          have h33 : w3.heap.size ≤ w3.heap.size := Nat.le_refl _
          have hd := H13.drew
          obtain ⟨y0, y1⟩ := SK.out _ hd
          have H1W : Hid (∀ W, Below w3.heap.size w3 W → Below W1.heap.size W1 W) := Lib.hid fun W hW => H13.trans (hW.mono H13.size)
          go_region_held3 (fun W => W.cell? ⟨wA.heap.size, 0, none⟩ = some (.slice U1 qx.length cu1) ∧ W.cell? ⟨wA.heap.size, 1, none⟩ = some (.slice U2 qy.length cu2))
            (exact SK.out _ (H1W.out _ (by repeat (first | exact Below.refl _ _ | with_reducible assumption | refine Below.drew ?_ | refine b_drewN ?_ _ | (refine Below.alloc ?_ (by first | omega | (simp <;> omega)) _) | (refine Below.setCell ?_ (by first | omega | (simp <;> omega)) _)))))
            ((first
              | (refine st_appB rfl (.tmp 37) (.tmp 39) rfl _ rfl rfl (HU.out _ (H1W.out _ (by repeat (first | exact Below.refl _ _ | with_reducible assumption | refine Below.drew ?_ | refine b_drewN ?_ _ | (refine Below.alloc ?_ (by first | omega | (simp <;> omega)) _) | (refine Below.setCell ?_ (by first | omega | (simp <;> omega)) _))))) HQ.out.1 ?_; intro vK wK EK hEK hbtK hscK hbK; obtain ⟨AK, cK, rfl⟩ := hscK.form; have hk := (Below.trans (by repeat (first | exact Below.refl _ _ | with_reducible assumption | refine Below.drew ?_ | refine b_drewN ?_ _ | (refine Below.alloc ?_ (by first | omega | (simp <;> omega)) _) | (refine Below.setCell ?_ (by first | omega | (simp <;> omega)) _))) (Below.mono hbK (by first | omega | (simp <;> omega))) : Below w3.heap.size w3 wK); have hcK := fun (p : Addr) (hp : p.block < _) => hbK.cell (p := p) hp; have hfK := fun (p : Addr) (hp : p.block < _) => hbK.frozen (p := p) hp; have hzK := hbK.size; try simp at hzK; have h3K := hk.size; try (have hl1K : w3.heap.size < wK.heap.size := by omega); try (have hl2K : w3.heap.size + 1 < wK.heap.size := by omega); try (have hl5K : w3.heap.size + 1 + 1 < wK.heap.size := by omega); try (have hl3K : wV.heap.size < wK.heap.size := by omega); try (have hl4K : wV.heap.size + 1 < wK.heap.size := by omega))
              | (refine st_appB rfl (.tmp 41) (.tmp 43) rfl _ rfl rfl (HV.out _ (H1W.out _ (by repeat (first | exact Below.refl _ _ | with_reducible assumption | refine Below.drew ?_ | refine b_drewN ?_ _ | (refine Below.alloc ?_ (by first | omega | (simp <;> omega)) _) | (refine Below.setCell ?_ (by first | omega | (simp <;> omega)) _))))) HQ.out.2 ?_; intro vV wV EV hEV hbtV hscV hbV; obtain ⟨AV, cV, rfl⟩ := hscV.form; have hk := (Below.trans (by repeat (first | exact Below.refl _ _ | with_reducible assumption | refine Below.drew ?_ | refine b_drewN ?_ _ | (refine Below.alloc ?_ (by first | omega | (simp <;> omega)) _) | (refine Below.setCell ?_ (by first | omega | (simp <;> omega)) _))) (Below.mono hbV (by first | omega | (simp <;> omega))) : Below w3.heap.size w3 wV); have hcV := fun (p : Addr) (hp : p.block < _) => hbV.cell (p := p) hp; have hfV := fun (p : Addr) (hp : p.block < _) => hbV.frozen (p := p) hp; have hzV := hbV.size; try simp at hzV; have h3V := hk.size; try (have hl1V : w3.heap.size < wV.heap.size := by omega); try (have hl2V : w3.heap.size + 1 < wV.heap.size := by omega); try (have hl5V : w3.heap.size + 1 + 1 < wV.heap.size := by omega); try (have hl3V : wK.heap.size < wV.heap.size := by omega); try (have hl4V : wK.heap.size + 1 < wV.heap.size := by omega))))
          all_goals go_wp2_with fail
          all_goals go_meet
          all_goals change CopyAt w3 qx qy (Value.pointer _) _
          all_goals clear y0 y1 hd
          all_goals have hKV : Below wK.heap.size wK wV := by (refine Below.trans ?_ (Below.mono hbV (by first | omega | (simp <;> omega))); (repeat (first | exact Below.refl _ _ | with_reducible assumption | refine Below.drew ?_ | refine b_drewN ?_ _ | (refine Below.alloc ?_ (by first | omega | (simp <;> omega)) _))))
          all_goals have hE1 : ∀ k, EK k → w3.heap.size ≤ k ∧ k < wK.heap.size := fun k hk => ⟨Nat.le_trans (by first | omega | (simp <;> omega)) (hEK k hk).1, (hEK k hk).2⟩
          all_goals have hE2 : ∀ k, EV k → w3.heap.size ≤ k ∧ k < wV.heap.size := fun k hk => ⟨Nat.le_trans (by first | omega | (simp <;> omega)) (hEV k hk).1, (hEV k hk).2⟩
          all_goals first
            | (with_reducible exact copy_new hE1 hE2 hKV hbtK hscK hbtV hscV hk)
            | (with_reducible refine copy_box (z1 := .slice none 0 0) (z2 := .slice none 0 0) hE1 hE2 hKV ?_ ?_ ?_ ?_ hbtK hscK hbtV hscV hk)
          all_goals first
            | (intro h; have := hEK _ h; first | omega | (simp at this; omega))
            | (intro h; have := hEV _ h; first | omega | (simp at this; omega))
            | (with_reducible refine blk_below hbV ?h1 ?h2
               case h1 => first | omega | (simp <;> omega)
               case h2 =>
                repeat (first
                  | (with_reducible exact blk_new (by simp))
                  | (with_reducible refine blk_alloc ?_)
                  | (with_reducible refine blk_drew ?_)
                  | (refine blk_below hbK ?_ ?_; first | omega | (simp <;> omega))))
            | omega
        case rest =>
          obtain ⟨g, u1, u2, E, rfl, hg, hEg, hE, hbox, hu1, hu2, hs1', hs2', hb3x⟩ := hcut
          obtain ⟨A1, e1, rfl⟩ := hs1'.form
          obtain ⟨A2, e2, rfl⟩ := hs2'.form
          have hgl : g < wc.heap.size := by rw [Array.getElem?_eq_some_iff] at hbox; exact hbox.1
          have hb3c : Below w3.heap.size w3 wc := hb3x
          have hbA3 : Below wA.heap.size wA w3 := HB1W.out.trans (HB3.out.mono HB1W.out.size)
          have hbAc : Below wA.heap.size wA wc := hbA3.trans (hb3c.mono hbA3.size)
          have hBc : Below w.heap.size w wc := HBR.out.trans (hbAc.mono HBR.out.size)
          have lns := HNS.out.lt
          have lms := HMS.out.lt
          have SB : Hid (∀ W, Below wc.heap.size wc W → W.cell? ⟨g, 0, none⟩ = some (.slice A1 qx.length e1) ∧ W.cell? ⟨g, 1, none⟩ = some (.slice A2 qy.length e2)) := Lib.hid fun W hW => by
            have := (hW.block g hgl).trans hbox
            constructor <;> simp [World.cell?, this]
          have CP := Lib.hid (fun (W : World) (hW : Below wc.heap.size wc W) => gput_trie (ok := fun b => Clean D (.slice AN j cn) (.slice AS j cs') b ∧ b < wA.heap.size ∨ wc.heap.size ≤ b) (okb := E) (p := (qx, qy)) HTT.out HMK.out HQ.out
            (ONodeAt.move (fun b hb hl => ⟨.inl ⟨hb, hl⟩, (hbAc.trans (hW.mono hbAc.size)).block b hl⟩) HN.out) HOL.out (hu1.move goodByte (Moves.below hW)) (hu2.move goodByte (Moves.below hW)) (fun b hb => .inr (Nat.le_trans hW.size hb)) (HTAB.out.below HTAB.out.pos (hBc.trans (hW.mono hBc.size))))
          have HBC := Lib.hid hBc
          have HBOX := Lib.hid hbox
          have HS1 := Lib.hid hs1'; have HS2 := Lib.hid hs2'
          have HE := Lib.hid hE; have HEG := Lib.hid hEg; have HB3C := Lib.hid hb3c; have HBA3 := Lib.hid hbA3
          clear hbox hu1 hu2 hs1' hs2' hE hEg hb3x hbAc hBc hb3c hbA3
          have hd := (Below.refl wc.heap.size wc).drew
          obtain ⟨y0, y1⟩ := SB.out _ hd
          go_wp2_with fail
          go_region_held3 (fun W => W.cell? ⟨g, 0, none⟩ = some (.slice A1 qx.length e1) ∧ W.cell? ⟨g, 1, none⟩ = some (.slice A2 qy.length e2))
            (first | with_reducible exact SB.out _ hb5c | with_reducible exact SB.out _ hb4c | with_reducible exact SB.out _ hd)
            ((first
              | (go_at_call 18; (with_reducible refine (CH.out _ (HBC.out.trans (hd.mono HBC.out.size))).mono ?_); rintro e w4 ⟨rfl, hb4⟩; have hb4c := hd.trans (hb4.mono hd.size))
              | (go_at_call 17; (with_reducible refine (CP.out _ hb4c).mono ?_); rintro e w5 ⟨nv5, n5, rfl, hn5, hl5, hb5⟩; obtain ⟨t5, b5, rfl⟩ := hn5.form; have hb5c := hb4c.trans (hb5.mono hb4c.size))))
          have HB5 := Lib.hid hb5c
          have HN5 := Lib.hid hn5; have HL5 := Lib.hid hl5
          have H1 : Hid (BLoop E w5 (.slice A1 qx.length e1) (.slice A2 qy.length e2) qx.length qy.length qx.length (.int .i64 0) w5) := Lib.hid ⟨0, Nat.zero_le _, rfl, Aside.refl _ _, HS1.out.below hb5c, HS2.out.below hb5c⟩
          have HBX : Hid (∀ W, Aside E w5 W → W.cell? ⟨g, 0, none⟩ = some (.slice A1 qx.length e1) ∧ W.cell? ⟨g, 1, none⟩ = some (.slice A2 qy.length e2)) := Lib.hid fun W hW => by
            have := (hW.block g (Nat.lt_of_lt_of_le hgl HB5.out.size) HEG.out).trans ((HB5.out.block g hgl).trans HBOX.out)
            constructor <;> simp [World.cell?, this]
          obtain ⟨z0, z1⟩ := HBX.out w5 (Aside.refl _ _)
          clear y0 y1 hb5 hb4 hb4c hb5c hn5 hl5 hd
          go_wp2_with fail
          go_loopw [58] (BLoop E w5 (.slice A1 qx.length e1) (.slice A2 qy.length e2) qx.length qy.length qx.length) (fun i _ => qx.length - (intOf i).toNat)
          case atStart => exact H1.out
          case round =>
            obtain ⟨i, hi, rfl, hA, hs1, hs2⟩ := hrel
            obtain ⟨k0, k1⟩ := HBX.out wr hA
            by_cases hil : i < qx.length
            · have hsc := hs1
              obtain ⟨A', c', e', hc⟩ := hsc
              cases e'
              obtain ⟨bb, ob, x, rfl, hEb, hc0, hf0⟩ := hc i hil
              have g0 : (0 : Int) ≤ (i : Int) := by omega
              have g1 : (i : Int) < (qx.length : Int) := by omega
              have hqb := HQ.out.1
              have HI1 := Lib.hid (int_succ hil hqb)
              have HI2 := Lib.hid (less_succ hil hqb)
              have HA := Lib.hid hA; have HS1' := Lib.hid hs1; have HS2' := Lib.hid hs2; have HEB := Lib.hid hEb
              have HIL := Lib.hid hil
              clear hc hA hs1 hs2 hqb hEb hil
              go_wp2
              exact ⟨⟨i + 1, HIL.out, HI1.out, HA.out.trans (Aside.set _ _ _ HEB.out), HS1'.out.set, HS2'.out.set⟩, HI2.out⟩
            · obtain rfl : i = qx.length := by omega
              have H2 : Hid (BLoop E w5 (.slice A1 qx.length e1) (.slice A2 qy.length e2) qx.length qy.length qy.length (.int .i64 0) wr) := Lib.hid ⟨0, Nat.zero_le _, rfl, hA, hs1, hs2⟩
              clear hA hs1 hs2 hil
              go_wp2_with fail
              go_loopw [72] (BLoop E w5 (.slice A1 qx.length e1) (.slice A2 qy.length e2) qx.length qy.length qy.length) (fun i _ => qy.length - (intOf i).toNat)
              case atStart => exact H2.out
              case round =>
                obtain ⟨i, hi, rfl, hA, hs1, hs2⟩ := hrel
                obtain ⟨k0, k1⟩ := HBX.out wr hA
                by_cases hil : i < qy.length
                · have hsc := hs2
                  obtain ⟨A', c', e', hc⟩ := hsc
                  cases e'
                  obtain ⟨bb, ob, x, rfl, hEb, hc0, hf0⟩ := hc i hil
                  have g0 : (0 : Int) ≤ (i : Int) := by omega
                  have g1 : (i : Int) < (qy.length : Int) := by omega
                  have hqb := HQ.out.2
                  have HI1 := Lib.hid (int_succ hil hqb)
                  have HI2 := Lib.hid (less_succ hil hqb)
                  have HA := Lib.hid hA; have HS1' := Lib.hid hs1; have HS2' := Lib.hid hs2; have HEB := Lib.hid hEb
                  have HIL := Lib.hid hil
                  clear hc hA hs1 hs2 hqb hEb hil
                  go_wp2
                  exact ⟨⟨i + 1, HIL.out, HI1.out, HA.out.trans (Aside.set _ _ _ HEB.out), HS1'.out.set, HS2'.out.set⟩, HI2.out⟩
                · obtain rfl : i = qy.length := by omega
                  obtain ⟨w7, rfl⟩ : ∃ w7, w7 = wr := ⟨_, rfl⟩
                  have hbA5 : Below wA.heap.size wA w5 := HBA3.out.trans ((HB3C.out.trans (HB5.out.mono HB3C.out.size)).mono HBA3.out.size)
                  have hb35 : Below w3.heap.size w3 w5 := HB3C.out.trans (HB5.out.mono HB3C.out.size)
                  have hEA : ∀ b, E b → wA.heap.size ≤ b := fun b hb => Nat.le_trans HBA3.out.size (HE.out b hb).1
                  have s57 := hA.size
                  have sA3 := HBA3.out.size
                  have s3c := HB3C.out.size
                  have sc5 := HB5.out.size
                  have sA1 := HB1W.out.size
                  have sw := HBR.out.size
                  have mvA : ∀ b, b < wA.heap.size → w7.heap[b]? = wA.heap[b]? := fun b hb => (hA.block b (by omega) (fun he => by have := hEA b he; omega)).trans (hbA5.block b hb)
                  have mv3 : ∀ b, b < w3.heap.size → w7.heap[b]? = w3.heap[b]? := fun b hb => (hA.block b (by omega) (fun he => by have := (HE.out b he).1; omega)).trans (hb35.block b hb)
                  have hD2 : ∀ b, (D b ∨ E b) → w.heap.size ≤ b ∧ b < w7.heap.size := by
                    rintro b (h | h)
                    · have := HD.out b h; omega
                    · have := HE.out b h; omega
                  have hN7 : OwnAt 27 1 (nodeK nt) (Apart (fun b => D b ∨ E b) (.slice AS j cs')) w7 w.heap.size (.slice AN j cn) os := HNS.out.move (goodNode nt) fun b hb hbl => ⟨⟨fun h => h.elim hb.1 (fun he => by have := hEA b he; omega), hb.2⟩, mvA b hbl⟩
                  have hM7 : OwnAt 28 1 mapK (Apart (fun b => D b ∨ E b) (.slice AN j cn)) w7 w.heap.size (.slice AS j cs') (mapsOf l j) := HMS.out.move goodMap fun b hb hbl => ⟨⟨fun h => h.elim hb.1 (fun he => by have := hEA b he; omega), hb.2⟩, mvA b hbl⟩
                  have hn7 : NodeAt nt (Clean (fun b => D b ∨ E b) (.slice AN j cn) (.slice AS j cs')) w7 (.iface t5 (.pointer (some ⟨b5, 0, none⟩))) n5 := NodeAt.move (fun b hb hbl => by
                    rcases hb with ⟨hb, hlt⟩ | hb
                    · exact ⟨⟨fun h => h.elim hb.1 (fun he => by have := hEA b he; omega), hb.2.1, hb.2.2⟩, hA.block b hbl (fun he => by have := hEA b he; omega)⟩
                    · exact ⟨⟨fun h => h.elim (fun h => by have := (HD.out b h).2; omega) (fun h => by have := (HE.out b h).2; omega), fun e => by have := (lns b e).2; omega, fun e => by have := (lms b e).2; omega⟩, hA.block b hbl (fun he => by have := (HE.out b he).2; omega)⟩) _ _ HN5.out
                  have hm7 : SPairsAt (Clean (fun b => D b ∨ E b) (.slice AN j cn) (.slice AS j cs')) w7 (.slice A3 (Bw.put m (qx, qy)).length c3) (Bw.put m (qx, qy)) := HM3.out.move goodSp fun b hb hbl =>
                    ⟨⟨fun h => h.elim (fun h => by have := (HD.out b h).2; omega) (fun h => by have := (HE.out b h).1; omega), fun e => by have := (lns b e).2; omega, fun e => by have := (lms b e).2; omega⟩, mv3 b hbl⟩
                  have hBw7 : Below w.heap.size w w7 := (HBC.out.trans (HB5.out.mono HBC.out.size)).trans (hA.below (by omega) (fun b hb => by have := hEA b hb; omega))
                  have HN7 := Lib.hid hN7; have HM7 := Lib.hid hM7; have HNN := Lib.hid hn7; have HMM := Lib.hid hm7; have HD2 := Lib.hid hD2; have HBW7 := Lib.hid hBw7
                  have HLN := Lib.hid lns; have HLM := Lib.hid lms; have HSW : Hid (wA.heap.size ≤ w7.heap.size) := Lib.hid (by omega)
                  have HJ := Lib.hid hj
                  clear hbA5 hb35 hEA s57 sA3 s3c sc5 sA1 sw mvA mv3 hD2 hN7 hM7 hn7 hm7 hBw7 hA hs1 hs2 k0 k1 z0 z1 lns lms
                  go_wp2_with (at_builtin; first
                    | (refine wp_app1 (goodNode nt) rfl (.tmp 83) (.tmp 85) 50 rfl w.heap.size 27 iN _ 16 Tryd.underlying50 HI.out HZ0.out HZ1.out HZ2.out rfl (by decide) (.slice AN j cn) os rfl HN7.out (some n5) #[.iface t5 (.pointer (some ⟨b5, 0, none⟩))] 27 (by go_simp) ⟨_, rfl, NodeAt.move (Moves.weaken fun b hb _ => ⟨⟨hb.1, hb.2.2⟩, fun e => hb.2.1 e.symm⟩) _ _ HNN.out⟩ (fun b hb => ⟨fun h => by have := (HD2.out b h).2; omega, fun e => by have := (HLM.out b e).2; have := HSW.out; omega⟩) (by have := HOS.out; have := HJ.out; have := HL.out; omega) (by decide) HBW7.out.size ?_; intro v8 w8 hown8 hb8 hat8 hg8)
                    | (go_loud (refine wp_app1 goodMap rfl (.tmp 87) (.tmp 89) 51 rfl w.heap.size 28 iM _ 24 Tryd.underlying51 MI.out MZ0.out MZ1.out MZ2.out rfl (by decide) (.slice AS j cs') (mapsOf l j) rfl (rows_on HM7.out hg8 hat8) (Bw.put m (qx, qy)) #[.slice A3 (Bw.put m (qx, qy)).length c3] 28 (by go_simp) ⟨_, rfl, HMM.out.move goodSp fun b hb hbl => ⟨⟨⟨hb.1, own_ne hat8 hb.2.1 hbl⟩, fun e => hb.2.2 e.symm⟩, hg8.block b hbl (fun e => hb.2.1 e.symm)⟩⟩ (fun b hb => ⟨fun h => by have := (HD2.out b h).2; have := hg8.size; omega, fun e => by have := (hown8.lt b e).2; omega⟩) (by rw [length_mapsOf]; have := HJ.out; have := HL.out; omega) (by decide) (Nat.le_trans HBW7.out.size hg8.size) ?_; intro v9 w9 hown9 hb9 hat9 hg9)))
                  rw [int_succ HLT.out HL.out]
                  refine ⟨SLoop.next HLT.out HD2.out HOS.out HOLS.out HNN.out (by rw [HCS.out]; exact HL5.out) (by rw [HCS.out]; exact HMM.out) hown8 hg8 hat8 (by rw [HCS.out]; exact hown9) hg9 hat9 ((HBW7.out.trans hb8).trans hb9), ?_⟩
                  have := HLT.out
                  simp only [intOf]
                  omega
      · obtain rfl : j = l.length := by omega
        obtain ⟨wE, rfl⟩ : ∃ wE, wE = wA := ⟨_, rfl⟩
        have hnr := (hns.row (goodNode nt)).move (ok' := AllB) (goodNode nt) (Moves.weaken fun _ _ _ => trivial)
        have hmr := (hms.row goodMap).move (ok' := AllB) goodMap (Moves.weaken fun _ _ _ => trivial)
        obtain ⟨AN, cn, rfl⟩ := hnr.form
        obtain ⟨AS, cs', rfl⟩ := hmr.form
        have hlo := hos
        have hlm := length_mapsOf l l.length
        rw [hlo] at hnr
        rw [hlm] at hmr
        rw [hlo]
        rw [hlm]
        have HNR := Lib.hid hnr; have HMR := Lib.hid hmr; have HBR := Lib.hid hB; have HOLS := Lib.hid hol; have HOS := Lib.hid hos
        have H3 : Hid (ELoop l wE (.int .i64 0) wE) := Lib.hid ⟨0, Nat.zero_le _, rfl, Below.refl _ _⟩
        have CAW := Lib.hid (fun W (hW : Below wE.heap.size wE W) => CA.out W (hB.trans (hW.mono hB.size)))
        clear hnr hmr hol hos hns hms hN hOL hMv hD hlt hj hlo hlm hB H0 CF CA
        go_wp2_with fail
        go_loopw [94] (ELoop l wE) (fun i _ => l.length - (intOf i).toNat)
        case atStart => exact H3.out
        case round =>
          obtain ⟨k, hk, rfl, hB⟩ := hrel
          by_cases hlt : k < l.length
          · have h0 : (0 : Int) ≤ (k : Int) := by omega
            have h1 : (k : Int) < (l.length : Int) := by omega
            have hko : k < os.length := by rw [HOS.out]; exact hlt
            have hkm : k < (mapsOf l l.length).length := by rw [length_mapsOf]; exact hlt
            obtain ⟨bn, on, cs1, rfl, ⟨nv, rfl, hnv⟩, hc1⟩ := HNR.out.get (List.getElem?_eq_getElem hko)
            obtain ⟨bm, om, cs2, rfl, ⟨mv, rfl, hmv⟩, hc2⟩ := HMR.out.get (List.getElem?_eq_getElem hkm)
            have hmk : (mapsOf l l.length)[k] = Bw.come (l.take (k + 1)) := by simp [mapsOf]
            rw [hmk] at hmv
            have hok := HOLS.out k _ (List.getElem?_eq_getElem hko)
            have c0 := (hc1 0 _ rfl).2
            have c1 := (hc2 0 _ rfl).2
            simp only [Nat.mul_one, Nat.add_zero] at c0 c1
            have hbn := World.block_lt_of_cell? wE _ c0
            have hbm := World.block_lt_of_cell? wE _ c1
            dsimp only at hbn hbm
            generalize os[k] = o' at *
            have hmo := HM.out (k + 1)
            generalize hcm : Bw.come (l.take (k + 1)) = M at *
            have SK : Hid (∀ W, Below wE.heap.size wE W → W.cell? ⟨bn, on + k, none⟩ = some nv ∧ W.cell? ⟨bm, om + k, none⟩ = some mv) := Lib.hid fun W hW => ⟨(hW.cell (p := ⟨bn, on + k, none⟩) hbn).trans c0, (hW.cell (p := ⟨bm, om + k, none⟩) hbm).trans c1⟩
            have CE := Lib.hid (fun W (hW : Below wE.heap.size wE W) => rentries_any HT1.out (HTR.out.move goodNat64 (Moves.below (HBR.out.trans (hW.mono HBR.out.size)))) (Nat.le_trans hmo.len (by decide)) (fun p hp => (hmo.bytes p hp).1) (hmv.move goodSp (Moves.below hW)))
            have CLY : Hid (∀ (ok : Nat → Prop) (W : World) (q : Value), SensAt ok W q (Bw.entries t M) → Calls Tryd.prog 20 #[q, .int .i64 0] W (Gives W (LayTold W (Bw.absO o')))) := Lib.hid (fun ok W q hq => by
              rw [← olays_abs HTT.out hmo hok]
              exact rlay_any 13 0 _ _ q W rfl (by rw [Bw.length_entries]; exact Nat.le_trans hmo.len (by decide)) hmo.entries (entries_hash HTT.out) ⟨0, fun _ _ => Nat.mod_one _⟩ hq)
            have CS := Lib.hid (fun (ok : Nat → Prop) W (hW : Below wE.heap.size wE W) (cs : List Value) (hx : xK ok W (Bw.absO o') cs) => sameO_any (o := o') (ONodeAt.move ((Moves.below hW).trans hW.size (Moves.weaken fun _ _ _ => trivial)) hnv) (XAt.move (Moves.weaken fun _ _ _ => trivial) _ _ hx) (olays_fit hmo hok))
            obtain ⟨AM, cm, rfl⟩ := hmv.form
            have HLT := Lib.hid hlt
            have hd := hB.drew
            obtain ⟨y0, y1⟩ := SK.out _ hB
            obtain ⟨z0, z1⟩ := SK.out _ hd
            have HB := Lib.hid hB
            clear hnv hmv hok hc1 hc2 c0 c1 hmo hB hko hkm hmk hcm hlt H3
            go_wp2_with fail
            go_region_held3 (fun W => W.cell? ⟨bn, on + k, none⟩ = some nv ∧ W.cell? ⟨bm, om + k, none⟩ = some (.slice AM M.length cm))
              (first | with_reducible exact SK.out _ hb8c | with_reducible exact SK.out _ hb7c | with_reducible exact SK.out _ hb6c | with_reducible exact SK.out _ hd)
              ((first
                | (go_at_call 21; (with_reducible refine (CE.out _ hd).mono ?_); rintro e w6 ⟨q6, rfl, hq6, hb6⟩; obtain ⟨A6, c6, rfl⟩ := hq6.form; have hb6c := hd.trans (hb6.mono hd.size))
                | (go_at_call 20; (with_reducible refine (CLY.out _ _ _ hq6).mono ?_); rintro e w7 ⟨q7, rfl, ⟨cs, rfl, hx7⟩, hb7⟩; have hb7c := hb6c.trans (hb7.mono hb6c.size))
                | (go_at_call 19; (with_reducible refine (CS.out _ _ hb7c _ hx7).mono ?_); rintro e w8 ⟨rfl, hb8⟩; have hb8c := hb7c.trans (hb8.mono hb7c.size))))
            all_goals go_wp2
            all_goals exact ⟨⟨_, HLT.out, int_succ HLT.out HL.out, hb8c⟩, less_succ HLT.out HL.out⟩
          · obtain rfl : k = l.length := by omega
            have CAX := Lib.hid (CAW.out wr hB)
            have HB := Lib.hid (HBR.out.trans (hB.mono HBR.out.size))
            clear hlt hB H3 CAW
            go_wp2_with fail
            refine CAX.out.mono ?_
            rintro e w2 ⟨rfl, hb2⟩
            have HB2 := Lib.hid (HB.out.trans (hb2.mono HB.out.size))
            clear hb2
            go_wp2
            go_ret
            exact ⟨rfl, HB2.out⟩
end Go.Proofs.YtehkjnmnbplcoaaDoor
