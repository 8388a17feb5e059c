
import Derived.RangeFuncOwn
import Derived.Test.YtadaoceidkagfaaGreatDoorBwAll
import Derived.Test.YtadaoceidkagfaaGreatDoorComeA
import Derived.Lib.SmallJoins
import Derived.RangeFuncFrom
import Derived.RangeFuncCalls
import Derived.OrdersIn
import Derived.OrdersHeld
import Derived.Deep.RegionHeld
import Derived.Test.YtadaoceidkagfaaGreatDoorOwn
import Derived.Test.YtadaoceidkagfaaGreatDoorGwith
/- What a predicate over memory looks at are blocks of cells: so it abides the turn of any other block. -/
namespace Go.Bw
open Go.RowKit
def onCells (ok : Nat -> Prop) (w : World) : Nat -> Prop := fun k => ok k /\ ∃ o : Obj, w.heap[k]? = some o /\ o.isCells = true
theorem cells_of_cell {w : World} {b o : Nat} {v : Value} (h : w.cell? ⟨b, o, none⟩ = some v) : ∃ x : Obj, w.heap[b]? = some x /\ x.isCells = true := by
  have hl := World.block_lt_of_cell? w _ h
  dsimp only at hl
  refine ⟨w.heap[b], Array.getElem?_eq_getElem hl, ?_⟩
  have h' := h
  simp only [World.cell?, Array.getElem?_eq_getElem hl] at h'
  cases hx : w.heap[b] with
  | cells => rfl
  | _ => rw [hx] at h'; simp at h'
theorem CellAt.onto {ok : Nat -> Prop} {w : World} {b o : Nat} {v : Value} (h : CellAt ok w b o v) : CellAt (onCells ok w) w b o v := ⟨⟨h.1, cells_of_cell h.2⟩, h.2⟩
structure Onto {α : Type} (d : Knd α) : Prop where
  on : ∀ {ok w x cs}, d ok w x cs -> d (onCells ok w) w x cs
theorem RowAt.onto {α : Type} {sz : Nat} {d : Knd α} (hd : Onto d) {ok : Nat -> Prop} {w : World} {v : Value} {xs : List α} (h : RowAt sz d ok w v xs) : RowAt sz d (onCells ok w) w v xs := by
  obtain ⟨A, c, h1, h2, h3, h4, h5, h6⟩ := h
  refine ⟨A, c, h1, h2, h3, h4, h5, fun j x hj => ?_⟩
  obtain ⟨ad, cs, e, hx, hc⟩ := h6 j x hj
  exact ⟨ad, cs, e, hd.on hx, fun i u hu => (hc i u hu).onto⟩
theorem ontoByte : Onto byteK := ⟨fun h => h⟩
theorem TreeAt.onto {ok : Nat -> Prop} {w : World} : ∀ (t : Bw.T) (v : Value), TreeAt ok w v t -> TreeAt (onCells ok w) w v t
  | .nil, _, h => h
  | .node l p r, v, h => by
    obtain ⟨b, u1, u2, lv, rv, rfl, h0, h1, h2, h3, h4, k1, k2, hl, hr⟩ := h
    exact ⟨b, u1, u2, lv, rv, rfl, h0.onto, h1.onto, h2.onto, h3.onto, h4.onto, k1.onto ontoByte, k2.onto ontoByte, TreeAt.onto l _ hl, TreeAt.onto r _ hr⟩
theorem NodeAt.onto {q : NT} {ok : Nat -> Prop} {w : World} (n : Bw.N) : ∀ v, NodeAt q ok w v n -> NodeAt q (onCells ok w) w v n := by
  refine Bw.N.ind (P := fun n => ∀ v, NodeAt q ok w v n -> NodeAt q (onCells ok w) w v n) ?_ ?_ ?_ n
  · rintro h p v hv
    simp only [NodeAt] at hv ⊢
    obtain ⟨b, u1, u2, rfl, h0, h1, h2, k1, k2⟩ := hv
    exact ⟨b, u1, u2, rfl, h0.onto, h1.onto, h2.onto, k1.onto ontoByte, k2.onto ontoByte⟩
  · rintro h t v hv
    simp only [NodeAt] at hv ⊢
    obtain ⟨b, tv, rfl, h0, h1, ht⟩ := hv
    exact ⟨b, tv, rfl, h0.onto, h1.onto, TreeAt.onto _ _ ht⟩
  · rintro m kids ih v hv
    simp only [NodeAt] at hv ⊢
    obtain ⟨b, g, o, c, rfl, h0, h1, h2, hl, hc, hk⟩ := hv
    refine ⟨b, g, o, c, rfl, h0.onto, h1.onto, h2.onto, hl, hc, ?_⟩
    clear h0 h1 h2 hl hc
    induction kids generalizing o with
    | nil => simp only [KidsAt]
    | cons k r ihr =>
      simp only [KidsAt] at hk ⊢
      obtain ⟨⟨u, hu, hn⟩, hr⟩ := hk
      exact ⟨⟨u, hu.onto, ih k (by simp) u hn⟩, ihr (fun k hk => ih k (by simp [hk])) _ hr⟩
theorem ONodeAt.onto {q : NT} {ok : Nat -> Prop} {w : World} {v : Value} {n : Option Bw.N} (h : ONodeAt q ok w v n) : ONodeAt q (onCells ok w) w v n := by
  cases n with
  | none => exact h
  | some n => exact NodeAt.onto n v h
theorem Moves.onto {ok ok' : Nat -> Prop} {w w' : World} (h : ∀ k, ok k -> (∃ o : Obj, w.heap[k]? = some o /\ o.isCells = true) -> ok' k /\ w'.heap[k]? = w.heap[k]?) : Moves (onCells ok w) ok' w w' := fun k hk _ => h k hk.1 hk.2
end Go.Bw
/- An array of rows of the call's own, each of them grown by itself. -/
namespace Go.Proofs.YtadaoceidkagfaaGreatDoor
open Go.RowKit Go.Bw Go.Lib
def okP (P : Nat) (vs : List Value) (i : Nat) : Nat -> Prop := fun k => k ≠ P /\ ∀ (j : Nat) (u : Value), vs[j]? = some u -> j ≠ i -> some k ≠ u.ownBlock
def Parts {α : Type} (t e sz : Nat) (d : Knd α) (w : World) (P base m : Nat) (xs : Nat -> List α) : Prop :=
  P < base /\ base <= w.heap.size /\ ∃ vs : List Value, vs.length = m /\ w.heap[P]? = some (.cells vs.toArray t (0, 0)) /\ ∀ (i : Nat) (v : Value), vs[i]? = some v -> OwnAt e sz d (okP P vs i) w base v (xs i)
section
variable {α : Type} {t e sz : Nat} {d : Knd α} (hd : _root_.Go.Bw.Good sz d)
theorem Parts.made {w : World} {m : Nat} : Parts t e sz d (w.alloc (.cells (List.replicate m (.slice none 0 0)).toArray t)) w.heap.size (w.heap.size + 1) m fun _ => [] :=
  ⟨Nat.lt_succ_self _, by simp, List.replicate m (.slice none 0 0), List.length_replicate, heap_alloc_new w _, fun i v hv => by
    rw [List.getElem?_replicate] at hv
    split at hv
    · cases hv; exact OwnAt.nil
    · cases hv⟩
theorem Parts.below {w w' : World} {P base m : Nat} {xs : Nat -> List α} (hB : Below w.heap.size w w') (h : Parts t e sz d w P base m xs) (hd : _root_.Go.Bw.Good sz d) : Parts t e sz d w' P base m xs := by
  obtain ⟨h1, h2, vs, h3, h4, h5⟩ := h
  exact ⟨h1, Nat.le_trans h2 hB.size, vs, h3, (hB.block P (Nat.lt_of_lt_of_le h1 h2)).trans h4, fun i v hv => (h5 i v hv).move hd (Moves.below hB)⟩
theorem Parts.at {w : World} {P base m i : Nat} {xs : Nat -> List α} (h : Parts t e sz d w P base m xs) (hi : i < m) :
    ∃ v vs, vs.length = m /\ vs[i]? = some v /\ w.heap[P]? = some (.cells vs.toArray t (0, 0)) /\ w.cell? ⟨P, i, none⟩ = some v /\ w.frozen? ⟨P, i, none⟩ = false /\ OwnAt e sz d (okP P vs i) w base v (xs i) /\ (∀ k, w.heap.size <= k -> okP P vs i k) /\
      (∀ (j : Nat) (u : Value), vs[j]? = some u -> OwnAt e sz d (okP P vs j) w base u (xs j)) := by
  obtain ⟨h1, h2, vs, h3, h4, h5⟩ := h
  have hil : i < vs.length := by omega
  have hv : vs[i]? = some vs[i] := List.getElem?_eq_getElem hil
  have ho := h5 i _ hv
  refine ⟨vs[i], vs, h3, hv, h4, ?_, ?_, ho, fun k hk => ⟨by omega, fun j u hu _ e => ?_⟩, h5⟩
  · have : w.cell? ⟨P, i, none⟩ = vs[i]? := by simp [World.cell?, h4]
    rw [this, hv]
  · simp [World.frozen?, h4]
  · have := ((h5 j u hu).lt k e.symm).2
    omega
theorem Parts.grow {w w' : World} {P base m c : Nat} {xs : Nat -> List α} {v v' : Value} {vs : List Value} {y : α} (h1 : P < base) (h2 : base <= w.heap.size) (h3 : vs.length = m) (hv : vs[c]? = some v) (h4 : w.heap[P]? = some (.cells vs.toArray t (0, 0)))
    (h5 : ∀ (j : Nat) (u : Value), vs[j]? = some u -> OwnAt e sz d (okP P vs j) w base u (xs j))
    (hown : OwnAt e sz d (okP P vs c) w' base v' (xs c ++ [y])) (hg : w.grownBy w' v.ownBlock) (hat : v'.ownBlock = v.ownBlock \/ ∃ b, v'.ownBlock = some b /\ w.heap.size <= b) (hd : _root_.Go.Bw.Good sz d) :
    Parts t e sz d (w'.setCell ⟨P, c, none⟩ v') P base m fun i => if c = i then xs i ++ [y] else xs i := by
  have hP : w.heap.size > P := by omega
  have hcl : c < vs.length := (List.getElem?_eq_some_iff.1 hv).1
  have hne : some P ≠ v.ownBlock := fun e => by have := ((h5 c v hv).lt P e.symm).1; omega
  have hP' : w'.heap[P]? = some (.cells vs.toArray t (0, 0)) := (hg.block P hP hne).trans h4
  refine ⟨h1, by simpa using Nat.le_trans h2 hg.size, vs.set c v', by rw [List.length_set]; exact h3, ?_, fun i u hu => ?_⟩
  · have := Joins.block_setCell hP' (i := c) v'
    simpa using this
  · by_cases hic : c = i
    · subst hic
      rw [List.getElem?_set_self hcl] at hu
      cases hu
      show OwnAt e sz d _ _ base v' (if c = c then xs c ++ [y] else xs c)
      rw [if_pos rfl]
      refine hown.move hd fun k hk hl => ⟨⟨hk.1, fun j u' hj hne' => ?_⟩, Below.heap_setCell w' _ _ k hk.1⟩
      rw [List.getElem?_set_ne (fun e => hne' e.symm)] at hj
      exact hk.2 j u' hj hne'
    · rw [List.getElem?_set_ne hic] at hu
      show OwnAt e sz d _ _ base u (if c = i then xs i ++ [y] else xs i)
      rw [if_neg hic]
      have hO := h5 i u hu
      have mv : Moves (okP P vs i) (okP P (vs.set c v') i) w (w'.setCell ⟨P, c, none⟩ v') := fun k hk hl => by
        have hkc := hk.2 c v hv hic
        refine ⟨⟨hk.1, fun j u' hj hne' e => ?_⟩, (Below.heap_setCell w' _ _ k hk.1).trans (hg.block k hl hkc)⟩
        by_cases hjc : c = j
        · subst hjc
          rw [List.getElem?_set_self hcl] at hj
          cases hj
          rcases hat with ha | ⟨b, ha, hb⟩
          · exact hkc (e.trans ha)
          · have := e.trans ha
            injection this with this
            omega
        · rw [List.getElem?_set_ne hjc] at hj
          exact hk.2 j u' hj hne' e
      exact hO.move hd mv
end
end Go.Proofs.YtadaoceidkagfaaGreatDoor
/- A region that draws its order, within a round of a range over a function: it is walked as outside of it. -/
namespace Go.Proofs.YtadaoceidkagfaaGreatDoor
open Go.RowKit Go.Bw
end Go.Proofs.YtadaoceidkagfaaGreatDoor
/- The loop over a branch's numbers, each of them below 32; the children so far, in a variable of the call's own. -/
namespace Go.Proofs.YtadaoceidkagfaaGreatDoor
open Go.RowKit Go.Bw Go.Shelf Go.Lib
attribute [local go_sem] Oper.semAt_some
structure Keep (o : Nat) (w w' : World) : Prop where
  os : w'.os = w.os
  tape : w'.tape = w.tape
  output : w'.output = w.output
  size : w.heap.size <= w'.heap.size
  block : ∀ k, k < w.heap.size -> k ≠ o -> w'.heap[k]? = w.heap[k]?
theorem Keep.refl (o : Nat) (w : World) : Keep o w w := ⟨rfl, rfl, rfl, Nat.le_refl _, fun _ _ _ => rfl⟩
theorem Keep.below {o n : Nat} {w w' : World} (h : Keep o w w') (hn : n <= o) (hs : n <= w.heap.size) : Below n w w' :=
  ⟨h.os, h.tape, h.output, h.size, fun k hk => h.block k (by omega) (by omega)⟩
theorem Keep.then {o : Nat} {w w' w'' : World} (h : Keep o w w') (hb : Below w'.heap.size w' w'') : Keep o w w'' :=
  ⟨hb.os.trans h.os, hb.tape.trans h.tape, hb.output.trans h.output, Nat.le_trans h.size hb.size, fun k hk hn => (hb.block k (Nat.lt_of_lt_of_le hk h.size)).trans (h.block k hk hn)⟩
def KidI (W5 : World) (KB : Nat) (F : Nat -> Option Bw.N) (pre : List (Fin 32)) (W : World) : Prop :=
  (∃ v, Boxed W KB 124 v /\ OwnAt 28 1 (nodeK nt) (fun k => W5.heap.size <= k) W W5.heap.size v (pre.map fun c => F c.val)) /\ Keep KB W5 W
theorem own_cells {α : Type} {e sz base : Nat} {d : Knd α} {ok : Nat -> Prop} {w : World} {v : Value} {xs : List α} (h : OwnAt e sz d ok w base v xs) {g : Nat} (hg : v.ownBlock = some g) : ∃ x : Obj, w.heap[g]? = some x /\ x.isCells = true := by
  obtain ⟨_, inner, ho, _⟩ := h
  rcases ho.2 with ⟨rfl, _⟩ | ⟨g', cap, cur, rfl, _, hh, _⟩
  · simp [Value.ownBlock] at hg
  · simp only [Value.ownBlock, Option.some.injEq] at hg
    subst hg
    exact ⟨_, hh, rfl⟩
theorem KidI.step {W5 W w7 w8 : World} {KB n0 : Nat} {F : Nat -> Option Bw.N} {pre : List (Fin 32)} {y : Fin 32} {v v8 : Value} (hKB : KB < W5.heap.size) (hn : n0 <= KB) (hv : Boxed W KB 124 v) (hown : OwnAt 28 1 (nodeK nt) (fun k => W5.heap.size <= k) W W5.heap.size v (pre.map fun c => F c.val)) (hk : Keep KB W5 W)
    (hb7 : Below W.heap.size W w7) (hown8 : OwnAt 28 1 (nodeK nt) (fun k => W5.heap.size <= k) w8 W5.heap.size v8 ((pre.map fun c => F c.val) ++ [F y.val])) (hg8 : w7.grownBy w8 v.ownBlock) :
    KeepsOthers W (w8.setCell ⟨KB, 0, none⟩ v8) /\ Below n0 W (w8.setCell ⟨KB, 0, none⟩ v8) /\ KidI W5 KB F (pre ++ [y]) (w8.setCell ⟨KB, 0, none⟩ v8) := by
  have hlt := hown.lt
  have hKW : KB < W.heap.size := Nat.lt_of_lt_of_le hKB hk.size
  have one : ∀ k, k < W.heap.size -> k ≠ KB -> some k ≠ v.ownBlock -> (w8.setCell ⟨KB, 0, none⟩ v8).heap[k]? = W.heap[k]? := fun k hl h1 h2 =>
    (Below.heap_setCell w8 ⟨KB, 0, none⟩ v8 k h1).trans ((hg8.block k (Nat.lt_of_lt_of_le hl hb7.size) h2).trans (hb7.block k hl))
  have hsz : W.heap.size <= (w8.setCell ⟨KB, 0, none⟩ v8).heap.size := by simpa using Nat.le_trans hb7.size hg8.size
  have hKv : some KB ≠ v.ownBlock := fun e => by have := (hlt KB e.symm).1; omega
  have hos : (w8.setCell ⟨KB, 0, none⟩ v8).os = W.os := hg8.os.trans hb7.os
  have htp : (w8.setCell ⟨KB, 0, none⟩ v8).tape = W.tape := hg8.tape.trans hb7.tape
  have hou : (w8.setCell ⟨KB, 0, none⟩ v8).output = W.output := hg8.output.trans hb7.output
  refine ⟨⟨hsz, fun k x hx hc => ?_⟩, ⟨hos, htp, hou, hsz, fun k hk' => one k (by omega) (by omega) (fun e => by have := (hlt k e.symm).1; omega)⟩, ⟨v8, ?_, ?_⟩, hos.trans hk.os, htp.trans hk.tape, hou.trans hk.output, Nat.le_trans hk.size hsz, fun k hk' h1 => (one k (Nat.lt_of_lt_of_le hk' hk.size) h1 (fun e => by have := (hlt k e.symm).1; omega)).trans (hk.block k hk' h1)⟩
  · refine (one k (Array.getElem?_eq_some_iff.1 hx).1 (fun e => ?_) (fun e => ?_)).trans hx
    · subst e
      rw [show W.heap[k]? = _ from hv] at hx
      cases hx; cases hc
    · obtain ⟨o, ho, hcc⟩ := own_cells hown e.symm
      rw [hx] at ho
      cases ho
      rw [hc] at hcc
      cases hcc
  · have h8 : w8.heap[KB]? = some (.cells #[v] 124 (0, 0)) := (hg8.block KB (Nat.lt_of_lt_of_le hKW hb7.size) hKv).trans ((hb7.block KB hKW).trans hv)
    have := Joins.block_setCell h8 (i := 0) v8
    simpa [Boxed] using this
  · rw [List.map_append]
    exact hown8.move (goodNode nt) (Moves.set _ fun k hk' => by show k ≠ KB; omega)
end Go.Proofs.YtadaoceidkagfaaGreatDoor
