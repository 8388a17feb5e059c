/- Rows of tries; a trie, its map, and all that were. -/
import Derived.Test.YtadaoceidkagfaaGreatDoorTwoA
import Derived.Test.YtadaoceidkagfaaGreatDoorSA
import Derived.Great.BuildSlice
namespace Go.Proofs.YtadaoceidkagfaaGreatDoor
open Go.RowKit Go.Bw
def trieK (s : List UInt8) : Knd (Option Bw.N) := fun ok w o cs => ∃ nv, cs = trieL s nv /\ ONodeAt nt ok w nv o
theorem goodTrie {s : List UInt8} (hs : s.length = 16) : _root_.Go.Bw.Good 17 (trieK s) where
  len := by rintro ok w x cs ⟨nv, rfl, _⟩; exact trieL_length hs nv
  one := by
    rintro ok w x cs ⟨nv, rfl, h⟩ u hu
    rcases List.mem_append.1 hu with h1 | h1
    · obtain ⟨b, _, rfl⟩ := List.mem_map.1 h1; rfl
    · rw [List.mem_singleton.1 h1]; exact one_node h
  move := by rintro ok ok' w w' x cs hm ⟨nv, rfl, h⟩; exact ⟨nv, rfl, h.move hm⟩
theorem infoTr : (Tryz.prog.info? 30).map (fun i => (i.zero, i.size, i.bytes)) = some (some (.agg #[.int .u8 0, .int .u8 0, .int .u8 0, .int .u8 0, .int .u8 0, .int .u8 0, .int .u8 0, .int .u8 0, .int .u8 0, .int .u8 0, .int .u8 0, .int .u8 0, .int .u8 0, .int .u8 0, .int .u8 0, .int .u8 0, .nilIface]), 17, 32) := by kernel_rfl
theorem list17 {l : List Value} (hl : l.length = 17) : ∃ b0 b1 b2 b3 b4 b5 b6 b7 b8 b9 b10 b11 b12 b13 b14 b15 b16, l = [b0, b1, b2, b3, b4, b5, b6, b7, b8, b9, b10, b11, b12, b13, b14, b15, b16] := by
  match l, hl with
  | [b0, b1, b2, b3, b4, b5, b6, b7, b8, b9, b10, b11, b12, b13, b14, b15, b16], _ => exact ⟨_, _, _, _, _, _, _, _, _, _, _, _, _, _, _, _, _, rfl⟩
theorem fill17 (s : List UInt8) (hs : s.length = 16) (nv : Value) : Instr.fill (fun i => some (i * 17, 17)) ((Array.range (1 * 17)).map ((Value.agg #[.int .u8 0, .int .u8 0, .int .u8 0, .int .u8 0, .int .u8 0, .int .u8 0, .int .u8 0, .int .u8 0, .int .u8 0, .int .u8 0, .int .u8 0, .int .u8 0, .int .u8 0, .int .u8 0, .int .u8 0, .int .u8 0, .nilIface]).cells[· % (Value.agg #[.int .u8 0, .int .u8 0, .int .u8 0, .int .u8 0, .int .u8 0, .int .u8 0, .int .u8 0, .int .u8 0, .int .u8 0, .int .u8 0, .int .u8 0, .int .u8 0, .int .u8 0, .int .u8 0, .int .u8 0, .int .u8 0, .nilIface]).cells.size]!)) [(0, trieV s nv)] = some (trieL s nv).toArray := by
  obtain ⟨a0, a1, a2, a3, a4, a5, a6, a7, a8, a9, aA, aB, aC, aD, aE, aF, hs16⟩ := mapE16 hs
  subst hs16
  have key : ∀ l : List Value, l.length = 17 -> Instr.fill (fun i => some (i * 17, 17)) l.toArray [(0, trieV [a0, a1, a2, a3, a4, a5, a6, a7, a8, a9, aA, aB, aC, aD, aE, aF] nv)] = some (trieL [a0, a1, a2, a3, a4, a5, a6, a7, a8, a9, aA, aB, aC, aD, aE, aF] nv).toArray := by
    intro l hl
    obtain ⟨b0, b1, b2, b3, b4, b5, b6, b7, b8, b9, b10, b11, b12, b13, b14, b15, b16, rfl⟩ := list17 hl
    kernel_rfl
  have := key (((Array.range (1 * 17)).map ((Value.agg #[.int .u8 0, .int .u8 0, .int .u8 0, .int .u8 0, .int .u8 0, .int .u8 0, .int .u8 0, .int .u8 0, .int .u8 0, .int .u8 0, .int .u8 0, .int .u8 0, .int .u8 0, .int .u8 0, .int .u8 0, .int .u8 0, .nilIface]).cells[· % (Value.agg #[.int .u8 0, .int .u8 0, .int .u8 0, .int .u8 0, .int .u8 0, .int .u8 0, .int .u8 0, .int .u8 0, .int .u8 0, .int .u8 0, .int .u8 0, .int .u8 0, .int .u8 0, .int .u8 0, .int .u8 0, .int .u8 0, .nilIface]).cells.size]!)).toList) (by rw [Array.length_toList, Array.size_map, Array.size_range])
  rwa [Array.toArray_toList] at this
theorem wpl_build_trie {ops : Array Oper} {rest : List Oper} {op : Oper} {a : Act} {w : World} {Q : Exit -> Act -> World -> Prop} {s : List UInt8} {nv : Value} {x : Operand} (hgd : op.guard = none) (ho : op.op = .buildSlice 43 1 #[(0, x)]) (hx : a.eval x = trieV s nv) (hs : s.length = 16)
    (h : wpList Tryz.prog ops Q rest (a.put op.dst (.slice (some ⟨w.heap.size, 0, none⟩) 1 1)) (w.alloc (.cells (trieL s nv).toArray 30))) : wpList Tryz.prog ops Q (op :: rest) a w := by
  obtain ⟨i0, hi, hz0, hz1, hz2⟩ := info_parts infoTr
  refine wpList_buildSlice (P := Tryz.prog) hgd 43 30 1 #[(0, x)] ho (trieL s nv).toArray i0 _ Tryz.underlying43 hi hz0 (by rw [hz1]; decide) (by rw [hz1]; decide) ?_ h
  rw [hz1]
  simp only [List.map_toArray, List.map_cons, List.map_nil, hx]
  exact fill17 s hs nv
theorem yieldsIf_load_trieo {ops : Array Oper} {op : Oper} {a : Act} {S : World -> Prop} {s : List UInt8} {nv : Value} {x : Operand} {b o : Nat} (hw : Region.wanted op (yielded ops a.tmps) = true) (ho : op.op = .load 30 x) (hx : a.eval x = .pointer (some ⟨b, o, none⟩)) (hs : s.length = 16) (hc : ∀ W, S W -> W.rangeAt b o (trieL s nv)) :
    YieldsIf Tryz.prog ops S op (trieV s nv) a :=
  yieldsIf_load_mid (P := Tryz.prog) hw 30 x ho b o hx (trieL s nv) _ hc Tryz.underlying30 rfl (trie_size.trans (congrArg some (trieL_length hs nv).symm))
structure SAt (w : World) (b : Nat) (s : List UInt8) (xv ts ms : Value) (m : List Bw.PV) (nv : Value) (o : Option Bw.N) (os : List (Option Bw.N)) (mm : List (List Bw.PV)) (W : World) : Prop where
  lb : w.heap.size < b
  t : TrieIn W b s nv
  n : ONodeAt nt (Clean (· = b) ts ms) W nv o
  y : Bw.OLays 0 o (Bw.ents (Bw.sipHash s) m)
  x : SPairsAt (Clean (· = b) ts ms) W xv m
  mo : MapOk m
  sd : W.rangeAt w.heap.size 0 (seedL s)
  own1 : OwnAt 30 17 (trieK s) (Apart (· = b) ms) W (w.heap.size + 1) ts os
  own2 : OwnAt 32 1 mapK (Apart (· = b) ts) W (w.heap.size + 1) ms mm
  ll : os.length = mm.length
  ok : ∀ (k : Nat) (o' : Option Bw.N) (m' : List Bw.PV), os[k]? = some o' -> mm[k]? = some m' -> Bw.OLays 0 o' (Bw.ents (Bw.sipHash s) m') /\ MapOk m' /\ m'.length <= 40
  hB : Below w.heap.size w W
section
variable {w W W' : World} {b : Nat} {s : List UInt8} {xv xv' ts ms : Value} {m m' : List Bw.PV} {nv nv' : Value} {o o' : Option Bw.N} {os : List (Option Bw.N)} {mm : List (List Bw.PV)}
theorem SAt.below (h : SAt w b s xv ts ms m nv o os mm W) (hs : s.length = 16) (hb : Below W.heap.size W W') : SAt w b s xv ts ms m nv o os mm W' :=
  { lb := h.lb, t := h.t.below hb, n := h.n.move (Moves.below hb), y := h.y, x := h.x.move goodSp (Moves.below hb), mo := h.mo, sd := rng_same (hb.block _ (Nat.lt_trans h.lb h.t.lt)) h.sd,
    own1 := h.own1.move (goodTrie hs) (fun k hk hl => ⟨hk, hb.block k hl⟩), own2 := h.own2.move goodMap (fun k hk hl => ⟨hk, hb.block k hl⟩), ll := h.ll, ok := h.ok, hB := h.hB.trans (hb.mono h.hB.size) }
theorem SAt.set (h : SAt w b s xv ts ms m nv o os mm W) (hs : s.length = 16) (hn : ONodeAt nt (Clean (· = b) ts ms) W nv' o') (hy : Bw.OLays 0 o' (Bw.ents (Bw.sipHash s) m')) (hx : SPairsAt (Clean (· = b) ts ms) W xv' m') (hm : MapOk m') :
    SAt w b s xv' ts ms m' nv' o' os mm (W.setCells b 0 (trieL s nv')) :=
  have e : ∀ k, k ≠ b -> (W.setCells b 0 (trieL s nv')).heap[k]? = W.heap[k]? := fun _ hk => World.other_setCells hk _ _ _
  { lb := h.lb, t := TrieIn.put nv' hs h.t.there, n := hn.move (fun k hk _ => ⟨hk, e k hk.1⟩), y := hy, x := hx.move goodSp (fun k hk _ => ⟨hk, e k hk.1⟩), mo := hm, sd := rng_same (e _ (Nat.ne_of_lt h.lb)) h.sd,
    own1 := h.own1.move (goodTrie hs) (fun k hk _ => ⟨hk, e k hk.1⟩), own2 := h.own2.move goodMap (fun k hk _ => ⟨hk, e k hk.1⟩), ll := h.ll, ok := h.ok, hB := World.below_setCells (Nat.le_of_lt h.lb) _ _ _ h.hB }
theorem SAt.okc (h : SAt w b s xv ts ms m nv o os mm W) : ∀ k, W.heap.size <= k -> Clean (· = b) ts ms k := fun k hk =>
  ⟨by have := h.t.lt; show ¬ k = b; omega, fun e => by have := (h.own1.lt k e).2; omega, fun e => by have := (h.own2.lt k e).2; omega⟩
theorem SAt.ins (h : SAt w b s xv ts ms m nv o os mm W) (hs : s.length = 16) {u1 u2 : Value} {q : Bw.PV} (hu : BytesAt AllB w u1 q.1) (hv : BytesAt AllB w u2 q.2)
    (hq : q.1.length <= 1048576 /\ q.2.length <= 1048576) (hT : Tab w) (hS : Sta w) : StepIn (Clean (· = b) ts ms) (fun k => k < w.heap.size) none s m o q (0, 0) W nv xv u1 u2 (.pointer none) :=
  have hmb : Moves AllB (fun k => k < w.heap.size) w W := fun k _ hl => ⟨hl, h.hB.block k hl⟩
  { seed := hs, map := h.mo, node := h.n, lays := h.y, row := h.x, b1 := hu.move goodByte hmb, b2 := hv.move goodByte hmb, p1 := hq.1, p2 := hq.2, meter := rfl, hokm := fun _ _ e => (by cases e), hokb := fun _ _ e => (by cases e), hmt := fun e => (by cases e),
    hok := h.okc, tab := hT.below hT.pos h.hB, sta := hS.below hS.pos h.hB, c1 := by decide, c2 := by decide }
theorem SAt.new1 (h : SAt w b s xv ts ms m nv o os mm W) : trieK s (fun k => Apart (· = b) ms k /\ some k ≠ ts.ownBlock) W o (trieL s nv) :=
  ⟨nv, rfl, h.n.move (Moves.weaken fun _ hk _ => ⟨⟨hk.1, hk.2.2⟩, fun e => hk.2.1 e.symm⟩)⟩
theorem SAt.rows (h : SAt w b s xv ts ms m nv o os mm W) {v8 : Value} (g8 : W.grownBy W' ts.ownBlock) (e8 : v8.ownBlock = ts.ownBlock \/ ∃ b, v8.ownBlock = some b /\ W.heap.size <= b) :
    OwnAt 32 1 mapK (Apart (· = b) v8) W' (w.heap.size + 1) ms mm :=
  h.own2.move goodMap fun k hk hl => ⟨⟨hk.1, own_ne e8 hk.2 hl⟩, g8.block k hl (fun e => hk.2 e.symm)⟩
theorem SAt.new2 (h : SAt w b s xv ts ms m nv o os mm W) {v8 : Value} (g8 : W.grownBy W' ts.ownBlock) (e8 : v8.ownBlock = ts.ownBlock \/ ∃ b, v8.ownBlock = some b /\ W.heap.size <= b) :
    SPairsAt (fun k => Apart (· = b) v8 k /\ some k ≠ ms.ownBlock) W' xv m :=
  h.x.move goodSp fun k hk hl => ⟨⟨⟨hk.1, own_ne e8 hk.2.1 hl⟩, fun e => hk.2.2 e.symm⟩, g8.block k hl (fun e => hk.2.1 e.symm)⟩
theorem SAt.next (h : SAt w b s xv ts ms m nv o os mm W) (hs : s.length = 16) (hl : m.length <= 40) {W8 W9 : World} {v8 v9 : Value}
    (h8 : OwnAt 30 17 (trieK s) (Apart (· = b) ms) W8 (w.heap.size + 1) v8 (os ++ [o])) (g8 : W.grownBy W8 ts.ownBlock) (e8 : v8.ownBlock = ts.ownBlock \/ ∃ b, v8.ownBlock = some b /\ W.heap.size <= b)
    (h9 : OwnAt 32 1 mapK (Apart (· = b) v8) W9 (w.heap.size + 1) v9 (mm ++ [m])) (g9 : W8.grownBy W9 ms.ownBlock) (e9 : v9.ownBlock = ms.ownBlock \/ ∃ b, v9.ownBlock = some b /\ W8.heap.size <= b) (hB : Below w.heap.size w W9) :
    SAt w b s xv v8 v9 m nv o (os ++ [o]) (mm ++ [m]) W9 := by
  have h78 := g8.size
  have mv : ∀ k, Clean (· = b) ts ms k -> k < W.heap.size -> Clean (· = b) v8 v9 k /\ W9.heap[k]? = W.heap[k]? := fun k hk hl =>
    ⟨⟨hk.1, own_ne e8 hk.2.1 hl, own_ne e9 hk.2.2 (by omega)⟩, (g9.block k (by omega) (fun e => hk.2.2 e.symm)).trans (g8.block k hl (fun e => hk.2.1 e.symm))⟩
  have fx : ∀ k, k < W.heap.size -> ts.ownBlock ≠ some k -> ms.ownBlock ≠ some k -> W9.heap[k]? = W.heap[k]? := fun k hl h1 h2 => (g9.block k (by omega) (fun e => h2 e.symm)).trans (g8.block k hl (fun e => h1 e.symm))
  have nb1 : ts.ownBlock ≠ some b := fun e => absurd rfl (h.own1.1 b e).1
  have nb2 : ms.ownBlock ≠ some b := fun e => absurd rfl (h.own2.1 b e).1
  have ns1 : ts.ownBlock ≠ some w.heap.size := fun e => by have := (h.own1.lt _ e).1; omega
  have ns2 : ms.ownBlock ≠ some w.heap.size := fun e => by have := (h.own2.lt _ e).1; omega
  have hok : ∀ (k : Nat) (o' : Option Bw.N) (m' : List Bw.PV), (os ++ [o])[k]? = some o' -> (mm ++ [m])[k]? = some m' -> Bw.OLays 0 o' (Bw.ents (Bw.sipHash s) m') /\ MapOk m' /\ m'.length <= 40 := fun k o' m' ho hm => by
    rcases Nat.lt_or_ge k os.length with hk | hk
    · rw [List.getElem?_append_left hk] at ho
      rw [List.getElem?_append_left (by rw [<- h.ll]; exact hk)] at hm
      exact h.ok k o' m' ho hm
    · rw [List.getElem?_append_right hk] at ho
      rw [List.getElem?_append_right (by rw [<- h.ll]; exact hk), <- h.ll] at hm
      have hz : k - os.length = 0 := by
        have := (List.getElem?_eq_some_iff.1 ho).1
        simp at this; omega
      rw [hz] at ho hm
      simp only [List.getElem?_cons_zero, Option.some.injEq] at ho hm
      subst ho; subst hm
      exact ⟨h.y, h.mo, hl⟩
  exact { lb := h.lb, t := h.t.same (fx b h.t.lt nb1 nb2), n := h.n.move mv, y := h.y, x := h.x.move goodSp mv, mo := h.mo, sd := rng_same (fx _ (Nat.lt_trans h.lb h.t.lt) ns1 ns2) h.sd,
          own1 := h8.move (goodTrie hs) fun k hk hl => ⟨⟨hk.1, own_ne e9 hk.2 hl⟩, g9.block k hl (fun e => hk.2 e.symm)⟩, own2 := h9, ll := (by simp [h.ll]),
          ok := hok, hB := hB }
end
end Go.Proofs.YtadaoceidkagfaaGreatDoor
