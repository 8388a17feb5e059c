/- Two tries in two variables. -/
import Derived.Test.YtadaoceidkagfaaGreatDoorTriL
import Derived.Deep.RegionHeld3
namespace Go.Proofs.YtadaoceidkagfaaGreatDoor
open Go.RowKit Go.Bw
abbrev Not2 (b1 b2 : Nat) : Nat → Prop := fun k => k ≠ b1 ∧ k ≠ b2
/-- two tries in the variables at blocks b1, b2, made behind w -/
structure TwoAt (w : World) (b1 b2 : Nat) (s t : List UInt8) (m1 m2 : List Bw.PV) (na nb : Value) (oa ob : Option Bw.N) (W : World) : Prop where
  ne : b1 ≠ b2
  l1 : w.heap.size ≤ b1
  l2 : w.heap.size ≤ b2
  t1 : TrieIn W b1 s na
  t2 : TrieIn W b2 t nb
  n1 : ONodeAt nt (Not2 b1 b2) W na oa
  n2 : ONodeAt nt (Not2 b1 b2) W nb ob
  y1 : Bw.OLays 0 oa (Bw.ents (Bw.sipHash s) m1)
  y2 : Bw.OLays 0 ob (Bw.ents (Bw.sipHash t) m2)
  hB : Below w.heap.size w W
section
variable {w W W' : World} {b1 b2 : Nat} {s t : List UInt8} {m1 m2 m' : List Bw.PV} {na nb na' : Value} {oa ob oa' : Option Bw.N}
theorem TwoAt.below (h : TwoAt w b1 b2 s t m1 m2 na nb oa ob W) (hb : Below W.heap.size W W') : TwoAt w b1 b2 s t m1 m2 na nb oa ob W' :=
  ⟨h.ne, h.l1, h.l2, h.t1.below hb, h.t2.below hb, h.n1.move (Moves.below hb), h.n2.move (Moves.below hb), h.y1, h.y2, h.hB.trans (hb.mono h.hB.size)⟩
theorem moves_set1 (b1 b2 : Nat) (W : World) (cs : List Value) : Moves (Not2 b1 b2) (Not2 b1 b2) W (W.setCells b1 0 cs) := fun _ hk _ => ⟨hk, World.other_setCells hk.1 cs 0 W⟩
theorem moves_set2 (b1 b2 : Nat) (W : World) (cs : List Value) : Moves (Not2 b1 b2) (Not2 b1 b2) W (W.setCells b2 0 cs) := fun _ hk _ => ⟨hk, World.other_setCells hk.2 cs 0 W⟩
theorem TwoAt.set1 (h : TwoAt w b1 b2 s t m1 m2 na nb oa ob W) (hs : s.length = 16) (hn : ONodeAt nt (Not2 b1 b2) W na' oa') (hy : Bw.OLays 0 oa' (Bw.ents (Bw.sipHash s) m')) :
    TwoAt w b1 b2 s t m' m2 na' nb oa' ob (W.setCells b1 0 (trieL s na')) :=
  ⟨h.ne, h.l1, h.l2, TrieIn.put na' hs h.t1.there, h.t2.same (World.other_setCells (Ne.symm h.ne) _ _ _), hn.move (moves_set1 b1 b2 W _), h.n2.move (moves_set1 b1 b2 W _), hy, h.y2, World.below_setCells h.l1 _ _ _ h.hB⟩
theorem TwoAt.set2 (h : TwoAt w b1 b2 s t m1 m2 na nb oa ob W) (ht : t.length = 16) (hn : ONodeAt nt (Not2 b1 b2) W na' oa') (hy : Bw.OLays 0 oa' (Bw.ents (Bw.sipHash t) m')) :
    TwoAt w b1 b2 s t m1 m' na na' oa oa' (W.setCells b2 0 (trieL t na')) :=
  ⟨h.ne, h.l1, h.l2, h.t1.same (World.other_setCells h.ne _ _ _), TrieIn.put na' ht h.t2.there, h.n1.move (moves_set2 b1 b2 W _), hn.move (moves_set2 b1 b2 W _), h.y1, hy, World.below_setCells h.l2 _ _ _ h.hB⟩
/-- a call asks what it asks: of the first, of the second -/
theorem TwoAt.in1 (h : TwoAt w b1 b2 s t m1 m2 na nb oa ob W) (hs : s.length = 16) (hm : MapOk m1) {xv u1 u2 : Value} {q : Bw.PV} (hx : SPairsAt (Not2 b1 b2) W xv m1) (hu : BytesAt AllB w u1 q.1) (hv : BytesAt AllB w u2 q.2)
    (hq : q.1.length ≤ 1048576 ∧ q.2.length ≤ 1048576) (hT : Tab w) (hS : Sta w) : StepIn (Not2 b1 b2) (fun k => k < w.heap.size) none s m1 oa q (0, 0) W na xv u1 u2 (.pointer none) :=
  have hmb : Moves AllB (fun k => k < w.heap.size) w W := fun k _ hl => ⟨hl, h.hB.block k hl⟩
  { seed := hs, map := hm, node := h.n1, lays := h.y1, row := hx, b1 := hu.move goodByte hmb, b2 := hv.move goodByte hmb, p1 := hq.1, p2 := hq.2, meter := rfl, hokm := fun _ _ e => (by cases e), hokb := fun _ _ e => (by cases e), hmt := fun e => (by cases e),
    hok := fun k hk => ⟨by have := h.t1.lt; omega, by have := h.t2.lt; omega⟩, tab := hT.below hT.pos h.hB, sta := hS.below hS.pos h.hB, c1 := by decide, c2 := by decide }
theorem TwoAt.in2 (h : TwoAt w b1 b2 s t m1 m2 na nb oa ob W) (ht : t.length = 16) (hm : MapOk m2) {xv u1 u2 : Value} {q : Bw.PV} (hx : SPairsAt (Not2 b1 b2) W xv m2) (hu : BytesAt AllB w u1 q.1) (hv : BytesAt AllB w u2 q.2)
    (hq : q.1.length ≤ 1048576 ∧ q.2.length ≤ 1048576) (hT : Tab w) (hS : Sta w) : StepIn (Not2 b1 b2) (fun k => k < w.heap.size) none t m2 ob q (0, 0) W nb xv u1 u2 (.pointer none) :=
  have hmb : Moves AllB (fun k => k < w.heap.size) w W := fun k _ hl => ⟨hl, h.hB.block k hl⟩
  { seed := ht, map := hm, node := h.n2, lays := h.y2, row := hx, b1 := hu.move goodByte hmb, b2 := hv.move goodByte hmb, p1 := hq.1, p2 := hq.2, meter := rfl, hokm := fun _ _ e => (by cases e), hokb := fun _ _ e => (by cases e), hmt := fun e => (by cases e),
    hok := fun k hk => ⟨by have := h.t1.lt; omega, by have := h.t2.lt; omega⟩, tab := hT.below hT.pos h.hB, sta := hS.below hS.pos h.hB, c1 := by decide, c2 := by decide }
end
/-- the beginning -/
theorem two_start {w WA W : World} {b1 b2 : Nat} {s t : List UInt8} (hwA : Below w.heap.size w WA) (hne : b1 ≠ b2) (hl1 : WA.heap.size ≤ b1) (hl2 : WA.heap.size ≤ b2) (h1 : W.there b1 0 17) (h2 : W.there b2 0 17) (hs : s.length = 16) (ht : t.length = 16) (hS : Below WA.heap.size WA W) :
    TwoAt w b1 b2 s t [] [] .nilIface .nilIface none none ((W.setCells b1 0 (trieL s .nilIface)).setCells b2 0 (trieL t .nilIface)) :=
  have g1 := TrieIn.put .nilIface hs h1
  have g2 : (W.setCells b1 0 (trieL s .nilIface)).there b2 0 17 := there_same (World.other_setCells hne.symm _ _ _) h2
  ⟨hne, Nat.le_trans hwA.size hl1, Nat.le_trans hwA.size hl2, g1.same (World.other_setCells hne _ _ _), TrieIn.put .nilIface ht g2, rfl, rfl, rfl, rfl,
    World.below_setCells (Nat.le_trans hwA.size hl2) _ _ _ (World.below_setCells (Nat.le_trans hwA.size hl1) _ _ _ (hwA.trans (hS.mono hwA.size)))⟩
section
variable {P : Program} {ops : Array Oper} {Q : Exit → Act → World → Prop} {md : Region.Mode} {S : World → Prop}
theorem ready_cons {i : Nat} {d : Option Tmp} {op : Op} {ty : TypeId} {pos : String} {af : Array Edge} {g : Option (Nat × Bool)} {fuel : Nat} {listed : Array Bool} {a : Act} {w : World} {rs : List Nat} (hi : ops[i]? = some ⟨d, op, ty, pos, af, g⟩)
    (hw : Region.wanted ⟨d, op, ty, pos, af, g⟩ (yielded ops a.tmps) = true)
    (h : ∀ K' : Act → World → Prop, Shut (∀ a w, S w → (S w → wpAnyH P md ops Q S fuel (listed.setIfInBounds i true) a w) → K' a w) → Oper.wp P ⟨d, op, ty, pos, af, g⟩ a w K' Q) (hs : AllReadyH P md ops Q S fuel listed a w rs) : AllReadyH P md ops Q S fuel listed a w (i :: rs) :=
  AllReadyH.cons hi (fun K hK => by rw [if_pos hw]; exact h K hK) hs
end
end Go.Proofs.YtadaoceidkagfaaGreatDoor
