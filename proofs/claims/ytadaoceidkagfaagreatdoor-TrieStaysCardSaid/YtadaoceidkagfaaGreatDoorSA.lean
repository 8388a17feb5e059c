
import Derived.Test.YtadaoceidkagfaaGreatDoorGA
import Derived.Test.YtadaoceidkagfaaGreatDoorScrap
import Derived.Deep.DeepCutAuto
namespace Go.Proofs.YtadaoceidkagfaaGreatDoor
open Go.RowKit Go.Bw
open Go.RowKit Go.Bw
def Clean (D : Nat -> Prop) (ns ms : Value) (b : Nat) : Prop := ¬ D b /\ ns.ownBlock ≠ some b /\ ms.ownBlock ≠ some b
def Apart (D : Nat -> Prop) (v : Value) (b : Nat) : Prop := ¬ D b /\ v.ownBlock ≠ some b
def mapsOf (l : List Bw.PV) (k : Nat) : List (List Bw.PV) := (List.range k).map fun j => Bw.come (l.take (j + 1))
theorem mapsOf_succ (l : List Bw.PV) (k : Nat) : mapsOf l (k + 1) = mapsOf l k ++ [Bw.come (l.take (k + 1))] := by
  unfold mapsOf
  rw [List.range_succ, List.map_append]
  rfl
abbrev mapK : Knd (List Bw.PV) := slK 2 spK
abbrev goodMap : _root_.Go.Bw.Good 1 mapK := goodSp.slice
theorem infoM : (Tryz.prog.info? 32).map (fun i => (i.zero, i.size, i.bytes)) = some (some (.slice none 0 0), 1, 24) := by kernel_rfl
def SLoop (t : List Nat) (l : List Bw.PV) (w : World) (n m ns ms i : Value) (wr : World) : Prop :=
  ∃ (k : Nat) (o : Option Bw.N) (os : List (Option Bw.N)) (D : Nat -> Prop),
    k <= l.length /\ i = .int .i64 k /\ os.length = k /\ (∀ j o', os[j]? = some o' -> Bw.OLays 0 o' (Bw.entries t (Bw.come (l.take (j + 1))))) /\ Bw.OLays 0 o (Bw.entries t (Bw.come (l.take k))) /\
    ONodeAt nt (Clean D ns ms) wr n o /\ SPairsAt (Clean D ns ms) wr m (Bw.come (l.take k)) /\
    OwnAt 28 1 (nodeK nt) (Apart D ms) wr w.heap.size ns os /\ OwnAt 32 1 mapK (Apart D ns) wr w.heap.size ms (mapsOf l k) /\
    (∀ b, D b -> w.heap.size <= b /\ b < wr.heap.size) /\ Below w.heap.size w wr
theorem own_ne {ns v8 : Value} {n b : Nat} (e8 : v8.ownBlock = ns.ownBlock \/ ∃ b, v8.ownBlock = some b /\ n <= b) (h : ns.ownBlock ≠ some b) (hb : b < n) : v8.ownBlock ≠ some b := fun e => by
  rcases e8 with e8 | ⟨b', e8, hb'⟩
  · exact h (e8.symm.trans e)
  · have := e8.symm.trans e
    injection this with this
    omega
theorem SLoop.next {t : List Nat} {l : List Bw.PV} {w w7 w8 w9 : World} {k : Nat} {os : List (Option Bw.N)} {D : Nat -> Prop} {nv mv ns ms v8 v9 : Value} {n5 : Bw.N} (hk : k < l.length)
    (hD : ∀ b, D b -> w.heap.size <= b /\ b < w7.heap.size) (hos : os.length = k) (hl : ∀ j o', os[j]? = some o' -> Bw.OLays 0 o' (Bw.entries t (Bw.come (l.take (j + 1)))))
    (hn : NodeAt nt (Clean D ns ms) w7 nv n5) (hL : Bw.OLays 0 (some n5) (Bw.entries t (Bw.come (l.take (k + 1))))) (hm : SPairsAt (Clean D ns ms) w7 mv (Bw.come (l.take (k + 1))))
    (h8 : OwnAt 28 1 (nodeK nt) (Apart D ms) w8 w.heap.size v8 (os ++ [some n5]))
    (g8 : w7.grownBy w8 ns.ownBlock) (e8 : v8.ownBlock = ns.ownBlock \/ ∃ b, v8.ownBlock = some b /\ w7.heap.size <= b)
    (h9 : OwnAt 32 1 mapK (Apart D v8) w9 w.heap.size v9 (mapsOf l k ++ [Bw.come (l.take (k + 1))]))
    (g9 : w8.grownBy w9 ms.ownBlock) (e9 : v9.ownBlock = ms.ownBlock \/ ∃ b, v9.ownBlock = some b /\ w8.heap.size <= b) (hB : Below w.heap.size w w9) :
    SLoop t l w nv mv v8 v9 (.int .i64 ((k + 1 : Nat) : Int)) w9 := by
  have h78 := g8.size
  have h89 := g9.size
  have hmv : Moves (Clean D ns ms) (Clean D v8 v9) w7 w9 := fun b hb hbl =>
    ⟨⟨hb.1, own_ne e8 hb.2.1 hbl, own_ne e9 hb.2.2 (by omega)⟩, (g9.block b (by omega) (fun e => hb.2.2 e.symm)).trans (g8.block b hbl (fun e => hb.2.1 e.symm))⟩
  refine ⟨k + 1, some n5, os ++ [some n5], D, hk, rfl, by simp [hos], ?_, hL, ONodeAt.move hmv hn, hm.move goodSp hmv, ?_, ?_, fun b hb => ?_, hB⟩
  · intro j o' hj
    rcases Nat.lt_or_ge j os.length with hjl | hjl
    · rw [List.getElem?_append_left hjl] at hj
      exact hl j o' hj
    · rw [List.getElem?_append_right hjl] at hj
      have hj0 : j - os.length = 0 := by
        have := (List.getElem?_eq_some_iff.1 hj).1
        simp at this; omega
      rw [hj0] at hj
      simp only [List.getElem?_cons_zero, Option.some.injEq] at hj
      subst hj
      obtain rfl : j = k := by omega
      exact hL
  · exact h8.move (goodNode nt) fun b hb hbl => ⟨⟨hb.1, own_ne e9 hb.2 hbl⟩, g9.block b hbl (fun e => hb.2 e.symm)⟩
  · rw [mapsOf_succ]
    exact h9
  · have := hD b hb; omega
open Go.RowKit Go.Bw
end Go.Proofs.YtadaoceidkagfaaGreatDoor
