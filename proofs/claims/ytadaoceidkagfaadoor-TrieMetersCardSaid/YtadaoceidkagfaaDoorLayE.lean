
import Derived.Test.YtadaoceidkagfaaDoorComeA
import Derived.Deep.QuietTactic
import Derived.BigQuiet
import Derived.Test.YtadaoceidkagfaaDoorLayA
import Derived.Test.YtadaoceidkagfaaDoorLSameA
import Derived.Test.YtadaoceidkagfaaDoorGwith
import Derived.Test.YtadaoceidkagfaaDoorChunk
import Derived.Deep.RegionHeldLaw
import Derived.Deep.RegionHeld3
namespace Go.Proofs.YtadaoceidkagfaaDoor
open Go.RowKit Go.Bw

def GrowRel (l : List Bw.En) (w : World) (v i : Value) (wr : World) : Prop :=
  ∃ k : Nat, k ≤ l.length ∧ i = .int .i64 k ∧ OwnAt 47 2 pairK AllB wr w.heap.size v ((l.take k).map (·.2)) ∧ Below w.heap.size w wr

end Go.Proofs.YtadaoceidkagfaaDoor

namespace Go.Proofs.YtadaoceidkagfaaDoor
open Go.RowKit Go.Bw

def IxRel (l : List Bw.En) (g : Nat) (w : World) (i : Value) (wr : World) : Prop :=
  ∃ k : Nat, k ≤ l.length ∧ i = .int .i64 k ∧ (∀ x ∈ l.take k, x.1 = g) ∧ Below w.heap.size w wr

end Go.Proofs.YtadaoceidkagfaaDoor

namespace Go.Proofs.YtadaoceidkagfaaDoor
open Go.RowKit Go.Bw Go.Shelf Go.Lib

end Go.Proofs.YtadaoceidkagfaaDoor

namespace Go.Proofs.YtadaoceidkagfaaDoor
open Go.RowKit Go.Bw Go.Shelf Go.Lib
attribute [local go_sem] Oper.semAt_some

structure LayOk (level f : Nat) (l : List Bw.En) : Prop where
  lv : level + f = 13
  len : l.length ≤ 1048576
  bytes : ∀ e ∈ l, e.2.1.length ≤ 1048576 ∧ e.2.2.length ≤ 1048576
  unlike : Bw.Unlike l
  res : ∃ r, ∀ e ∈ l, e.1 % 32 ^ level = r
  hash : ∀ e ∈ l, e.1 < 18446744073709551616

theorem LayOk.part {level f c : Nat} {l : List Bw.En} (h : LayOk level (f + 1) l) : LayOk (level + 1) f (Bw.partOf level c l) where
  lv := by have := h.lv; omega
  len := Nat.le_trans (List.length_filter_le _ _) h.len
  bytes := fun e he => h.bytes e (Bw.mem_partOf.1 he).1
  unlike := h.unlike.filter _
  res := by obtain ⟨r, hr⟩ := h.res; exact ⟨_, Bw.part_same hr⟩
  hash := fun e he => h.hash e (Bw.mem_partOf.1 he).1

theorem onodeE_form {ok : Nat → Prop} {w : World} {v : Value} {o : Option Bw.N} (h : ONodeAt nt ok w v o) : v = .nilIface ∨ ∃ t b, v = .iface t (.pointer (some ⟨b, 0, none⟩)) := by
  cases o with
  | none => exact .inl h
  | some n => exact .inr (NodeAt.form h)

theorem countOs_le {B : Nat} : ∀ {l : List (Option Bw.N)}, (∀ o ∈ l, countO o ≤ B) → countOs l ≤ l.length * B
  | [], _ => by simp [countOs]
  | o :: r, h => by
    have h1 := h o (by simp)
    have h2 := countOs_le (l := r) fun x hx => h x (by simp [hx])
    simp only [countOs, List.map_cons, List.sum_cons, List.length_cons, Nat.add_mul] at h2 ⊢
    omega

theorem count_layO {level f : Nat} {l : List Bw.En} (h : LayOk level f l) : countO (Bw.layO f level l) ≤ 1048576 := by
  have hO := Bw.layO_lays f level l h.lv h.unlike h.res h.hash
  cases ho : Bw.layO f level l with
  | none => simp [countO]
  | some n =>
    rw [ho] at hO
    have := Bw.lays_count hO l h.unlike fun e => Iff.rfl
    simp only [countO, this]
    exact h.len

end Go.Proofs.YtadaoceidkagfaaDoor
