/- find.way, find.Get, tree.Get. -/
import Derived.Test.YtehkjnmnbplcoaaGreatDoorMeter
import Derived.Test.YtehkjnmnbplcoaaGreatDoorOf
import Derived.Test.YtehkjnmnbplcoaaGreatDoorBwFind
import Derived.Deep.LoopGhost
namespace Go.Proofs.YtehkjnmnbplcoaaGreatDoor
open Go.RowKit Go.Bw

/-- what a look tells -/
def LookTold (w : World) (u : Value) (b : Bool) (r : Option Bw.Bytes) : Prop :=
  match r with
  | none => u = .slice none 0 0 ∧ b = false
  | some x => b = true ∧ BytesAt AllB w u x

def FwayRel (ok : Nat → Prop) (w : World) (mv : Value) (c : Nat × Nat) (mb : Option Nat) (h : Nat) (x : Option Bw.N) (D : Nat) (v dv : Value) (wr : World) : Prop :=
  ∃ (d f : Nat) (o : Option Bw.N) (l : List Bw.En), dv = .int .i64 d ∧ LayOk d f l ∧ Bw.OLays d o l ∧ ONodeAt nt ok wr v o ∧ MeterAt wr mv (c.1 + d, c.2) mb ∧ Turns w wr mb ∧ (Bw.wayO f o h d).1 = x ∧ (Bw.wayO f o h d).2 + d = D

theorem LayOk.fit {level f : Nat} {l : List Bw.En} {n : Bw.N} (hl : LayOk level f l) (h : Bw.OLays level (some n) l) : n.fit := Bw.lays_fit h l hl.unlike (fun _ => Iff.rfl) hl.bytes hl.len

theorem wayO_le (h : Nat) : ∀ (f level : Nat) (o : Option Bw.N), (Bw.wayO f o h level).2 ≤ f
  | f, level, none => by rw [Bw.wayO_none]; exact Nat.zero_le _
  | f, level, some (.leaf g q) => by rw [Bw.wayO_leaf]; exact Nat.zero_le _
  | f, level, some (.bucket g t) => by rw [Bw.wayO_bucket]; exact Nat.zero_le _
  | 0, level, some (.branch m kids) => Nat.le_refl _
  | f + 1, level, some (.branch m kids) => by
    simp only [Bw.wayO]
    exact Nat.succ_le_succ (wayO_le h f (level + 1) _)

theorem fway_lays (h : Nat) : ∀ (f level : Nat) (o : Option Bw.N) (l : List Bw.En), LayOk level f l → Bw.OLays level o l →
    ∃ (d f' : Nat) (l' : List Bw.En), LayOk d f' l' ∧ Bw.OLays d (Bw.wayO f o h level).1 l' ∧ ∀ m kids, (Bw.wayO f o h level).1 ≠ some (.branch m kids)
  | f, level, none, l, hL, hO => by rw [Bw.wayO_none]; exact ⟨_, _, _, hL, hO, fun _ _ e => by cases e⟩
  | f, level, some (.leaf g q), l, hL, hO => by rw [Bw.wayO_leaf]; exact ⟨_, _, _, hL, hO, fun _ _ e => by cases e⟩
  | f, level, some (.bucket g t), l, hL, hO => by rw [Bw.wayO_bucket]; exact ⟨_, _, _, hL, hO, fun _ _ e => by cases e⟩
  | 0, level, some (.branch m kids), l, hL, hO => by
    have := Bw.lays_branch_level hO (by have := hL.lv; omega) hL.res hL.hash
    have := hL.lv
    omega
  | f + 1, level, some (.branch m kids), l, hL, hO => by
    simp only [Bw.wayO]
    exact fway_lays h f (level + 1) _ _ hL.part (Bw.olays_kid hO (Bw.chunkAt h level))

end Go.Proofs.YtehkjnmnbplcoaaGreatDoor
