
import Derived.Test.YtadaoceidkagfaaGreatDoorComeA
import Derived.Deep.QuietTactic
import Derived.BigQuiet
import Derived.Test.YtadaoceidkagfaaGreatDoorLayA
import Derived.Test.YtadaoceidkagfaaGreatDoorLSameA
import Derived.Test.YtadaoceidkagfaaGreatDoorGwith
import Derived.Test.YtadaoceidkagfaaGreatDoorChunk
import Derived.Deep.RegionHeldLaw
import Derived.Deep.RegionHeld3
namespace Go.Proofs.YtadaoceidkagfaaGreatDoor
open Go.RowKit Go.Bw
open Go.RowKit Go.Bw
open Go.RowKit Go.Bw Go.Shelf Go.Lib
open Go.RowKit Go.Bw Go.Shelf Go.Lib
attribute [local go_sem] Oper.semAt_some
structure LayOk (level f : Nat) (l : List Bw.En) : Prop where
  lv : level + f = 13
  len : l.length <= 1048576
  bytes : ∀ e ∈ l, e.2.1.length <= 1048576 /\ e.2.2.length <= 1048576
  unlike : Bw.Unlike l
  res : ∃ r, ∀ e ∈ l, e.1 % 32 ^ level = r
  hash : ∀ e ∈ l, e.1 < 18446744073709551616
theorem LayOk.part {level f c : Nat} {l : List Bw.En} (h : LayOk level (f + 1) l) : LayOk (level + 1) f (Bw.partOf level c l) where
  lv := by have := h.lv; omega
  len := Nat.le_trans (List.length_filter_le _ _) h.len
  bytes := fun e he => h.bytes e (Bw.mem_partOf.1 he).1
  unlike := h.unlike.filter _
  res := by obtain ⟨r, hr⟩ := h.res; exact ⟨_, Bw.part_same hr⟩
  hash := fun e he => h.hash e (Bw.mem_partOf.1 he).1
end Go.Proofs.YtadaoceidkagfaaGreatDoor
