
import Derived.Test.YtadaoceidkagfaaGreatDoorLayE
import Derived.Test.YtadaoceidkagfaaGreatDoorComeA
import Derived.Test.YtadaoceidkagfaaGreatDoorLSameA
import Derived.Test.YtadaoceidkagfaaGreatDoorFitL
namespace Go.Proofs.YtadaoceidkagfaaGreatDoor
open Go.RowKit Go.Bw
theorem _root_.Bw.mem_lasts {e : Bw.En} : ∀ {l : List Bw.En}, e ∈ Bw.lasts l -> e ∈ l
  | [], h => h
  | a :: r, h => by
    simp only [Bw.lasts] at h
    split at h
    · rcases List.mem_cons.1 h with h | h
      · exact List.mem_cons.2 (.inl h)
      · exact List.mem_cons_of_mem _ (Bw.mem_lasts h)
    · exact List.mem_cons_of_mem _ (Bw.mem_lasts h)
theorem _root_.Bw.unlike_lasts : ∀ l : List Bw.En, Bw.Unlike (Bw.lasts l)
  | [] => List.Pairwise.nil
  | a :: r => by
    simp only [Bw.lasts]
    split
    · rename_i h
      refine List.pairwise_cons.2 ⟨fun b hb e => ?_, Bw.unlike_lasts r⟩
      have := List.count_eq_zero.1 h
      exact this (List.mem_map.2 ⟨b, Bw.mem_lasts hb, e.symm⟩)
    · exact Bw.unlike_lasts r
structure EnsOk (l : List Bw.En) : Prop where
  len : l.length <= 1000
  bytes : ∀ e ∈ l, e.2.1.length <= 1048576 /\ e.2.2.length <= 1048576
  hash : ∀ e ∈ l, e.1 < 18446744073709551616
theorem EnsOk.lay {l : List Bw.En} (h : EnsOk l) : LayOk 0 13 (Bw.lasts l) where
  lv := rfl
  len := Nat.le_trans (lasts_len l) (Nat.le_trans h.len (by decide))
  bytes := fun e he => h.bytes e (Bw.mem_lasts he)
  unlike := Bw.unlike_lasts l
  res := ⟨0, fun e _ => by rw [Nat.pow_zero, Nat.mod_one]⟩
  hash := fun e he => h.hash e (Bw.mem_lasts he)
def _root_.Bw.ofO (l : List Bw.En) : Option Bw.N := Bw.layO 13 0 (Bw.lasts l)
theorem EnsOk.lays {l : List Bw.En} (h : EnsOk l) : Bw.OLays 0 (Bw.ofO l) (Bw.lasts l) := Bw.layO_lays 13 0 _ rfl h.lay.unlike h.lay.res h.lay.hash
theorem EnsOk.slim {l : List Bw.En} (h : EnsOk l) : ∀ n, Bw.ofO l = some n -> Slim n := by
  intro n e
  have hL := h.lays
  rw [e] at hL
  have hl := h.lay
  have hlen : (Bw.lasts l).length <= 1000 := Nat.le_trans (lasts_len l) h.len
  have hf := Bw.lays_fit hL (Bw.lasts l) hl.unlike (fun e => Iff.rfl) hl.bytes hl.len
  obtain ⟨_, h2, h3⟩ := lays_visits hL (Bw.lasts l) hl.unlike (fun e => Iff.rfl) (by decide) hl.res hl.hash
  refine ⟨hf, fun x hx => Nat.le_trans (h2 x hx) (by decide), ?_⟩
  rw [vol_wtE, held_count, Bw.lays_count hL (Bw.lasts l) hl.unlike fun e => Iff.rfl]
  omega
end Go.Proofs.YtadaoceidkagfaaGreatDoor
