
import Derived.Test.YtehkjnmnbplcoaaGreatDoorLayE
import Derived.Test.YtehkjnmnbplcoaaGreatDoorComeA
import Derived.Test.YtehkjnmnbplcoaaGreatDoorLSame
import Derived.Test.YtehkjnmnbplcoaaGreatDoorFitL
namespace Go.Proofs.YtehkjnmnbplcoaaGreatDoor
open Go.RowKit Go.Bw

theorem _root_.Bw.mem_lasts {e : Bw.En} : ∀ {l : List Bw.En}, e ∈ Bw.lasts l → e ∈ l
  | [], h => h
  | a :: r, h => by
    simp only [Bw.lasts] at h
    split at h
    · rcases List.mem_cons.1 h with h | h
      · exact List.mem_cons.2 (.inl h)
      · exact List.mem_cons_of_mem _ (Bw.mem_lasts h)
    · exact List.mem_cons_of_mem _ (Bw.mem_lasts h)

theorem _root_.Bw.unlike_lasts : ∀ l : List Bw.En, Bw.Unlike (Bw.lasts l)
  | [] => List.Pairwise.nil
  | a :: r => by
    simp only [Bw.lasts]
    split
    · rename_i h
      refine List.pairwise_cons.2 ⟨fun b hb e => ?_, Bw.unlike_lasts r⟩
      have := List.count_eq_zero.1 h
      exact this (List.mem_map.2 ⟨b, Bw.mem_lasts hb, e.symm⟩)
    · exact Bw.unlike_lasts r

/-- of unlike keys they come to themselves -/
theorem _root_.Bw.lasts_unlike : ∀ {l : List Bw.En}, Bw.Unlike l → Bw.lasts l = l
  | [], _ => rfl
  | a :: r, h => by
    obtain ⟨h1, h2⟩ := List.pairwise_cons.1 h
    simp only [Bw.lasts]
    rw [if_pos (List.count_eq_zero.2 fun hm => by
      obtain ⟨b, hb, e⟩ := List.mem_map.1 hm
      exact h1 b hb e.symm), Bw.lasts_unlike h2]

/-- entries as the statements hold them -/
structure EnsOk (l : List Bw.En) : Prop where
  len : l.length ≤ 1000
  bytes : ∀ e ∈ l, e.2.1.length ≤ 1048576 ∧ e.2.2.length ≤ 1048576
  hash : ∀ e ∈ l, e.1 < 18446744073709551616

theorem EnsOk.lay {l : List Bw.En} (h : EnsOk l) : LayOk 0 13 (Bw.lasts l) where
  lv := rfl
  len := Nat.le_trans (lasts_len l) (Nat.le_trans h.len (by decide))
  bytes := fun e he => h.bytes e (Bw.mem_lasts he)
  unlike := Bw.unlike_lasts l
  res := ⟨0, fun e _ => by rw [Nat.pow_zero, Nat.mod_one]⟩
  hash := fun e he => h.hash e (Bw.mem_lasts he)

/-- the layout of entries, whatever their keys are -/
def _root_.Bw.ofO (l : List Bw.En) : Option Bw.N := Bw.layO 13 0 (Bw.lasts l)

theorem EnsOk.lays {l : List Bw.En} (h : EnsOk l) : Bw.OLays 0 (Bw.ofO l) (Bw.lasts l) := Bw.layO_lays 13 0 _ rfl h.lay.unlike h.lay.res h.lay.hash

theorem EnsOk.slim {l : List Bw.En} (h : EnsOk l) : ∀ n, Bw.ofO l = some n → Slim n := by
  intro n e
  have hL := h.lays
  rw [e] at hL
  have hl := h.lay
  have hlen : (Bw.lasts l).length ≤ 1000 := Nat.le_trans (lasts_len l) h.len
  have hf := Bw.lays_fit hL (Bw.lasts l) hl.unlike (fun e => Iff.rfl) hl.bytes hl.len
  obtain ⟨_, h2, h3⟩ := lays_visits hL (Bw.lasts l) hl.unlike (fun e => Iff.rfl) (by decide) hl.res hl.hash
  refine ⟨hf, fun x hx => Nat.le_trans (h2 x hx) (by decide), ?_⟩
  rw [vol_wtE, held_count, Bw.lays_count hL (Bw.lasts l) hl.unlike fun e => Iff.rfl]
  omega

set_option maxRecDepth 100000 in
set_option maxHeartbeats 400000 in
theorem lof_any {ok : Nat → Prop} {l : List Bw.En} {v : Value} {w : World} (hl : EnsOk l) (hr : EntsAt ok w v l) (hT : Tab w) :
    Calls Tryz.prog 19 #[v] w (Gives w fun q w' => ONodeAt nt (fun k => w.heap.size ≤ k) w' q (Bw.ofO l)) := by
  have CC := Lib.hid (lcome_any (Nat.le_trans hl.len (by decide)) hl.bytes hr)
  have CL := Lib.hid (fun (W : World) (q : Value) (hW : Below w.heap.size w W) (h : EntsAt (fun k => w.heap.size ≤ k) W q (Bw.lasts l)) => lay_any 13 0 (Bw.lasts l) _ q W hl.lay h (hT.below hT.pos hW))
  have HF : Hid (Bw.layO 13 0 (Bw.lasts l) = Bw.ofO l) := Lib.hid rfl
  obtain ⟨A, c, rfl⟩ := hr.form
  clear hl hr hT
  go_enter Tryz.func19, Tryz.ntmps19
  go_wp2_with fail
  refine CC.out.mono ?_
  rintro e w1 ⟨q1, rfl, hq1, hb1⟩
  have hr1 := hq1.row goodEnt
  obtain ⟨A1, c1, rfl⟩ := hr1.form
  have CL1 := Lib.hid (CL.out w1 _ hb1 hr1)
  have HB := Lib.hid hb1
  clear hq1 hr1 hb1
  generalize (Bw.lasts l).length = n1 at *
  go_wp2_with fail
  refine CL1.out.mono ?_
  rintro e w2 ⟨q2, rfl, hq2, hb2⟩
  have HQ : Hid (ONodeAt nt (fun k => w.heap.size ≤ k) w2 q2 (Bw.ofO l)) := Lib.hid (HF.out ▸ hq2.move (Moves.weaken fun k hk _ => Nat.le_trans HB.out.size hk))
  have HB2 := Lib.hid (HB.out.trans (hb2.mono HB.out.size))
  clear hq2 hb2
  go_wp2
  go_ret
  exact ⟨_, rfl, HQ.out, HB2.out⟩
end Go.Proofs.YtehkjnmnbplcoaaGreatDoor
