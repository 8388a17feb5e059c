
import Derived.Test.YtehkjnmnbplcoaaDoorEach
import Derived.Test.YtehkjnmnbplcoaaDoorCmp
import Derived.Deep.QuietTactic
import Derived.BigQuiet
namespace Go.Proofs.YtehkjnmnbplcoaaDoor
open Go.RowKit Go.Bw

/-- behind so many trees: the last one, in a variable o of the call's own -/
def InvS (ok : Nat → Prop) (w0 : World) (o : Nat) (pre : List Bw.T) (w : World) : Prop :=
  ∃ A, w.cell? ⟨o, 0, none⟩ = some (.pointer A) ∧ w.frozen? ⟨o, 0, none⟩ = false ∧ Below w0.heap.size w0 w ∧ o < w.heap.size ∧
    (match pre.getLast? with
      | none => A = none
      | some x => TreeAt ok w (.pointer A) x)

set_option maxRecDepth 100000 in
set_option maxHeartbeats 400000 in
theorem sound1_first {ok : Nat → Prop} {w : World} {o b : Nat} {l r : Bw.T} {p : Bw.PV} (c0 : w.cell? ⟨o, 0, none⟩ = some (.pointer none)) (f0 : w.frozen? ⟨o, 0, none⟩ = false) (hoo : ∀ k, ok k → k ≠ o) (ht : TreeAt ok w (.pointer (some ⟨b, 0, none⟩)) (.node l p r)) (hn : l.size + r.size ≤ 1048575) (he : l.size + 1 ≤ 3 * (r.size + 1) ∧ r.size + 1 ≤ 3 * (l.size + 1)) :
    Calls Tryd.prog 83 #[.pointer (some ⟨b, 0, none⟩), .pointer (some ⟨o, 0, none⟩)] w fun e w' => e = .returned (.bool true) ∧ ∃ n m, w' = ((w.drewN n).setCell ⟨o, 0, none⟩ (.pointer (some ⟨b, 0, none⟩))).drewN m := by
  simp only [TreeAt] at ht
  obtain ⟨b', u1, u2, lv, rv, hb', ⟨_, h0⟩, ⟨_, h1⟩, ⟨_, h2⟩, ⟨_, h3⟩, ⟨_, h4⟩, k1, k2, hl, hr⟩ := ht
  cases hb'
  have CL := Lib.hid (fun (W : World) (hm : Moves ok ok w W) => (size_any (hl.move hm)).mono (R' := fun e w' => e = .returned (.int .i64 (l.size : Nat)) ∧ w' = W) (fun _ _ h => ⟨h.1, h.2.symm⟩))
  have CR := Lib.hid (fun (W : World) (hm : Moves ok ok w W) => (size_any (hr.move hm)).mono (R' := fun e w' => e = .returned (.int .i64 (r.size : Nat)) ∧ w' = W) (fun _ _ h => ⟨h.1, h.2.symm⟩))
  have CE := Lib.hid (fun (W : World) => (weven_any l.size r.size W (by omega) (by omega)).mono (R' := fun e w' => e = .returned (.bool true) ∧ w' = W) (fun _ _ h => ⟨by rw [h.1, decide_eq_true he], h.2.symm⟩))
  have HOO := Lib.hid hoo
  obtain ⟨A1, rfl⟩ := hl.form
  obtain ⟨A2, rfl⟩ := hr.form
  have MV : Hid (∀ n m, Moves ok ok w (((w.drewN n).setCell ⟨o, 0, none⟩ (.pointer (some ⟨b, 0, none⟩))).drewN m)) := Lib.hid fun n m => ((Moves.drewN w n).trans (by simp) (Moves.set (p := ⟨o, 0, none⟩) _ hoo)).trans (by simp) (Moves.drewN _ m)
  simp only [Bw.T.size, Int.natCast_add, Int.cast_ofNat_Int] at h4
  have q1 : (l.size : Int) ≤ 1048576 := by omega
  have q2 : (r.size : Int) ≤ 1048576 := by omega
  generalize l.size = sl at *
  generalize r.size = sr at *
  have hbo : ¬ (b = o) := hoo b ‹ok b›
  have hob : ¬ (o = b) := fun e => hbo e.symm
  clear hl hr k1 k2 he hoo hn
  go_enter Tryd.func83, Tryd.ntmps83
  go_wp2_with fail
  go_quiet (fail)
  go_wp2_with fail
  go_quiet ((first
    | (go_at_call 81; first | with_reducible exact Calls.quiet_of_same (CL.out _ (MV.out _ _)) | with_reducible exact Calls.quiet_of_same (CR.out _ (MV.out _ _)))
    | (go_at_call 84; exact Calls.quiet_of_same (CE.out _))))
  go_wp2
  go_ret
  exact ⟨rfl, _, _, rfl⟩
set_option maxRecDepth 100000 in
set_option maxHeartbeats 400000 in
theorem sound1_next {ok : Nat → Prop} {w : World} {o b : Nat} {l r l0 r0 : Bw.T} {p p0 : Bw.PV} {b0 : Nat} (c0 : w.cell? ⟨o, 0, none⟩ = some (.pointer (some ⟨b0, 0, none⟩))) (ht0 : TreeAt ok w (.pointer (some ⟨b0, 0, none⟩)) (.node l0 p0 r0)) (hlt : Lib.compareBytes p0.1 p.1 < 0) (f0 : w.frozen? ⟨o, 0, none⟩ = false) (hoo : ∀ k, ok k → k ≠ o) (ht : TreeAt ok w (.pointer (some ⟨b, 0, none⟩)) (.node l p r)) (hn : l.size + r.size ≤ 1048575) (he : l.size + 1 ≤ 3 * (r.size + 1) ∧ r.size + 1 ≤ 3 * (l.size + 1)) :
    Calls Tryd.prog 83 #[.pointer (some ⟨b, 0, none⟩), .pointer (some ⟨o, 0, none⟩)] w fun e w' => e = .returned (.bool true) ∧ ∃ n m, w' = ((w.drewN n).setCell ⟨o, 0, none⟩ (.pointer (some ⟨b, 0, none⟩))).drewN m := by
  simp only [TreeAt] at ht
  obtain ⟨b', u1, u2, lv, rv, hb', ⟨_, h0⟩, ⟨_, h1⟩, ⟨_, h2⟩, ⟨_, h3⟩, ⟨_, h4⟩, k1, k2, hl, hr⟩ := ht
  cases hb'
  simp only [TreeAt] at ht0
  obtain ⟨b0', v1, v2, _, _, hb0, ⟨_, g0⟩, _, _, _, _, kk1, _⟩ := ht0
  cases hb0
  obtain ⟨V1, x1, rfl⟩ := kk1.form
  obtain ⟨U1, x2, rfl⟩ := k1.form
  have CC := Lib.hid (fun n => (kcmp_any (w.drewN n) (kk1.move goodByte (Moves.drewN w n)) (k1.move goodByte (Moves.drewN w n))).mono (R' := fun e w' => e = .returned (.int .i64 (Lib.compareBytes p0.1 p.1)) ∧ w' = w.drewN n) (fun _ _ h => ⟨h.1, h.2.symm⟩))
  have CL := Lib.hid (fun (W : World) (hm : Moves ok ok w W) => (size_any (hl.move hm)).mono (R' := fun e w' => e = .returned (.int .i64 (l.size : Nat)) ∧ w' = W) (fun _ _ h => ⟨h.1, h.2.symm⟩))
  have CR := Lib.hid (fun (W : World) (hm : Moves ok ok w W) => (size_any (hr.move hm)).mono (R' := fun e w' => e = .returned (.int .i64 (r.size : Nat)) ∧ w' = W) (fun _ _ h => ⟨h.1, h.2.symm⟩))
  have CE := Lib.hid (fun (W : World) => (weven_any l.size r.size W (by omega) (by omega)).mono (R' := fun e w' => e = .returned (.bool true) ∧ w' = W) (fun _ _ h => ⟨by rw [h.1, decide_eq_true he], h.2.symm⟩))
  have HOO := Lib.hid hoo
  obtain ⟨A1, rfl⟩ := hl.form
  obtain ⟨A2, rfl⟩ := hr.form
  have MV : Hid (∀ n m, Moves ok ok w (((w.drewN n).setCell ⟨o, 0, none⟩ (.pointer (some ⟨b, 0, none⟩))).drewN m)) := Lib.hid fun n m => ((Moves.drewN w n).trans (by simp) (Moves.set (p := ⟨o, 0, none⟩) _ hoo)).trans (by simp) (Moves.drewN _ m)
  simp only [Bw.T.size, Int.natCast_add, Int.cast_ofNat_Int] at h4
  have q1 : (l.size : Int) ≤ 1048576 := by omega
  have q2 : (r.size : Int) ≤ 1048576 := by omega
  generalize l.size = sl at *
  generalize r.size = sr at *
  have hbo : ¬ (b = o) := hoo b ‹ok b›
  have hob : ¬ (o = b) := fun e => hbo e.symm
  clear hl hr k1 k2 kk1 he hoo hn
  go_enter Tryd.func83, Tryd.ntmps83
  go_wp2_with fail
  go_quiet ((go_at_call 65; exact Calls.quiet_of_same (CC.out _)))
  go_wp2_with fail
  go_quiet ((first
    | (go_at_call 81; first | with_reducible exact Calls.quiet_of_same (CL.out _ (MV.out _ _)) | with_reducible exact Calls.quiet_of_same (CR.out _ (MV.out _ _)))
    | (go_at_call 84; exact Calls.quiet_of_same (CE.out _))))
  go_wp2
  go_ret
  exact ⟨rfl, _, _, rfl⟩
end Go.Proofs.YtehkjnmnbplcoaaDoor
