
import Derived.Test.YtadaoceidkagfaaGreatDoorListA
import Derived.Test.YtadaoceidkagfaaGreatDoorBwG
import Derived.Test.YtadaoceidkagfaaGreatDoorBwAll
namespace Go.Proofs.YtadaoceidkagfaaGreatDoor
open Go.RowKit Go.Bw
def MeterAt (w : World) (mv : Value) (c : Nat × Nat) : Option Nat -> Prop
  | none => mv = .pointer none
  | some b => mv = .pointer (some ⟨b, 0, none⟩) /\ w.cell? ⟨b, 0, none⟩ = some (.int .i64 (c.1 : Nat)) /\ w.cell? ⟨b, 1, none⟩ = some (.int .i64 (c.2 : Nat)) /\ w.frozen? ⟨b, 0, none⟩ = false /\ w.frozen? ⟨b, 1, none⟩ = false
theorem MeterAt.form {w : World} {mv : Value} {c : Nat × Nat} {mb : Option Nat} (h : MeterAt w mv c mb) : ∃ A, mv = .pointer A := by
  cases mb with
  | none => exact ⟨_, h⟩
  | some b => exact ⟨_, h.1⟩
theorem MeterAt.lt {w : World} {mv : Value} {c : Nat × Nat} {b : Nat} (h : MeterAt w mv c (some b)) : b < w.heap.size := World.block_lt_of_cell? w _ h.2.1
theorem MeterAt.below {w w' : World} {mv : Value} {c : Nat × Nat} {mb : Option Nat} (h : MeterAt w mv c mb) (hB : Below w.heap.size w w') : MeterAt w' mv c mb := by
  cases mb with
  | none => exact h
  | some b =>
    have hl := h.lt
    exact ⟨h.1, (hB.cell (p := ⟨b, 0, none⟩) hl).trans h.2.1, (hB.cell (p := ⟨b, 1, none⟩) hl).trans h.2.2.1, (hB.frozen (p := ⟨b, 0, none⟩) hl).trans h.2.2.2.1, (hB.frozen (p := ⟨b, 1, none⟩) hl).trans h.2.2.2.2⟩
abbrev Turns (w w' : World) (mb : Option Nat) : Prop := w.grownBy w' mb
theorem Turns.of_below {w w' : World} (mb : Option Nat) (h : Below w.heap.size w w') : Turns w w' mb := ⟨h.os, h.tape, h.output, h.size, fun k hk _ => h.block k hk⟩
theorem Turns.refl (w : World) (mb : Option Nat) : Turns w w mb := Turns.of_below mb (Below.refl _ _)
theorem Turns.below {w w' : World} (h : Turns w w' none) : Below w.heap.size w w' := (Below.refl _ _).grown h (Nat.le_refl _) (fun k e => by cases e)
theorem Turns.moves {ok : Nat -> Prop} {w w' : World} {mb : Option Nat} (h : Turns w w' mb) (hr : ∀ k, ok k -> some k ≠ mb) : Moves ok ok w w' := Moves.grown h hr
theorem Turns.set (w : World) (b o : Nat) (u : Value) : Turns w (w.setCell ⟨b, o, none⟩ u) (some b) :=
  ⟨rfl, rfl, rfl, by simp, fun k _ hn => Below.heap_setCell w ⟨b, o, none⟩ u k (fun e => hn (by simp only at e; rw [e]))⟩
theorem Turns.drewN (w : World) (n : Nat) (mb : Option Nat) : Turns w (w.drewN n) mb := Turns.of_below mb (b_drewN (Below.refl _ _) n)
set_option maxRecDepth 100000 in
set_option maxHeartbeats 400000 in
theorem visit_any {w : World} {mv : Value} {c : Nat × Nat} {mb : Option Nat} (h : MeterAt w mv c mb) (hc : c.1 < 4611686018427387904) :
    Calls Tryz.prog 81 #[mv] w fun e w' => e = .returned (.tuple #[]) /\ MeterAt w' mv (c.1 + 1, c.2) mb /\ Turns w w' mb := by
  cases mb with
  | none =>
    cases h
    have HT := Lib.hid (Turns.refl w none)
    go_enter Tryz.func81, Tryz.ntmps81
    go_wp2
    go_end0
    exact ⟨rfl, rfl, HT.out⟩
  | some b =>
    obtain ⟨rfl, c0, c1, f0, f1⟩ := h
    have hs : IntKind.i64.wrap ((c.1 : Int) + 1) = ((c.1 + 1 : Nat) : Int) := by rw [IntKind.wrap_i64]; omega
    have hw : wrap64 ((c.1 : Int) + 1) = ((c.1 + 1 : Nat) : Int) := by unfold wrap64; omega
    have HT : Hid (Turns w (w.setCell ⟨b, 0, none⟩ (.int .i64 ((c.1 + 1 : Nat) : Int))) (some b)) := Lib.hid (Turns.set w b 0 _)
    have HM : Hid (MeterAt (w.setCell ⟨b, 0, none⟩ (.int .i64 ((c.1 + 1 : Nat) : Int))) (.pointer (some ⟨b, 0, none⟩)) (c.1 + 1, c.2) (some b)) := Lib.hid ⟨rfl, by go_simp, by go_simp, by go_simp, by go_simp⟩
    clear hc
    go_enter Tryz.func81, Tryz.ntmps81
    go_wp2
    go_end0
    exact ⟨rfl, HM.out, HT.out⟩
set_option maxRecDepth 100000 in
set_option maxHeartbeats 400000 in
theorem mcmp_any {ok ok' : Nat -> Prop} {u v : Value} {a b : Bw.Bytes} {w : World} {mv : Value} {c : Nat × Nat} {mb : Option Nat} (h : MeterAt w mv c mb) (hc : c.2 < 4611686018427387904) (hu : BytesAt ok w u a) (hv : BytesAt ok' w v b) (hok : ∀ k, ok k -> some k ≠ mb) (hok' : ∀ k, ok' k -> some k ≠ mb) :
    Calls Tryz.prog 82 #[mv, u, v] w fun e w' => e = .returned (.int .i64 (Lib.compareBytes a b)) /\ MeterAt w' mv (c.1, c.2 + 1) mb /\ Turns w w' mb := by
  obtain ⟨A1, x1, rfl⟩ := hu.form
  obtain ⟨A2, x2, rfl⟩ := hv.form
  cases mb with
  | none =>
    cases h
    have HT := Lib.hid (Turns.refl w none)
    have CC := Lib.hid (kcmp_any w hu hv)
    generalize Lib.compareBytes a b = r at *
    clear hu hv hok hok'
    go_enter Tryz.func82, Tryz.ntmps82
    go_wp2_with fail
    refine CC.out.mono ?_
    rintro e w1 ⟨rfl, rfl⟩
    go_wp2
    go_ret
    exact ⟨rfl, rfl, HT.out⟩
  | some bm =>
    obtain ⟨rfl, c0, c1, f0, f1⟩ := h
    have hs : IntKind.i64.wrap ((c.2 : Int) + 1) = ((c.2 + 1 : Nat) : Int) := by rw [IntKind.wrap_i64]; omega
    have hw : wrap64 ((c.2 : Int) + 1) = ((c.2 + 1 : Nat) : Int) := by unfold wrap64; omega
    have HT : Turns w (w.setCell ⟨bm, 1, none⟩ (.int .i64 ((c.2 + 1 : Nat) : Int))) (some bm) := Turns.set w bm 1 _
    have HM : Hid (MeterAt (w.setCell ⟨bm, 1, none⟩ (.int .i64 ((c.2 + 1 : Nat) : Int))) (.pointer (some ⟨bm, 0, none⟩)) (c.1, c.2 + 1) (some bm)) := Lib.hid ⟨rfl, by go_simp, by go_simp, by go_simp, by go_simp⟩
    have CC := Lib.hid (kcmp_any (w.setCell ⟨bm, 1, none⟩ (.int .i64 ((c.2 + 1 : Nat) : Int))) (hu.move goodByte (HT.moves hok)) (hv.move goodByte (HT.moves hok')))
    have HT := Lib.hid HT
    generalize Lib.compareBytes a b = r at *
    clear hu hv hok hok' hc
    go_enter Tryz.func82, Tryz.ntmps82
    go_wp2_with fail
    refine CC.out.mono ?_
    rintro e w1 ⟨rfl, rfl⟩
    go_wp2
    go_ret
    exact ⟨rfl, HM.out, HT.out⟩
set_option maxRecDepth 100000 in
set_option maxHeartbeats 400000 in
theorem wsingle_any (l i o : Nat) (w : World) (h1 : l + i + 1 <= 1048576) (h2 : o <= 1048576) : Calls Tryz.prog 156 #[.int .i64 (l : Nat), .int .i64 (i : Nat), .int .i64 (o : Nat)] w fun e w' => e = .returned (.bool (Bw.singleB l i o)) /\ w = w' := by
  have C1 := Lib.hid (fun w => wsize_in l w (by omega))
  have C2 := Lib.hid (fun w => wsize_in i w (by omega))
  have C3 := Lib.hid (fun w => wsize_in o w h2)
  have C4 := Lib.hid (fun w => weven_in l i w (by omega) (by omega))
  have C5 : Hid (∀ w, Calls Tryz.prog 88 #[.int .i64 ((l : Int) + (i : Int) + 1), .int .i64 (o : Nat)] w fun e w' => e = .returned (.bool (decide (l + i + 1 + 1 <= 3 * (o + 1) /\ o + 1 <= 3 * (l + i + 1 + 1)))) /\ w = w') := Lib.hid (fun w => by have := weven_in (l + i + 1) o w (by omega) h2; simpa only [Int.natCast_add, Int.cast_ofNat_Int] using this)
  have hs1 : IntKind.i64.wrap ((l : Int) + (i : Int)) = (l : Int) + (i : Int) := IntWalk.i64_in _ (by omega)
  have hw1 : wrap64 ((l : Int) + (i : Int)) = (l : Int) + (i : Int) := by unfold wrap64; omega
  have hs3 : IntKind.i64.wrap ((l : Int) + (i : Int) + 1) = (l : Int) + (i : Int) + 1 := IntWalk.i64_in _ (by omega)
  have hw3 : wrap64 ((l : Int) + (i : Int) + 1) = (l : Int) + (i : Int) + 1 := by unfold wrap64; omega
  have he : Bw.singleB l i o = (decide (l + 1 <= 3 * (i + 1) /\ i + 1 <= 3 * (l + 1)) && decide (l + i + 1 + 1 <= 3 * (o + 1) /\ o + 1 <= 3 * (l + i + 1 + 1))) := rfl
  rw [he]
  clear he
  generalize decide (l + 1 <= 3 * (i + 1) /\ i + 1 <= 3 * (l + 1)) = z1 at *
  generalize decide (l + i + 1 + 1 <= 3 * (o + 1) /\ o + 1 <= 3 * (l + i + 1 + 1)) = z2 at *
  clear h1 h2
  cases z1 with
  | false =>
    go_enter Tryz.func156, Tryz.ntmps156
    go_wp2_with (first
      | (go_at_call 89; first | ((with_reducible refine (C1.out _).mono ?_); rintro e w' ⟨rfl, rfl⟩) | ((with_reducible refine (C2.out _).mono ?_); rintro e w' ⟨rfl, rfl⟩) | ((with_reducible refine (C3.out _).mono ?_); rintro e w' ⟨rfl, rfl⟩))
      | (go_at_call 88; first | ((with_reducible refine (C4.out _).mono ?_); rintro e w' ⟨rfl, rfl⟩) | ((with_reducible refine (C5.out _).mono ?_); rintro e w' ⟨rfl, rfl⟩)))
    go_ret
    exact ⟨rfl, rfl⟩
  | true =>
    go_enter Tryz.func156, Tryz.ntmps156
    go_wp2_with (first
      | (go_at_call 89; first | ((with_reducible refine (C1.out _).mono ?_); rintro e w' ⟨rfl, rfl⟩) | ((with_reducible refine (C2.out _).mono ?_); rintro e w' ⟨rfl, rfl⟩) | ((with_reducible refine (C3.out _).mono ?_); rintro e w' ⟨rfl, rfl⟩))
      | (go_at_call 88; first | ((with_reducible refine (C4.out _).mono ?_); rintro e w' ⟨rfl, rfl⟩) | ((with_reducible refine (C5.out _).mono ?_); rintro e w' ⟨rfl, rfl⟩)))
    go_ret
    exact ⟨by simp, rfl⟩
theorem weven_b (l r : Nat) (w : World) (h1 : l <= 1048576) (h2 : r <= 1048576) : Calls Tryz.prog 57 #[.int .i64 (l : Nat), .int .i64 (r : Nat)] w fun e w' => e = .returned (.bool (Bw.evenB l r)) /\ w = w' := weven_any l r w h1 h2
end Go.Proofs.YtadaoceidkagfaaGreatDoor
