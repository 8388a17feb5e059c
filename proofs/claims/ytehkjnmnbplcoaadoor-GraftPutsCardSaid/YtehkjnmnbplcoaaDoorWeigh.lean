
import Derived.Test.YtehkjnmnbplcoaaDoorTree2
namespace Go.Proofs.YtehkjnmnbplcoaaDoor
open Go.RowKit Go.Bw

set_option maxRecDepth 100000 in
set_option maxHeartbeats 400000 in
theorem wsize_in (n : Nat) (w : World) (h : n ≤ 1048576) : Calls Tryd.prog 111 #[.int .i64 (n : Nat)] w fun e w' => e = .returned (.int .i64 (n : Nat)) ∧ w = w' := by
  have h1 : (n : Int) ≤ 1048576 := by omega
  have h2 : (0 : Int) ≤ (n : Int) := by omega
  have h3 : min (n : Int) 1048576 = (n : Int) := by omega
  clear h
  go_enter Tryd.func111, Tryd.ntmps111
  go_wp2
  go_ret
  exact ⟨rfl, rfl⟩

set_option maxRecDepth 100000 in
set_option maxHeartbeats 400000 in
theorem weven_in (l r : Nat) (w : World) (h1 : l ≤ 1048576) (h2 : r ≤ 1048576) : Calls Tryd.prog 110 #[.int .i64 (l : Nat), .int .i64 (r : Nat)] w fun e w' => e = .returned (.bool (decide (l + 1 ≤ 3 * (r + 1) ∧ r + 1 ≤ 3 * (l + 1)))) ∧ w = w' := by
  have b1 : (l : Int) ≤ 1048576 := by omega
  have b2 : (0 : Int) ≤ (l : Int) := by omega
  have b3 : (r : Int) ≤ 1048576 := by omega
  have b4 : (0 : Int) ≤ (r : Int) := by omega
  by_cases hl : l + 1 ≤ 3 * (r + 1)
  · have g1 : (l : Int) + 1 ≤ 3 * ((r : Int) + 1) := by omega
    by_cases hr : r + 1 ≤ 3 * (l + 1)
    · have g2 : (r : Int) + 1 ≤ 3 * ((l : Int) + 1) := by omega
      rw [show decide (l + 1 ≤ 3 * (r + 1) ∧ r + 1 ≤ 3 * (l + 1)) = true by simp [hl, hr]]
      clear hl hr h1 h2
      go_enter Tryd.func110, Tryd.ntmps110
      go_wp2
      go_ret
      exact ⟨rfl, rfl⟩
    · have g2 : ¬ ((r : Int) + 1 ≤ 3 * ((l : Int) + 1)) := by omega
      rw [show decide (l + 1 ≤ 3 * (r + 1) ∧ r + 1 ≤ 3 * (l + 1)) = false by simp [hr]]
      clear hl hr h1 h2
      go_enter Tryd.func110, Tryd.ntmps110
      go_wp2
      go_ret
      exact ⟨rfl, rfl⟩
  · have g1 : ¬ ((l : Int) + 1 ≤ 3 * ((r : Int) + 1)) := by omega
    rw [show decide (l + 1 ≤ 3 * (r + 1) ∧ r + 1 ≤ 3 * (l + 1)) = false by simp [hl]]
    clear hl h1 h2
    go_enter Tryd.func110, Tryd.ntmps110
    go_wp2
    go_ret
    exact ⟨rfl, rfl⟩

set_option maxRecDepth 100000 in
set_option maxHeartbeats 400000 in
theorem weven_any (l r : Nat) (w : World) (h1 : l ≤ 1048576) (h2 : r ≤ 1048576) : Calls Tryd.prog 84 #[.int .i64 (l : Nat), .int .i64 (r : Nat)] w fun e w' => e = .returned (.bool (decide (l + 1 ≤ 3 * (r + 1) ∧ r + 1 ≤ 3 * (l + 1)))) ∧ w = w' := by
  have C1 := Lib.hid (fun w => wsize_in l w h1)
  have C2 := Lib.hid (fun w => wsize_in r w h2)
  have C3 := Lib.hid (fun w => weven_in l r w h1 h2)
  generalize decide (l + 1 ≤ 3 * (r + 1) ∧ r + 1 ≤ 3 * (l + 1)) = z at *
  clear h1 h2
  go_enter Tryd.func84, Tryd.ntmps84
  go_wp2_with (first
    | (go_at_call 111; first | ((with_reducible refine (C1.out _).mono ?_); rintro e w' ⟨rfl, rfl⟩) | ((with_reducible refine (C2.out _).mono ?_); rintro e w' ⟨rfl, rfl⟩))
    | (go_at_call 110; (with_reducible refine (C3.out _).mono ?_); rintro e w' ⟨rfl, rfl⟩))
  go_ret
  exact ⟨rfl, rfl⟩
end Go.Proofs.YtehkjnmnbplcoaaDoor
