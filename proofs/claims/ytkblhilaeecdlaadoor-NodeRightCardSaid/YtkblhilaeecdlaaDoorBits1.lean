
import Derived.Test.YtkblhilaeecdlaaDoorProg
import Derived.WalkKit
import Derived.WalkSpells
import Derived.WalkLawsBesides
import Derived.Lib.Hide
import Derived.Lib.BitFns
import Derived.Deep.QuietTactic
import Derived.BigQuiet
import Derived.Laws.BitsLemmas
import Derived.Laws.Bits64b
import Derived.Test.YtkblhilaeecdlaaDoorBwAll
namespace Go.Proofs.YtkblhilaeecdlaaDoor
open Go.RowKit

theorem pop8_ones (b : Nat) (h : b < 256) : Lib.pop8 (b : Int) = (Bw.ones 8 b : Int) := by
  have e : ∀ n : Fin 256, Lib.pop8 (n.val : Int) = (Bw.ones 8 n.val : Int) := by decide +kernel
  exact e ⟨b, h⟩

theorem and_u32 (a b : Nat) (ha : a < 4294967296) (hb : b < 4294967296) : bits .and .u32 (a : Int) (b : Int) = ((a &&& b : Nat) : Int) :=
  (bits_nat .u32 32 (by decide) (fun n h0 h1 => by rw [IntKind.wrap_u32]; omega) a b ha hb).1

theorem and255 (a : Nat) (ha : a < 4294967296) : bits .and .u32 (a : Int) 255 = ((a % 256 : Nat) : Int) := by
  have h := bits_mask .u32 32 (by decide) (fun n h0 h1 => by rw [IntKind.wrap_u32]; omega) 8 (by decide) (a : Int) (by omega) (by omega)
  have e : ((2 : Int) ^ 8 - 1) = 255 := by decide
  have e2 : ((2 : Int) ^ 8) = 256 := by decide
  rw [e, e2] at h
  rw [h]; omega

set_option maxRecDepth 100000 in
set_option maxHeartbeats 1000000 in
theorem ones32_any (m : Nat) (w : World) (hm : m < 4294967296) : Calls Tryd.prog 44 #[.int .u32 (m : Nat)] w fun e w' => e = .returned (.int .i64 (Bw.ones 32 m : Nat)) ∧ ∃ n, w' = w.drewN n := by
  have a2 := and255 (m / 65536) (by omega)
  have a3 := and255 (m / 256) (by omega)
  have a4 := and255 m (by omega)
  have hsum := Bw.ones_bytes m
  have p1 := pop8_ones (m / 16777216) (by omega)
  have p2 := pop8_ones (m / 65536 % 256) (by omega)
  have p3 := pop8_ones (m / 256 % 256) (by omega)
  have p4 := pop8_ones (m % 256) (by omega)
  have l1 := Bw.ones_le 8 (m / 16777216)
  have l2 := Bw.ones_le 8 (m / 65536 % 256)
  have l3 := Bw.ones_le 8 (m / 256 % 256)
  have l4 := Bw.ones_le 8 (m % 256)
  have i1 := fun (w : World) => Lib.run_index_pop8tab w 9 .u32 ((m / 16777216 : Nat) : Int) Tryd.underlying9 (by omega) (by omega)
  have i2 := fun (w : World) => Lib.run_index_pop8tab w 9 .u32 ((m / 65536 % 256 : Nat) : Int) Tryd.underlying9 (by omega) (by omega)
  have i3 := fun (w : World) => Lib.run_index_pop8tab w 9 .u32 ((m / 256 % 256 : Nat) : Int) Tryd.underlying9 (by omega) (by omega)
  have i4 := fun (w : World) => Lib.run_index_pop8tab w 9 .u32 ((m % 256 : Nat) : Int) Tryd.underlying9 (by omega) (by omega)
  rw [p1] at i1; rw [p2] at i2; rw [p3] at i3; rw [p4] at i4
  rw [hsum]
  clear p1 p2 p3 p4 hsum
  generalize Bw.ones 8 (m / 16777216) = c1 at *
  generalize Bw.ones 8 (m / 65536 % 256) = c2 at *
  generalize Bw.ones 8 (m / 256 % 256) = c3 at *
  generalize Bw.ones 8 (m % 256) = c4 at *
  have b1 : (m : Int) / 16777216 = ((m / 16777216 : Nat) : Int) := by omega
  have b2 : (m : Int) / 65536 = ((m / 65536 : Nat) : Int) := by omega
  have b3 : (m : Int) / 256 = ((m / 256 : Nat) : Int) := by omega
  generalize m / 16777216 = d1 at *
  generalize m / 65536 % 256 = e2 at *
  generalize m / 65536 = d2 at *
  generalize m / 256 % 256 = e3 at *
  generalize m / 256 = d3 at *
  generalize m % 256 = e4 at *
  go_enter Tryd.func44, Tryd.ntmps44
  generalize hX : ByteArray.mk _ = X
  obtain rfl : X = Lib.pop8tab := by rw [← hX]; kernel_rfl
  clear hX
  go_wp2_with fail
  go_quiet (fail)
  go_wp2
  go_ret
  exact ⟨by simp only [Int.natCast_add]; rfl, _, rfl⟩

set_option maxRecDepth 100000 in
set_option maxHeartbeats 400000 in
theorem count_any (m : Nat) (w : World) (hm : m < 4294967296) : Calls Tryd.prog 35 #[.int .u32 (m : Nat)] w fun e w' => e = .returned (.int .i64 ((Bw.bitsOf m).length : Nat)) ∧ ∃ n, w' = w.drewN n := by
  have C := Lib.hid (fun w => ones32_any m w hm)
  rw [Bw.length_bitsOf]
  clear hm
  go_enter Tryd.func35, Tryd.ntmps35
  go_wp2_with (go_at_call 44; refine (C.out _).mono ?_; rintro e w' ⟨rfl, n, rfl⟩)
  go_ret
  exact ⟨rfl, _, rfl⟩

theorem has_bit (m i : Nat) (hm : m < 4294967296) (h : i < 32) : (bits BinOp.and IntKind.u32 (m : Int) ((2 ^ i : Nat) : Int) != 0) = m.testBit i := by
  have hp : (2 : Nat) ^ i < 4294967296 := by have := Nat.pow_lt_pow_right (a := 2) (by decide) h; omega
  rw [and_u32 m _ hm hp]
  cases ht : m.testBit i with
  | false =>
    have : m &&& 2 ^ i = 0 := by
      apply Nat.eq_of_testBit_eq
      intro j
      rw [Nat.testBit_and, Nat.testBit_two_pow, Nat.zero_testBit]
      by_cases hj : i = j
      · subst hj; simp [ht]
      · simp [hj]
    rw [this]; rfl
  | true =>
    have : m &&& 2 ^ i ≠ 0 := by
      intro e
      have h2 : (m &&& 2 ^ i).testBit i = true := by rw [Nat.testBit_and, Nat.testBit_two_pow, ht]; simp
      rw [e, Nat.zero_testBit] at h2
      cases h2
    simp only [bne_iff_ne, ne_eq]
    omega

theorem and_127 (a : Nat) (ha : a < 2 ^ 63) : bits .and .i64 (a : Int) 127 = ((a % 128 : Nat) : Int) := by
  have h := bits_mask .i64 63 (by decide) (fun n h0 h1 => by rw [IntKind.wrap_i64]; omega) 7 (by decide) (a : Int) (by omega) (by exact_mod_cast ha)
  have e : ((2 : Int) ^ 7 - 1) = 127 := by decide
  have e2 : ((2 : Int) ^ 7) = 128 := by decide
  rw [e, e2] at h
  rw [h]; omega

theorem sums (c1 c2 c3 c4 : Nat) (l1 : c1 ≤ 8) (l2 : c2 ≤ 8) (l3 : c3 ≤ 8) (l4 : c4 ≤ 8) (z z1 z2 : Nat) (hz : ((c1 * 256 + c2) * 256 + c3) * 256 + c4 = z) (hz1 : z1 = z + z / 256) (hz2 : z2 = z1 + z1 / 65536) :
    z2 < 4294967296 ∧ (z2 + z2 / 4294967296) % 128 = c1 + c2 + c3 + c4 := by
  have e1 : z / 256 = c1 * 65536 + c2 * 256 + c3 := by omega
  have e2 : z1 / 65536 = c1 * 256 + c1 + c2 := by omega
  have h : z2 < 4294967296 := by omega
  refine ⟨h, ?_⟩
  rw [Nat.div_eq_of_lt h]
  omega

end Go.Proofs.YtkblhilaeecdlaaDoor
