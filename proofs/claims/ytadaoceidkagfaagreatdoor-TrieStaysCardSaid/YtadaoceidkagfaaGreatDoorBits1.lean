
import Derived.Test.YtadaoceidkagfaaGreatDoorProg
import Derived.WalkKit
import Derived.WalkSpells
import Derived.WalkLawsBesides
import Derived.Lib.Hide
import Derived.Lib.BitFns
import Derived.Deep.QuietTactic
import Derived.BigQuiet
import Derived.Laws.BitsLemmas
import Derived.Laws.Bits64b
import Derived.Test.YtadaoceidkagfaaGreatDoorBwAll
namespace Go.Proofs.YtadaoceidkagfaaGreatDoor
open Go.RowKit
theorem pop8_ones (b : Nat) (h : b < 256) : Lib.pop8 (b : Int) = (Bw.ones 8 b : Int) := by
  have e : ∀ n : Fin 256, Lib.pop8 (n.val : Int) = (Bw.ones 8 n.val : Int) := by decide +kernel
  exact e ⟨b, h⟩
theorem and_u32 (a b : Nat) (ha : a < 4294967296) (hb : b < 4294967296) : bits .and .u32 (a : Int) (b : Int) = ((a &&& b : Nat) : Int) :=
  (bits_nat .u32 32 (by decide) (fun n h0 h1 => by rw [IntKind.wrap_u32]; omega) a b ha hb).1
theorem and255 (a : Nat) (ha : a < 4294967296) : bits .and .u32 (a : Int) 255 = ((a % 256 : Nat) : Int) := by
  have h := bits_mask .u32 32 (by decide) (fun n h0 h1 => by rw [IntKind.wrap_u32]; omega) 8 (by decide) (a : Int) (by omega) (by omega)
  have e : ((2 : Int) ^ 8 - 1) = 255 := by decide
  have e2 : ((2 : Int) ^ 8) = 256 := by decide
  rw [e, e2] at h
  rw [h]; omega
set_option maxRecDepth 100000 in
set_option maxHeartbeats 1000000 in
theorem ones32_any (m : Nat) (w : World) (hm : m < 4294967296) : Calls Tryz.prog 155 #[.int .u32 (m : Nat)] w fun e w' => e = .returned (.int .i64 (Bw.ones 32 m : Nat)) /\ ∃ n, w' = w.drewN n := by
  have a2 := and255 (m / 65536) (by omega)
  have a3 := and255 (m / 256) (by omega)
  have a4 := and255 m (by omega)
  have hsum := Bw.ones_bytes m
  have p1 := pop8_ones (m / 16777216) (by omega)
  have p2 := pop8_ones (m / 65536 % 256) (by omega)
  have p3 := pop8_ones (m / 256 % 256) (by omega)
  have p4 := pop8_ones (m % 256) (by omega)
  have l1 := Bw.ones_le 8 (m / 16777216)
  have l2 := Bw.ones_le 8 (m / 65536 % 256)
  have l3 := Bw.ones_le 8 (m / 256 % 256)
  have l4 := Bw.ones_le 8 (m % 256)
  have i1 := fun (w : World) => Lib.run_index_pop8tab w 9 .u32 ((m / 16777216 : Nat) : Int) Tryz.underlying9 (by omega) (by omega)
  have i2 := fun (w : World) => Lib.run_index_pop8tab w 9 .u32 ((m / 65536 % 256 : Nat) : Int) Tryz.underlying9 (by omega) (by omega)
  have i3 := fun (w : World) => Lib.run_index_pop8tab w 9 .u32 ((m / 256 % 256 : Nat) : Int) Tryz.underlying9 (by omega) (by omega)
  have i4 := fun (w : World) => Lib.run_index_pop8tab w 9 .u32 ((m % 256 : Nat) : Int) Tryz.underlying9 (by omega) (by omega)
  rw [p1] at i1; rw [p2] at i2; rw [p3] at i3; rw [p4] at i4
  rw [hsum]
  clear p1 p2 p3 p4 hsum
  generalize Bw.ones 8 (m / 16777216) = c1 at *
  generalize Bw.ones 8 (m / 65536 % 256) = c2 at *
  generalize Bw.ones 8 (m / 256 % 256) = c3 at *
  generalize Bw.ones 8 (m % 256) = c4 at *
  have b1 : (m : Int) / 16777216 = ((m / 16777216 : Nat) : Int) := by omega
  have b2 : (m : Int) / 65536 = ((m / 65536 : Nat) : Int) := by omega
  have b3 : (m : Int) / 256 = ((m / 256 : Nat) : Int) := by omega
  generalize m / 16777216 = d1 at *
  generalize m / 65536 % 256 = e2 at *
  generalize m / 65536 = d2 at *
  generalize m / 256 % 256 = e3 at *
  generalize m / 256 = d3 at *
  generalize m % 256 = e4 at *
  go_enter Tryz.func155, Tryz.ntmps155
  generalize hX : ByteArray.mk _ = X
  obtain rfl : X = Lib.pop8tab := by rw [<- hX]; kernel_rfl
  clear hX
  go_wp2_with fail
  go_quiet (fail)
  go_wp2
  go_ret
  exact ⟨by simp only [Int.natCast_add]; rfl, _, rfl⟩
set_option maxRecDepth 100000 in
set_option maxHeartbeats 400000 in
theorem count_any (m : Nat) (w : World) (hm : m < 4294967296) : Calls Tryz.prog 145 #[.int .u32 (m : Nat)] w fun e w' => e = .returned (.int .i64 ((Bw.bitsOf m).length : Nat)) /\ ∃ n, w' = w.drewN n := by
  have C := Lib.hid (fun w => ones32_any m w hm)
  rw [Bw.length_bitsOf]
  clear hm
  go_enter Tryz.func145, Tryz.ntmps145
  go_wp2_with (go_at_call 155; refine (C.out _).mono ?_; rintro e w' ⟨rfl, n, rfl⟩)
  go_ret
  exact ⟨rfl, _, rfl⟩
set_option maxRecDepth 100000 in
set_option maxHeartbeats 400000 in
theorem bit_in (i : Nat) (w : World) (h : i < 32) : Calls Tryz.prog 90 #[.int .i64 (i : Nat)] w fun e w' => e = .returned (.int .u32 ((2 ^ i : Nat) : Int)) /\ w = w' := by
  have hp : (2 : Nat) ^ i < 4294967296 := by have := Nat.pow_lt_pow_right (a := 2) (by decide) h; omega
  have e0 : ((2 ^ i : Nat) : Int) = (2 : Int) ^ i := by simp
  have e : ((2 : Int) ^ i % 4294967296) = ((2 ^ i : Nat) : Int) := by rw [<- e0]; generalize 2 ^ i = y at hp ⊢; omega
  rw [<- e]
  clear e e0 hp
  have h1 : (i : Int) < 32 := by omega
  have h2 : (0 : Int) <= (i : Int) := by omega
  go_enter Tryz.func90, Tryz.ntmps90
  go_wp2
  go_ret
  exact ⟨rfl, rfl⟩
set_option maxRecDepth 100000 in
set_option maxHeartbeats 400000 in
theorem bit_out (i : Int) (w : World) (h : i < 0 \/ 32 <= i) : Calls Tryz.prog 90 #[.int .i64 i] w fun e w' => e = .returned (.int .u32 0) /\ w = w' := by
  go_enter Tryz.func90, Tryz.ntmps90
  rcases h with h | h
  · go_wp2
    go_ret
    exact ⟨rfl, rfl⟩
  · have h2 : (0 : Int) <= i := by omega
    go_wp2
    go_ret
    exact ⟨rfl, rfl⟩
theorem has_bit (m i : Nat) (hm : m < 4294967296) (h : i < 32) : (bits BinOp.and IntKind.u32 (m : Int) ((2 ^ i : Nat) : Int) != 0) = m.testBit i := by
  have hp : (2 : Nat) ^ i < 4294967296 := by have := Nat.pow_lt_pow_right (a := 2) (by decide) h; omega
  rw [and_u32 m _ hm hp]
  cases ht : m.testBit i with
  | false =>
    have : m &&& 2 ^ i = 0 := by
      apply Nat.eq_of_testBit_eq
      intro j
      rw [Nat.testBit_and, Nat.testBit_two_pow, Nat.zero_testBit]
      by_cases hj : i = j
      · subst hj; simp [ht]
      · simp [hj]
    rw [this]; rfl
  | true =>
    have : m &&& 2 ^ i ≠ 0 := by
      intro e
      have h2 : (m &&& 2 ^ i).testBit i = true := by rw [Nat.testBit_and, Nat.testBit_two_pow, ht]; simp
      rw [e, Nat.zero_testBit] at h2
      cases h2
    simp only [bne_iff_ne, ne_eq]
    omega
set_option maxRecDepth 100000 in
set_option maxHeartbeats 400000 in
theorem has_in (m i : Nat) (w : World) (hm : m < 4294967296) (h : i < 32) : Calls Tryz.prog 61 #[.int .u32 (m : Nat), .int .i64 (i : Nat)] w fun e w' => e = .returned (.bool (m.testBit i)) /\ w = w' := by
  have hb := has_bit m i hm h
  have C := Lib.hid (fun w => bit_in i w h)
  rw [<- hb]
  clear hb h hm
  generalize ((2 ^ i : Nat) : Int) = y at *
  go_enter Tryz.func61, Tryz.ntmps61
  go_wp2_with (go_at_call 90; refine (C.out _).mono ?_; rintro e w' ⟨rfl, rfl⟩)
  go_ret
  exact ⟨rfl, rfl⟩
set_option maxRecDepth 100000 in
set_option maxHeartbeats 400000 in
theorem has_out (m : Nat) (i : Int) (w : World) (hm : m < 4294967296) (h : i < 0 \/ 32 <= i) : Calls Tryz.prog 61 #[.int .u32 (m : Nat), .int .i64 i] w fun e w' => e = .returned (.bool false) /\ w = w' := by
  have hb : (bits BinOp.and IntKind.u32 (m : Int) 0 != 0) = false := by
    rw [show (0 : Int) = ((0 : Nat) : Int) from rfl, and_u32 m 0 hm (by decide)]; simp
  have C := Lib.hid (fun w => bit_out i w h)
  rw [<- hb]
  clear hb h hm
  go_enter Tryz.func61, Tryz.ntmps61
  go_wp2_with (go_at_call 90; refine (C.out _).mono ?_; rintro e w' ⟨rfl, rfl⟩)
  go_ret
  exact ⟨rfl, rfl⟩
theorem and_127 (a : Nat) (ha : a < 2 ^ 63) : bits .and .i64 (a : Int) 127 = ((a % 128 : Nat) : Int) := by
  have h := bits_mask .i64 63 (by decide) (fun n h0 h1 => by rw [IntKind.wrap_i64]; omega) 7 (by decide) (a : Int) (by omega) (by exact_mod_cast ha)
  have e : ((2 : Int) ^ 7 - 1) = 127 := by decide
  have e2 : ((2 : Int) ^ 7) = 128 := by decide
  rw [e, e2] at h
  rw [h]; omega
theorem sums (c1 c2 c3 c4 : Nat) (l1 : c1 <= 8) (l2 : c2 <= 8) (l3 : c3 <= 8) (l4 : c4 <= 8) (z z1 z2 : Nat) (hz : ((c1 * 256 + c2) * 256 + c3) * 256 + c4 = z) (hz1 : z1 = z + z / 256) (hz2 : z2 = z1 + z1 / 65536) :
    z2 < 4294967296 /\ (z2 + z2 / 4294967296) % 128 = c1 + c2 + c3 + c4 := by
  have e1 : z / 256 = c1 * 65536 + c2 * 256 + c3 := by omega
  have e2 : z1 / 65536 = c1 * 256 + c1 + c2 := by omega
  have h : z2 < 4294967296 := by omega
  refine ⟨h, ?_⟩
  rw [Nat.div_eq_of_lt h]
  omega
set_option maxRecDepth 100000 in
set_option maxHeartbeats 1000000 in
theorem ones64_any (m : Nat) (w : World) (hm : m < 4294967296) : Calls Tryz.prog 91 #[.int .u64 (m : Nat)] w fun e w' => e = .returned (.int .i64 (Bw.ones 32 m : Nat)) /\ w = w' := by
  have hw := Bw.words m hm
  have hsum := Bw.ones_bytes m
  have l1 := Bw.ones_le 8 (m / 16777216)
  have l2 := Bw.ones_le 8 (m / 65536 % 256)
  have l3 := Bw.ones_le 8 (m / 256 % 256)
  have l4 := Bw.ones_le 8 (m % 256)
  rw [hsum]
  generalize Bw.ones 8 (m / 16777216) = c1 at *
  generalize Bw.ones 8 (m / 65536 % 256) = c2 at *
  generalize Bw.ones 8 (m / 256 % 256) = c3 at *
  generalize Bw.ones 8 (m % 256) = c4 at *
  simp only [Bw.w1, Bw.w2, Bw.w3] at hw
  have a1 := bits_and_u64_nat (m / 2) 6148914691236517205 (by omega) (by decide)
  have a2 := bits_and_u64_nat m 6148914691236517205 (by omega) (by decide)
  have n1 : m / 2 &&& 6148914691236517205 <= m / 2 := Nat.and_le_left
  have n2 : m &&& 6148914691236517205 <= m := Nat.and_le_left
  generalize m / 2 &&& 6148914691236517205 = y1 at *
  generalize m &&& 6148914691236517205 = y2 at *
  have a3 := bits_and_u64_nat ((y1 + y2) / 4) 3689348814741910323 (by omega) (by decide)
  have a4 := bits_and_u64_nat (y1 + y2) 3689348814741910323 (by omega) (by decide)
  have n3 : (y1 + y2) / 4 &&& 3689348814741910323 <= (y1 + y2) / 4 := Nat.and_le_left
  have n4 : (y1 + y2) &&& 3689348814741910323 <= (y1 + y2) := Nat.and_le_left
  generalize (y1 + y2) / 4 &&& 3689348814741910323 = y3 at *
  generalize (y1 + y2) &&& 3689348814741910323 = y4 at *
  have a5 := bits_and_u64_nat ((y3 + y4) / 16 + (y3 + y4)) 1085102592571150095 (by omega) (by decide)
  rw [hw] at a5
  clear hw hsum
  have hs := sums c1 c2 c3 c4 l1 l2 l3 l4 _ _ _ rfl rfl rfl
  generalize ((c1 * 256 + c2) * 256 + c3) * 256 + c4 = z at *
  have w1 : IntKind.u64.wrap ((y1 : Int) + (y2 : Int)) = ((y1 + y2 : Nat) : Int) := by rw [IntKind.wrap_u64]; omega
  have w2 : IntKind.u64.wrap ((y3 : Int) + (y4 : Int)) = ((y3 + y4 : Nat) : Int) := by rw [IntKind.wrap_u64]; omega
  have a6 := and_127 (z + z / 256 + (z + z / 256) / 65536 + (z + z / 256 + (z + z / 256) / 65536) / 4294967296) (by omega)
  rw [hs.2] at a6
  generalize c1 + c2 + c3 + c4 = r at *
  have b1 : bits BinOp.and IntKind.u64 ((m : Int) / 2) 6148914691236517205 = (y1 : Int) := by rw [Int.natCast_ediv] at a1; exact a1
  have b2 : bits BinOp.and IntKind.u64 (m : Int) 6148914691236517205 = (y2 : Int) := a2
  have b3 : bits BinOp.and IntKind.u64 (((y1 + y2 : Nat) : Int) / 4) 3689348814741910323 = (y3 : Int) := by rw [Int.natCast_ediv] at a3; exact a3
  have b4 : bits BinOp.and IntKind.u64 ((y1 + y2 : Nat) : Int) 3689348814741910323 = (y4 : Int) := a4
  have w3 : IntKind.u64.wrap (((y3 + y4 : Nat) : Int) / 16 + ((y3 + y4 : Nat) : Int)) = (((y3 + y4) / 16 + (y3 + y4) : Nat) : Int) := by rw [IntKind.wrap_u64]; omega
  have b5 : bits BinOp.and IntKind.u64 (((y3 + y4) / 16 + (y3 + y4) : Nat) : Int) 1085102592571150095 = (z : Int) := a5
  have w4 : IntKind.u64.wrap ((z : Int) + (z : Int) / 256) = ((z + z / 256 : Nat) : Int) := by rw [IntKind.wrap_u64]; omega
  have w5 : IntKind.u64.wrap (((z + z / 256 : Nat) : Int) + ((z + z / 256 : Nat) : Int) / 65536) = ((z + z / 256 + (z + z / 256) / 65536 : Nat) : Int) := by rw [IntKind.wrap_u64]; omega
  have hs1 := hs.1
  clear a1 a2 a3 a4 a5 hs n1 n2 n3 n4 l1 l2 l3 l4
  generalize z + z / 256 + (z + z / 256) / 65536 = z2 at *
  have w6 : IntKind.u64.wrap ((z2 : Int) + (z2 : Int) / 4294967296) = ((z2 + z2 / 4294967296 : Nat) : Int) := by rw [IntKind.wrap_u64]; omega
  have w7 : IntKind.i64.wrap ((z2 + z2 / 4294967296 : Nat) : Int) = ((z2 + z2 / 4294967296 : Nat) : Int) := by rw [IntKind.wrap_i64]; omega
  generalize z2 + z2 / 4294967296 = z3 at *
  generalize z + z / 256 = z1 at *
  generalize (y3 + y4) / 16 + (y3 + y4) = s3 at *
  generalize y3 + y4 = s2 at *
  generalize y1 + y2 = s1 at *
  clear hs1 hm
  go_enter Tryz.func91, Tryz.ntmps91
  go_wp2
  go_ret
  exact ⟨rfl, rfl⟩
set_option maxRecDepth 100000 in
set_option maxHeartbeats 400000 in
theorem place_in (m i : Nat) (w : World) (hm : m < 4294967296) (h : i <= 32) : Calls Tryz.prog 62 #[.int .u32 (m : Nat), .int .i64 (i : Nat)] w fun e w' => e = .returned (.int .i64 (Bw.ones i m : Nat)) /\ w = w' := by
  have hp : (2 : Nat) ^ i <= 4294967296 := by have := Nat.pow_le_pow_right (n := 2) (by decide) h; omega
  have hpos := Nat.two_pow_pos i
  have e0 : ((2 ^ i : Nat) : Int) = (2 : Int) ^ i := by simp
  have hlow := Bw.ones_low m h
  have hlt : m % 2 ^ i < 4294967296 := Nat.lt_of_lt_of_le (Nat.mod_lt _ hpos) hp
  have C := Lib.hid (fun w => ones64_any (m % 2 ^ i) w hlt)
  rw [hlow] at C
  have e1 : IntKind.u64.wrap ((2 : Int) ^ i) = ((2 ^ i : Nat) : Int) := by rw [IntKind.wrap_u64, <- e0]; generalize 2 ^ i = y at hp ⊢; omega
  have e2 : IntKind.u64.wrap (((2 ^ i : Nat) : Int) - 1) = (((2 ^ i - 1 : Nat)) : Int) := by rw [IntKind.wrap_u64]; generalize 2 ^ i = y at hp hpos ⊢; omega
  have e3 : bits BinOp.and IntKind.u64 (m : Int) ((2 ^ i - 1 : Nat) : Int) = ((m % 2 ^ i : Nat) : Int) := by
    rw [bits_and_u64_nat m (2 ^ i - 1) (by omega) (by omega), Nat.and_two_pow_sub_one_eq_mod]
  have E1 := Lib.hid e1; have E2 := Lib.hid e2; have E3 := Lib.hid e3
  have h1 : (i : Int) <= 32 := by omega
  have h2 : (0 : Int) <= (i : Int) := by omega
  have h3 : min (i : Int) 32 = (i : Int) := by omega
  clear e0 e1 e2 e3 hlow hlt h hpos hp
  go_enter Tryz.func62, Tryz.ntmps62
  go_wp2_with fail
  rw [E1.out, E2.out, E3.out]
  go_wp2_with (go_at_call 91; refine (C.out _).mono ?_; rintro e w' ⟨rfl, rfl⟩)
  go_ret
  exact ⟨rfl, rfl⟩
end Go.Proofs.YtadaoceidkagfaaGreatDoor
