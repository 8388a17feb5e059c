/- Sets of the numbers from 0 to 31, as plain data: how many bits, by tables, by sums in words. -/
import Derived.Test.YtkblhilaeecdlaaBwNode
namespace Bw

/-- how many of the n lowest bits are set -/
def ones : Nat → Nat → Nat
  | 0, _ => 0
  | n + 1, m => m % 2 + ones n (m / 2)

theorem ones_le : ∀ n m, ones n m ≤ n
  | 0, _ => Nat.le_refl _
  | n + 1, m => by have := ones_le n (m / 2); simp only [ones]; omega

theorem ones_zero : ∀ n, ones n 0 = 0
  | 0 => rfl
  | n + 1 => by simp [ones, ones_zero n]

theorem ones_add : ∀ a b m, ones (a + b) m = ones a m + ones b (m / 2 ^ a)
  | 0, b, m => by simp [ones]
  | a + 1, b, m => by
    rw [show a + 1 + b = (a + b) + 1 by omega]
    simp only [ones]
    rw [ones_add a b (m / 2), Nat.div_div_eq_div_mul, ← Nat.pow_succ']
    simp only [Nat.succ_eq_add_one]
    omega

theorem ones_mod : ∀ a m, ones a (m % 2 ^ a) = ones a m
  | 0, m => rfl
  | a + 1, m => by
    have h1 : m % 2 ^ (a + 1) % 2 = m % 2 := Nat.mod_mod_of_dvd _ ⟨2 ^ a, by rw [Nat.pow_succ']⟩
    have h2 : m % 2 ^ (a + 1) / 2 = m / 2 % 2 ^ a := by rw [Nat.pow_succ', Nat.mod_mul_right_div_self]
    simp only [ones, h1, h2, ones_mod a (m / 2)]

theorem ones_eq (n m : Nat) : ones n m = ((List.range n).filter (m.testBit ·)).length := by
  induction n generalizing m with
  | zero => rfl
  | succ n ih =>
    simp only [ones, ih]
    have e : (fun x => m.testBit x) ∘ Nat.succ = fun x => (m / 2).testBit x := by funext x; simp [Nat.testBit_succ]
    rw [List.range_succ_eq_map, List.filter_cons, List.filter_map, e]
    rw [Nat.testBit_zero]
    split
    · rename_i h
      have h := of_decide_eq_true h
      rw [List.length_cons, List.length_map, h]; omega
    · rename_i h
      have h : m % 2 = 0 := by
        have : ¬ m % 2 = 1 := fun e => h (decide_eq_true e)
        omega
      rw [List.length_map, h]; omega

/-- the lowest i bits of a set, of all that a word has -/
theorem ones_low {i k : Nat} (m : Nat) (h : i ≤ k) : ones k (m % 2 ^ i) = ones i m := by
  obtain ⟨d, rfl⟩ := Nat.exists_eq_add_of_le h
  rw [ones_add, ones_mod, Nat.div_eq_of_lt (Nat.mod_lt _ (Nat.two_pow_pos i)), ones_zero, Nat.add_zero]

theorem length_bitsOf (m : Nat) : (bitsOf m).length = ones 32 m := (ones_eq 32 m).symm

theorem bitsOf_split (m c : Nat) (h : c ≤ 32) : bitsOf m = (List.range c).filter (m.testBit ·) ++ ((List.range (32 - c)).map (c + ·)).filter (m.testBit ·) := by
  have e : List.range 32 = List.range c ++ (List.range (32 - c)).map (c + ·) := by rw [← List.range_add]; congr 1; omega
  rw [bitsOf, e, List.filter_append]

theorem bitsOf_at (m c : Nat) (h : c < 32) (ht : m.testBit c = true) : (bitsOf m)[ones c m]? = some c := by
  rw [bitsOf_split m c (by omega), ones_eq, List.getElem?_append_right (Nat.le_refl _), Nat.sub_self]
  obtain ⟨d, hd⟩ : ∃ d, 32 - c = d + 1 := ⟨31 - c, by omega⟩
  rw [hd, List.range_succ_eq_map, List.map_cons, List.filter_cons]
  simp [ht]

theorem ones_bytes (m : Nat) : ones 32 m = ones 8 (m / 16777216) + ones 8 (m / 65536 % 256) + ones 8 (m / 256 % 256) + ones 8 (m % 256) := by
  rw [show (32 : Nat) = 8 + (8 + (8 + 8)) from rfl, ones_add, ones_add, ones_add, Nat.div_div_eq_div_mul, Nat.div_div_eq_div_mul]
  have h (x : Nat) : ones 8 (x % 256) = ones 8 x := ones_mod 8 x
  rw [h, h, h]
  simp only [show (2 : Nat) ^ 8 = 256 from rfl, show (256 * 256 : Nat) = 65536 from rfl, show (65536 * 256 : Nat) = 16777216 from rfl]
  omega

/-! ### the sums in a word -/
theorem and_byte (a b c d : Nat) (hb : b < 256) (hd : d < 256) : (a * 256 + b) &&& (c * 256 + d) = (a &&& c) * 256 + (b &&& d) := by
  have h1 : b &&& d < 256 := Nat.and_lt_two_pow b (n := 8) hd
  apply Nat.eq_of_testBit_eq
  intro i
  have e (x y : Nat) (hy : y < 256) : (x * 256 + y).testBit i = if i < 8 then y.testBit i else x.testBit (i - 8) := by
    rw [Nat.mul_comm]; exact Nat.testBit_two_pow_mul_add (i := 8) x hy i
  rw [Nat.testBit_and, e a b hb, e c d hd, e _ _ h1]
  split
  · rw [Nat.testBit_and]
  · rw [Nat.testBit_and]

theorem byte1 : ∀ b : Fin 256, ∀ e : Fin 2, ((e.val * 128 + b.val / 2) &&& 85) = (b.val / 2 &&& 85) := by decide +kernel
theorem byte2 : ∀ b : Fin 256, ∀ e : Fin 4, ((e.val * 64 + b.val / 4) &&& 51) = (b.val / 4 &&& 51) := by decide +kernel

/-- one step of the first sum -/
def w1 (k x : Nat) : Nat := (x / 2 &&& k) + (x &&& k)
def w2 (k x : Nat) : Nat := (x / 4 &&& k) + (x &&& k)
def w3 (k x : Nat) : Nat := (x / 16 + x) &&& k

theorem w1_step (a b c : Nat) (hb : b < 256) : w1 (c * 256 + 85) (a * 256 + b) = w1 c a * 256 + w1 85 b := by
  have e : (a * 256 + b) / 2 = (a / 2) * 256 + (a % 2 * 128 + b / 2) := by omega
  unfold w1
  rw [e, and_byte _ _ _ _ (by omega) (by decide), and_byte _ _ _ _ hb (by decide)]
  have := byte1 ⟨b, hb⟩ ⟨a % 2, Nat.mod_lt _ (by decide)⟩
  simp only at this
  rw [this]; omega
theorem w2_step (a b c : Nat) (hb : b < 256) : w2 (c * 256 + 51) (a * 256 + b) = w2 c a * 256 + w2 51 b := by
  have e : (a * 256 + b) / 4 = (a / 4) * 256 + (a % 4 * 64 + b / 4) := by omega
  unfold w2
  rw [e, and_byte _ _ _ _ (by omega) (by decide), and_byte _ _ _ _ hb (by decide)]
  have := byte2 ⟨b, hb⟩ ⟨a % 4, Nat.mod_lt _ (by decide)⟩
  simp only at this
  rw [this]; omega

theorem w_byte : ∀ b : Fin 256, w1 85 b.val < 256 ∧ w2 51 (w1 85 b.val) < 69 ∧ w2 51 (w1 85 b.val) % 16 < 5 ∧ ((w2 51 (w1 85 b.val) / 16 + w2 51 (w1 85 b.val)) &&& 15) = ones 8 b.val := by decide +kernel
theorem byte3 : ∀ b : Fin 69, ∀ e : Fin 5, b.val % 16 < 5 → ((e.val * 16 + b.val / 16 + b.val) &&& 15) = ((b.val / 16 + b.val) &&& 15) := by decide +kernel

theorem w3_step (a b c : Nat) (hb : b < 69) (hb2 : b % 16 < 5) (ha : a % 16 < 5) : w3 (c * 256 + 15) (a * 256 + b) = w3 c a * 256 + ((b / 16 + b) &&& 15) := by
  have e : (a * 256 + b) / 16 + (a * 256 + b) = (a / 16 + a) * 256 + (a % 16 * 16 + b / 16 + b) := by omega
  unfold w3
  rw [e, and_byte _ _ _ _ (by omega) (by decide)]
  have := byte3 ⟨b, hb⟩ ⟨a % 16, ha⟩ hb2
  simp only at this
  rw [this]

/-- the word of the sums of the bytes of a number below 2^32 -/
theorem words (m : Nat) (hm : m < 4294967296) :
    w3 1085102592571150095 (w2 3689348814741910323 (w1 6148914691236517205 m)) = ((ones 8 (m / 16777216) * 256 + ones 8 (m / 65536 % 256)) * 256 + ones 8 (m / 256 % 256)) * 256 + ones 8 (m % 256) := by
  obtain ⟨b3, h3, e3⟩ : ∃ b, b < 256 ∧ b = m / 16777216 := ⟨_, by omega, rfl⟩
  obtain ⟨b2, h2, e2⟩ : ∃ b, b < 256 ∧ b = m / 65536 % 256 := ⟨_, by omega, rfl⟩
  obtain ⟨b1, h1, e1⟩ : ∃ b, b < 256 ∧ b = m / 256 % 256 := ⟨_, by omega, rfl⟩
  obtain ⟨b0, h0, e0⟩ : ∃ b, b < 256 ∧ b = m % 256 := ⟨_, by omega, rfl⟩
  have em : m = (((0 * 256 + b3) * 256 + b2) * 256 + b1) * 256 + b0 := by omega
  rw [← e3, ← e2, ← e1, ← e0, em]
  have z1 (k : Nat) : w1 k 0 = 0 := by simp [w1]
  have z2 (k : Nat) : w2 k 0 = 0 := by simp [w2]
  have z3 (k : Nat) : w3 k 0 = 0 := by simp [w3]
  rw [show 6148914691236517205 = (((1431655765 * 256 + 85) * 256 + 85) * 256 + 85) * 256 + 85 from rfl, w1_step _ _ _ h0, w1_step _ _ _ h1, w1_step _ _ _ h2, w1_step _ _ _ h3, z1]
  obtain ⟨p0, q0, r0, s0⟩ := w_byte ⟨b0, h0⟩
  obtain ⟨p1, q1, r1, s1⟩ := w_byte ⟨b1, h1⟩
  obtain ⟨p2, q2, r2, s2⟩ := w_byte ⟨b2, h2⟩
  obtain ⟨p3, q3, r3, s3⟩ := w_byte ⟨b3, h3⟩
  simp only at p0 q0 r0 s0 p1 q1 r1 s1 p2 q2 r2 s2 p3 q3 r3 s3
  rw [show 3689348814741910323 = (((858993459 * 256 + 51) * 256 + 51) * 256 + 51) * 256 + 51 from rfl, w2_step _ _ _ p0, w2_step _ _ _ p1, w2_step _ _ _ p2, w2_step _ _ _ p3, z2]
  rw [show 1085102592571150095 = (((252645135 * 256 + 15) * 256 + 15) * 256 + 15) * 256 + 15 from rfl, w3_step _ _ _ q0 r0 (by omega), w3_step _ _ _ q1 r1 (by omega), w3_step _ _ _ q2 r2 (by omega), w3_step _ _ _ q3 r3 (by omega), z3, s0, s1, s2, s3]
  omega

theorem pop_byte : ∀ n : Fin 256, ones 8 n.val ≤ 8 := fun _ => ones_le 8 _

end Bw
