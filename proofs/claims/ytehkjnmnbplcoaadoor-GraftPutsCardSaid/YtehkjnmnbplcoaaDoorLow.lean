/- The lowest number of a set; the set without it. Plain. -/
import Derived.Test.YtehkjnmnbplcoaaDoorBwAll
namespace Bw

/-- the lowest bit set of the n lowest -/
def low : Nat → Nat → Nat
  | 0, _ => 0
  | n + 1, x => if x % 2 = 1 then 0 else 1 + low n (x / 2)

theorem and_half (a b : Nat) : (a &&& b) / 2 = (a / 2) &&& (b / 2) := by
  apply Nat.eq_of_testBit_eq
  intro i
  rw [Nat.testBit_div_two, Nat.testBit_and, Nat.testBit_and, Nat.testBit_div_two, Nat.testBit_div_two]

theorem and_odd (a b : Nat) : (a &&& b) % 2 = (a % 2) * (b % 2) := by
  have h : (a &&& b).testBit 0 = (a.testBit 0 && b.testBit 0) := Nat.testBit_and ..
  simp only [Nat.testBit_zero] at h
  generalize a &&& b = c at h ⊢
  rcases Nat.mod_two_eq_zero_or_one a with ha | ha <;> rcases Nat.mod_two_eq_zero_or_one b with hb | hb <;> rcases Nat.mod_two_eq_zero_or_one c with hc | hc <;> rw [ha, hb, hc] at h ⊢ <;> revert h <;> decide

theorem low_lt : ∀ n x, 0 < x → x < 2 ^ n → low n x < n
  | 0, x, h0, h => by simp at h; omega
  | n + 1, x, h0, h => by
    simp only [low]
    split
    · omega
    · have := low_lt n (x / 2) (by omega) (by rw [Nat.pow_succ] at h; omega)
      omega

/-- a number and what it lacks have no bit in common -/
theorem and_rest : ∀ n y, y < 2 ^ n → y &&& (2 ^ n - 1 - y) = 0
  | 0, y, h => by simp at h; subst h; rfl
  | n + 1, y, h => by
    have ih := and_rest n (y / 2) (by rw [Nat.pow_succ] at h; omega)
    rw [Nat.pow_succ] at h ⊢
    generalize 2 ^ n = p at *
    have h1 : (y &&& (p * 2 - 1 - y)) / 2 = 0 := by
      rw [and_half, ← ih]; congr 1; omega
    have h2 : (y &&& (p * 2 - 1 - y)) % 2 = 0 := by
      rw [and_odd]
      rcases Nat.mod_two_eq_zero_or_one y with hy | hy
      · rw [hy]; simp
      · have : (p * 2 - 1 - y) % 2 = 0 := by omega
        rw [this, Nat.mul_zero]
    omega

theorem and_neg : ∀ n x, 0 < x → x < 2 ^ n → x &&& (2 ^ n - x) = 2 ^ low n x
  | 0, x, h0, h => by simp at h; omega
  | n + 1, x, h0, h => by
    simp only [low]
    split
    · rename_i hx
      have hr := and_rest n (x / 2) (by rw [Nat.pow_succ] at h; omega)
      rw [Nat.pow_zero]
      rw [Nat.pow_succ] at h ⊢
      generalize 2 ^ n = p at *
      have h1 : (x &&& (p * 2 - x)) / 2 = 0 := by rw [and_half, ← hr]; congr 1; omega
      have h2 : (x &&& (p * 2 - x)) % 2 = 1 := by
        rw [and_odd, hx, show (p * 2 - x) % 2 = 1 by omega]
      omega
    · rename_i hx
      have ih := and_neg n (x / 2) (by omega) (by rw [Nat.pow_succ] at h; omega)
      rw [Nat.pow_add 2 1 (low n (x / 2)), Nat.pow_one]
      rw [Nat.pow_succ] at h ⊢
      generalize 2 ^ n = p at *
      generalize 2 ^ low n (x / 2) = r at *
      have h1 : (x &&& (p * 2 - x)) / 2 = r := by rw [and_half, ← ih]; congr 1; omega
      have h2 : (x &&& (p * 2 - x)) % 2 = 0 := by
        rw [and_odd, show x % 2 = 0 by omega]; simp
      omega

/-- the numbers of the n lowest -/
def bitsN (n x : Nat) : List Nat := (List.range n).filter (x.testBit ·)

theorem bitsN_succ (n x : Nat) : bitsN (n + 1) x = (if x % 2 = 1 then [0] else []) ++ (bitsN n (x / 2)).map (· + 1) := by
  have e : (fun i => x.testBit i) ∘ Nat.succ = fun i => (x / 2).testBit i := by funext i; simp [Nat.testBit_succ]
  unfold bitsN
  rw [List.range_succ_eq_map, List.filter_cons, List.filter_map, e, Nat.testBit_zero]
  by_cases h : x % 2 = 1
  · rw [if_pos (by simpa using h), if_pos h]; rfl
  · rw [if_neg (by simpa using h), if_neg h]; rfl

theorem and_pred (x : Nat) (h : x % 2 = 0) (h0 : 0 < x) : (x &&& (x - 1)) % 2 = 0 ∧ (x &&& (x - 1)) / 2 = x / 2 &&& (x / 2 - 1) := by
  constructor
  · rw [and_odd, h]; simp
  · rw [and_half]; congr 1; omega

theorem bitsN_step : ∀ n x, 0 < x → x < 2 ^ n → bitsN n x = low n x :: bitsN n (x &&& (x - 1))
  | 0, x, h0, h => by simp at h; omega
  | n + 1, x, h0, h => by
    rw [bitsN_succ, bitsN_succ]
    simp only [low]
    by_cases hx : x % 2 = 1
    · rw [if_pos hx, if_pos hx]
      have h1 : (x &&& (x - 1)) % 2 = 0 := by rw [and_odd, show (x - 1) % 2 = 0 by omega]; simp
      have h2 : (x &&& (x - 1)) / 2 = x / 2 := by
        rw [and_half, show (x - 1) / 2 = x / 2 by omega, Nat.and_self]
      rw [if_neg (by omega), h2]; rfl
    · obtain ⟨h1, h2⟩ := and_pred x (by omega) h0
      rw [if_neg hx, if_neg hx, if_neg (by omega), h2]
      rw [bitsN_step n (x / 2) (by omega) (by rw [Nat.pow_succ] at h; omega)]
      simp only [List.nil_append, List.map_cons]
      rw [Nat.add_comm 1]

theorem bitsOf_step (x : Nat) (h0 : 0 < x) (h : x < 4294967296) : bitsOf x = low 32 x :: bitsOf (x &&& (x - 1)) := bitsN_step 32 x h0 h
theorem bitsOf_zero : bitsOf 0 = [] := by decide
theorem pred_lt (x : Nat) (h0 : 0 < x) : x &&& (x - 1) < x := by have : x &&& (x - 1) ≤ x - 1 := Nat.and_le_right; omega

/-- the table of the 32 places -/
def tab : List Nat := [0, 1, 28, 2, 29, 14, 24, 3, 30, 22, 20, 15, 25, 17, 4, 8, 31, 27, 13, 23, 21, 19, 16, 7, 26, 12, 18, 6, 11, 5, 10, 9]
theorem tab_at : ∀ t : Fin 32, 2 ^ t.val * 125613361 % 4294967296 / 134217728 < 32 ∧ tab[2 ^ t.val * 125613361 % 4294967296 / 134217728]? = some t.val := by decide +kernel
end Bw
