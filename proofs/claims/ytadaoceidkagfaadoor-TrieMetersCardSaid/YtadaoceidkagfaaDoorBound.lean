/- brushwoodref09: times, length, Bound. -/
import Derived.Test.YtadaoceidkagfaaDoorRefA
import Derived.Deep.QuietTactic
namespace Go.Proofs.YtadaoceidkagfaaDoor
open Go.RowKit Go.Bw

/-- a number's value, from its digits, the lowest one first -/
def _root_.Bw.numOf : List Nat → Nat
  | [] => 0
  | a :: r => a + 65536 * Bw.numOf r

theorem _root_.Bw.numOf_snoc (l : List Nat) (x : Nat) : Bw.numOf (l ++ [x]) = Bw.numOf l + 65536 ^ l.length * x := by
  induction l with
  | nil => simp [Bw.numOf]
  | cons a r ih => 
    simp only [List.cons_append, Bw.numOf, ih, List.length_cons, Nat.pow_succ]
    rw [Nat.mul_add, ← Nat.mul_assoc, Nat.mul_comm 65536 (65536 ^ r.length), Nat.add_assoc]

theorem _root_.Bw.numOf_zero {l : List Nat} (h : ∀ d ∈ l, d = 0) : Bw.numOf l = 0 := by
  induction l with
  | nil => rfl
  | cons a r ih => simp only [Bw.numOf, h a (by simp), ih fun d hd => h d (by simp [hd])]

theorem _root_.Bw.numOf_append (l m : List Nat) : Bw.numOf (l ++ m) = Bw.numOf l + 65536 ^ l.length * Bw.numOf m := by
  induction l with
  | nil => simp [Bw.numOf]
  | cons a r ih => 
    simp only [List.cons_append, Bw.numOf, ih, List.length_cons, Nat.pow_succ]
    rw [Nat.mul_add, ← Nat.mul_assoc, Nat.mul_comm 65536 (65536 ^ r.length), Nat.add_assoc]

theorem _root_.Bw.numOf_lt {l : List Nat} (h : ∀ d ∈ l, d < 65536) : Bw.numOf l < 65536 ^ l.length := by
  induction l with
  | nil => simp [Bw.numOf]
  | cons a r ih =>
    have h1 := h a (by simp)
    have h2 := ih fun d hd => h d (by simp [hd])
    simp only [Bw.numOf, List.length_cons, Nat.pow_succ]
    omega

theorem wrap_le {q : Nat} (h : q ≤ 4294967296) : wrap64 (q : Int) = (q : Int) := IntWalk.wrap64_in _ (by omega)

def TmRel (a : List Nat) (n : Nat) (w : World) (v ci i : Value) (wr : World) : Prop :=
  ∃ (k c : Nat) (out : List Nat), i = .int .i64 k ∧ ci = .int .i64 c ∧ out.length = k ∧ (∀ d ∈ out, d < 65536) ∧ Bw.numOf out + 65536 ^ k * c = n * Bw.numOf (a.take k) ∧ c < n ∧ k + c ≤ a.length + n ∧
    OwnAt 3 1 natK (fun k => w.heap.size ≤ k) wr w.heap.size v out ∧ Below w.heap.size w wr

theorem tm_step {out : List Nat} {k c x N : Nat} (h : Bw.numOf out + 65536 ^ k * c = N) (hk : out.length = k) :
    Bw.numOf (out ++ [(c + x) % 65536]) + 65536 ^ (k + 1) * ((c + x) / 65536) = N + 65536 ^ k * x := by
  rw [Bw.numOf_snoc, hk, Nat.pow_succ, Nat.add_assoc, Nat.mul_assoc, ← Nat.mul_add, Nat.mod_add_div, Nat.mul_add, ← Nat.add_assoc, h]

theorem tm_next {c x n : Nat} (hc : c < n) (hx : x < 65536) : (c + x * n) / 65536 < n := by
  rw [Nat.div_lt_iff_lt_mul (by decide)]
  have : x * n ≤ 65535 * n := Nat.mul_le_mul_right _ (by omega)
  omega

set_option maxRecDepth 100000 in
set_option maxHeartbeats 400000 in
theorem rtimes_any {ok : Nat → Prop} {a : List Nat} {n : Nat} {v : Value} {w : World} (hn0 : 0 < n) (hn : n ≤ 100000) (hal : a.length ≤ 1048576) (had : ∀ d ∈ a, d < 65536) (hr : NatsAt ok w v a) :
    Calls Tryd.prog 17 #[v, .int .i64 (n : Nat)] w (Gives w fun q w' => ∃ out, NatsAt (fun k => w.heap.size ≤ k) w' q out ∧ Bw.numOf out = n * Bw.numOf a ∧ (∀ d ∈ out, d < 65536) ∧ out.length ≤ a.length + n) := by
  obtain ⟨A, cA, rfl⟩ := hr.form
  have H0 : Hid (TmRel a n w (.slice none 0 0) (.int .i64 0) (.int .i64 0) w) := Lib.hid ⟨0, 0, [], rfl, rfl, rfl, fun d h => by simp at h, by simp [Bw.numOf], hn0, by omega, OwnAt.nil, Below.refl _ _⟩
  have HR := Lib.hid hr; have HAL := Lib.hid hal; have HAD := Lib.hid had; have HN := Lib.hid hn
  clear hr had
  go_enter Tryd.func17, Tryd.ntmps17
  go_wp2_with fail
  go_loopw [5, 6, 7] (TmRel a n w) (fun _ c i _ => (a.length - (intOf i).toNat) * 200000 + (intOf c).toNat)
  case atStart => exact H0.out
  case round =>
    obtain ⟨k, c, out, rfl, rfl, hol, hod, hnum, hc, hkc, hown, hB⟩ := hrel
    have HNUM := Lib.hid hnum
    clear hnum
    by_cases hlt : k < a.length
    · obtain ⟨b, o, cs, e1, hx, hcc⟩ := HR.out.get (List.getElem?_eq_getElem hlt)
      cases e1
      cases hx
      have c0 := (hcc 0 _ rfl).2
      rw [Nat.mul_one, Nat.add_zero] at c0
      have hbl := World.block_lt_of_cell? w _ c0
      dsimp only at hbl
      have d0 : wr.cell? ⟨b, o + k, none⟩ = some (.int .i64 (a[k] : Nat)) := (hB.cell (p := ⟨b, o + k, none⟩) hbl).trans c0
      have hx := HAD.out a[k] (List.getElem_mem hlt)
      have HCK : Hid (Bw.numOf (a.take (k + 1)) = Bw.numOf (a.take k) + 65536 ^ k * a[k]) := Lib.hid (by rw [take_succ_snoc hlt, Bw.numOf_snoc, List.length_take, Nat.min_eq_left (Nat.le_of_lt hlt)])
      have h0 : (0 : Int) ≤ (k : Int) := by omega
      have h1 : (k : Int) < (a.length : Int) := by omega
      have h2 : decide ((k : Int) < (a.length : Int)) = true := decide_eq_true h1
      have hk1 : k + 1 ≤ a.length := hlt
      generalize a[k] = x at *
      have hnew := tm_next hc hx
      have hyb : x * n ≤ 65535 * 100000 := Nat.mul_le_mul (by omega) HN.out
      have HS : Hid (Bw.numOf (out ++ [(c + x * n) % 65536]) + 65536 ^ (k + 1) * ((c + x * n) / 65536) = n * Bw.numOf (a.take (k + 1))) := Lib.hid (by
        rw [tm_step (x := x * n) HNUM.out hol, HCK.out, Nat.mul_add, Nat.mul_left_comm n, Nat.mul_comm n x])
      have w1 : wrap64 ((x : Int) * (n : Int)) = ((x * n : Nat) : Int) := by rw [Int.natCast_mul]; exact IntWalk.wrap64_in _ (by rw [← Int.natCast_mul]; omega)
      generalize x * n = y at *
      have W1 := Lib.hid w1
      clear w1
      have hkq : k + 1 + (c + y) / 65536 ≤ a.length + n := by clear d0 h0 h1 h2; omega
      have HMES : Hid ((a.length - (k + 1)) * 200000 + (c + y) / 65536 < (a.length - k) * 200000 + c) := Lib.hid (by clear d0 h0 h1 h2; omega)
      have w2 : wrap64 ((c : Int) + (y : Int)) = ((c + y : Nat) : Int) := IntWalk.wrap64_in _ (by clear h0 h1 h2; omega)
      have hsb : c + y ≤ 65536 * 100000 := by clear w2 h0 h1 h2; omega
      generalize c + y = s at *
      clear HCK hcc c0 hbl hx hc hkc
      have w1 := W1.out
      have hd : s % 65536 < 65536 := Nat.mod_lt _ (by decide)
      have hq9 : s / 65536 ≤ 4294967296 := Nat.le_trans (Nat.le_of_lt hnew) (Nat.le_trans hn (by decide))
      have w7 : wrap64 ((s / 65536 : Nat) : Int) = ((s / 65536 : Nat) : Int) := wrap_le hq9
      have hk9 : k + 1 ≤ 4194304 := Nat.le_trans (Nat.le_trans (Nat.le_add_right _ _) hkq) (Nat.le_trans (Nat.add_le_add hal hn) (by decide))
      have HIN : Hid (wrap64 ((k : Int) + 1) = (k : Int) + 1) := Lib.hid (wrap_le (q := k + 1) (Nat.le_trans hk9 (by decide)))
      have HLEN : Hid (out.length ≤ 4194304) := Lib.hid (by rw [hol]; exact Nat.le_trans (Nat.le_succ k) hk9)
      have w3 : ((s : Int)).tmod 65536 = ((s % 65536 : Nat) : Int) := rfl
      have w4 : ((s : Int)).tdiv 65536 = ((s / 65536 : Nat) : Int) := rfl
      have w5 : ((s : Int)) % 65536 = ((s % 65536 : Nat) : Int) := rfl
      have w6 : ((s : Int)) / 65536 = ((s / 65536 : Nat) : Int) := rfl
      generalize s % 65536 = d at *
      generalize s / 65536 = q at *
      have HO : Hid (∀ W, Below wr.heap.size wr W → OwnAt 3 1 natK (fun k => w.heap.size ≤ k) W w.heap.size _ out) := Lib.hid fun W hW => hown.move goodNat (Moves.below hW)
      have HB := Lib.hid hB
      have HOL := Lib.hid hol; have HNEW := Lib.hid hnew; have HKQ := Lib.hid hkq
      have HOD : Hid (∀ e ∈ out ++ [d], e < 65536) := Lib.hid fun e he => by
        rcases List.mem_append.1 he with h | h
        · exact hod e h
        · rw [List.mem_singleton] at h; rw [h]; exact hd
      clear hol hod hown hB hnew hkq hd hq9 hk9
      go_wp2_with (at_builtin; go_loud (refine wp_natapp rfl rfl rfl (HO.out _ (by (repeat (first | exact Below.refl _ _ | with_reducible assumption | refine Below.drew ?_ | refine b_drewN ?_ _ | (refine Below.alloc ?_ (by simp) _) | (refine Below.alloc ?_ (by simp; omega) _))))) d 3 (by go_simp) HB.out.size HLEN.out HB.out.size ?_; intro v3 w3 hown3 hb3 hg3))
      try rw [w7]
      try rw [HIN.out]
      exact ⟨⟨k + 1, q, out ++ [d], rfl, rfl, by rw [List.length_append, HOL.out]; rfl, HOD.out, HS.out, HNEW.out, HKQ.out, hown3, HB.out.trans hb3⟩, HMES.out⟩
    · by_cases hcp : 0 < c
      · have hlt' : ¬ ((k : Int) < (a.length : Int)) := by omega
        have h2 : decide ((k : Int) < (a.length : Int)) = false := decide_eq_false hlt'
        have h3 : (0 : Int) < (c : Int) := by omega
        have h4 : decide ((0 : Int) < (c : Int)) = true := decide_eq_true h3
        have HS : Hid (Bw.numOf (out ++ [c % 65536]) + 65536 ^ (k + 1) * (c / 65536) = n * Bw.numOf (a.take (k + 1))) := Lib.hid (by
          have := tm_step (x := 0) HNUM.out hol
          rw [Nat.mul_zero, Nat.add_zero, Nat.add_zero, List.take_of_length_le (by omega)] at this
          rw [List.take_of_length_le (by omega)]
          exact this)
        have hnew : c / 65536 < n := Nat.lt_of_le_of_lt (Nat.div_le_self _ _) hc
        have hkq : k + 1 + c / 65536 ≤ a.length + n := by omega
        have HMES : Hid ((a.length - (k + 1)) * 200000 + c / 65536 < (a.length - k) * 200000 + c) := Lib.hid (by omega)
        generalize c = s at *
        clear hcp hc hkc
        have hd : s % 65536 < 65536 := Nat.mod_lt _ (by decide)
        have hq9 : s / 65536 ≤ 4294967296 := Nat.le_trans (Nat.le_of_lt hnew) (Nat.le_trans hn (by decide))
        have w7 : wrap64 ((s / 65536 : Nat) : Int) = ((s / 65536 : Nat) : Int) := wrap_le hq9
        have hk9 : k + 1 ≤ 4194304 := Nat.le_trans (Nat.le_trans (Nat.le_add_right _ _) hkq) (Nat.le_trans (Nat.add_le_add hal hn) (by decide))
        have HIN : Hid (wrap64 ((k : Int) + 1) = (k : Int) + 1) := Lib.hid (wrap_le (q := k + 1) (Nat.le_trans hk9 (by decide)))
        have HLEN : Hid (out.length ≤ 4194304) := Lib.hid (by rw [hol]; exact Nat.le_trans (Nat.le_succ k) hk9)
        have w3 : ((s : Int)).tmod 65536 = ((s % 65536 : Nat) : Int) := rfl
        have w4 : ((s : Int)).tdiv 65536 = ((s / 65536 : Nat) : Int) := rfl
        have w5 : ((s : Int)) % 65536 = ((s % 65536 : Nat) : Int) := rfl
        have w6 : ((s : Int)) / 65536 = ((s / 65536 : Nat) : Int) := rfl
        generalize s % 65536 = d at *
        generalize s / 65536 = q at *
        have HO : Hid (∀ W, Below wr.heap.size wr W → OwnAt 3 1 natK (fun k => w.heap.size ≤ k) W w.heap.size _ out) := Lib.hid fun W hW => hown.move goodNat (Moves.below hW)
        have HB := Lib.hid hB
        have HOL := Lib.hid hol; have HNEW := Lib.hid hnew; have HKQ := Lib.hid hkq
        have HOD : Hid (∀ e ∈ out ++ [d], e < 65536) := Lib.hid fun e he => by
          rcases List.mem_append.1 he with h | h
          · exact hod e h
          · rw [List.mem_singleton] at h; rw [h]; exact hd
        clear hol hod hown hB hnew hkq hd hq9 hk9
        go_wp2_with (at_builtin; go_loud (refine wp_natapp rfl rfl rfl (HO.out _ (by (repeat (first | exact Below.refl _ _ | with_reducible assumption | refine Below.drew ?_ | refine b_drewN ?_ _ | (refine Below.alloc ?_ (by simp) _) | (refine Below.alloc ?_ (by simp; omega) _))))) d 3 (by go_simp) HB.out.size HLEN.out HB.out.size ?_; intro v3 w3 hown3 hb3 hg3))
        try rw [w7]
        try rw [HIN.out]
        exact ⟨⟨k + 1, q, out ++ [d], rfl, rfl, by rw [List.length_append, HOL.out]; rfl, HOD.out, HS.out, HNEW.out, HKQ.out, hown3, HB.out.trans hb3⟩, HMES.out⟩
      · obtain rfl : c = 0 := by omega
        have hlt' : ¬ ((k : Int) < (a.length : Int)) := by omega
        have h2 : decide ((k : Int) < (a.length : Int)) = false := decide_eq_false hlt'
        have HV : Hid (Bw.numOf out = n * Bw.numOf a) := Lib.hid (by
          have := HNUM.out
          rw [Nat.mul_zero, Nat.add_zero, List.take_of_length_le (by omega)] at this
          exact this)
        have HOWN := Lib.hid hown; have HB := Lib.hid hB; have HOD := Lib.hid hod
        have HLL : Hid (out.length ≤ a.length + n) := Lib.hid (by rw [hol]; omega)
        clear hown hB hod hcp
        go_wp2
        go_ret
        exact ⟨_, rfl, ⟨out, HOWN.out.row goodNat, HV.out, HOD.out, HLL.out⟩, HB.out⟩

theorem bit_step {x n y : Nat} (h : x < 2 ^ n * (y + 1)) : x < 2 ^ (n + 1) * (y / 2 + 1) := by
  refine Nat.lt_of_lt_of_le h ?_
  rw [Nat.pow_succ, Nat.mul_assoc]
  clear h
  exact Nat.mul_le_mul_left _ (by omega)

theorem num_bits {a t z : List Nat} {x m n : Nat} (h : a = t ++ x :: z) (hm : t.length = m) (ht : ∀ d ∈ t, d < 65536) (hz : ∀ d ∈ z, d = 0) (hx : x < 2 ^ n) : Bw.numOf a < 2 ^ (16 * m + n) := by
  subst h
  rw [Bw.numOf_append, Bw.numOf, Bw.numOf_zero hz, hm, Nat.mul_zero, Nat.add_zero, Nat.pow_add, Nat.pow_mul]
  have h1 := Bw.numOf_lt ht
  rw [hm] at h1
  refine Nat.lt_of_lt_of_le (Nat.add_lt_add_right h1 _) ?_
  rw [Nat.add_comm, ← Nat.mul_succ]
  exact Nat.mul_le_mul_left _ hx

def LenRel (a : List Nat) (w : World) (i : Value) (wr : World) : Prop := ∃ j : Nat, j ≤ a.length ∧ i = .int .i64 ((j : Int) - 1) ∧ (∀ d ∈ a.drop j, d = 0) ∧ wr = w
/-- n of the number's bits are counted, and y is what is left -/
def BitRel (x : Nat) (w : World) (ni yi : Value) (wr : World) : Prop := ∃ n y : Nat, ni = .int .i64 n ∧ yi = .int .i64 y ∧ x < 2 ^ n * (y + 1) ∧ n + y ≤ x ∧ wr = w

set_option maxRecDepth 100000 in
set_option maxHeartbeats 400000 in
theorem rlength_any {ok : Nat → Prop} {a : List Nat} {v : Value} {w : World} (hal : a.length ≤ 1048576) (had : ∀ d ∈ a, d < 65536) (hr : NatsAt ok w v a) :
    Calls Tryd.prog 18 #[v] w fun e w' => ∃ L : Nat, e = .returned (.int .i64 (L : Nat)) ∧ Bw.numOf a < 2 ^ L ∧ L ≤ 16 * a.length + 65536 ∧ w' = w := by
  obtain ⟨A, cA, rfl⟩ := hr.form
  have H0 : Hid (LenRel a w (.int .i64 ((a.length : Int) - 1)) w) := Lib.hid ⟨a.length, Nat.le_refl _, rfl, by rw [List.drop_length]; exact fun d h => absurd h (List.not_mem_nil), rfl⟩
  have hw0 : wrap64 ((a.length : Int) - 1) = (a.length : Int) - 1 := IntWalk.wrap64_in _ (by omega)
  have HR := Lib.hid hr; have HAD := Lib.hid had
  clear hr had
  go_enter Tryd.func18, Tryd.ntmps18
  go_wp2_with fail
  go_loopw [3] (LenRel a w) (fun i _ => (intOf i + 1).toNat)
  case atStart => exact H0.out
  case round =>
    obtain ⟨j, hj, rfl, hz, rfl⟩ := hrel
    cases j with
    | zero =>
      have hi0 : (((0 : Nat) : Int) - 1) = -1 := rfl
      rw [hi0]
      have HZ := Lib.hid hz
      clear hz
      go_wp2
      go_ret
      exact ⟨0, rfl, by rw [Bw.numOf_zero (by simpa using HZ.out)]; decide, Nat.zero_le _, rfl⟩
    | succ m =>
      have hlt : m < a.length := hj
      have hi1 : (((m + 1 : Nat) : Int) - 1) = (m : Int) := by omega
      rw [hi1]
      obtain ⟨b, o, cs, e1, hx, hcc⟩ := HR.out.get (List.getElem?_eq_getElem hlt)
      cases e1
      cases hx
      have c0 := (hcc 0 _ rfl).2
      rw [Nat.mul_one, Nat.add_zero] at c0
      have d0 : wr.cell? ⟨b, o + m, none⟩ = some (.int .i64 (a[m] : Nat)) := c0
      have hx := HAD.out a[m] (List.getElem_mem hlt)
      have h0 : (0 : Int) ≤ (m : Int) := by omega
      have h1 : (m : Int) < (a.length : Int) := by omega
      have HSPLIT : Hid (a = a.take m ++ a[m] :: a.drop (m + 1)) := Lib.hid (by rw [← List.drop_eq_getElem_cons hlt, List.take_append_drop])
      have HZ := Lib.hid hz
      have hsubI : wrap64 ((m : Int) - 1) = (m : Int) - 1 := IntWalk.wrap64_in _ (by omega)
      generalize a[m] = x at *
      have H1 : Hid (BitRel x wr (.int .i64 0) (.int .i64 (x : Nat)) wr) := Lib.hid ⟨0, x, rfl, rfl, by simp, by omega, rfl⟩
      clear hcc c0 hz
      go_wp2_with fail
      go_loopw [4, 5] (BitRel x wr) (fun _ y _ => (intOf y).toNat)
      case atStart => exact H1.out
      case round =>
        obtain ⟨n, y, rfl, rfl, hb, hny, rfl⟩ := hrel
        have HBT := Lib.hid hb
        clear hb
        by_cases hy : 0 < y
        · have h3 : (0 : Int) < (y : Int) := by omega
          have HB2 : Hid (x < 2 ^ (n + 1) * (y / 2 + 1)) := Lib.hid (bit_step HBT.out)
          clear HBT
          have HN2 : Hid (n + 1 + y / 2 ≤ x) := Lib.hid (by omega)
          have HLT : Hid (y / 2 < y) := Lib.hid (by omega)
          have w7 : wrap64 ((y / 2 : Nat) : Int) = ((y / 2 : Nat) : Int) := wrap_le (by omega)
          have HIN : Hid (wrap64 ((n : Int) + 1) = (n : Int) + 1) := Lib.hid (wrap_le (q := n + 1) (by omega))
          have w4 : ((y : Int)).tdiv 2 = ((y / 2 : Nat) : Int) := rfl
          have w6 : ((y : Int)) / 2 = ((y / 2 : Nat) : Int) := rfl
          generalize y / 2 = z at *
          go_wp2
          try rw [w7]
          try rw [HIN.out]
          exact ⟨⟨n + 1, z, rfl, rfl, HB2.out, HN2.out, rfl⟩, HLT.out⟩
        · obtain rfl : y = 0 := by omega
          have HX2 : Hid (x < 2 ^ n) := Lib.hid (by simpa using HBT.out)
          by_cases hn : 0 < n
          · have h3 : (0 : Int) < (n : Int) := by omega
            have HV : Hid (Bw.numOf a < 2 ^ (16 * m + n)) := Lib.hid (num_bits HSPLIT.out (by rw [List.length_take]; exact Nat.min_eq_left (Nat.le_of_lt hlt)) (fun d hd => HAD.out d (List.mem_of_mem_take hd)) HZ.out HX2.out)
            have HLL : Hid (16 * m + n ≤ 16 * a.length + 65536) := Lib.hid (by omega)
            have w1 : wrap64 (16 * (m : Int)) = 16 * (m : Int) := IntWalk.wrap64_in _ (by omega)
            have w2 : wrap64 (16 * (m : Int) + (n : Int)) = 16 * (m : Int) + (n : Int) := IntWalk.wrap64_in _ (by omega)
            clear HBT HX2 hn
            go_wp2
            go_ret
            exact ⟨16 * m + n, by first | rfl | (rw [w2]; rfl), HV.out, HLL.out, rfl⟩
          · obtain rfl : n = 0 := by omega
            have HZ2 : Hid (∀ d ∈ a.drop m, d = 0) := Lib.hid (by
              have hx0 : x = 0 := by have := HX2.out; simpa using this
              have h1 : a.drop m = x :: a.drop (m + 1) := by
                have := congrArg (List.drop m) HSPLIT.out
                rw [List.drop_left' (by rw [List.length_take]; exact Nat.min_eq_left (Nat.le_of_lt hlt))] at this
                exact this
              rw [h1]
              intro d hd
              rcases List.mem_cons.1 hd with h | h
              · rw [h]; exact hx0
              · exact HZ.out d h)
            clear HBT HX2 hn
            go_wp2
            exact ⟨⟨m, Nat.le_of_lt hlt, rfl, HZ2.out, rfl⟩, by show ((m : Int) - 1 + 1).toNat < ((m : Int) + 1).toNat; clear hsubI; omega⟩

def BdRel (n : Nat) (w : World) (v ii : Value) (wr : World) : Prop :=
  ∃ (i : Nat) (p : List Nat), i ≤ 6 ∧ ii = .int .i64 i ∧ NatsAt AllB wr v p ∧ Bw.numOf p = (n + 1) ^ i ∧ (∀ d ∈ p, d < 65536) ∧ p.length ≤ 1 + i * 1001 ∧ Below w.heap.size w wr

set_option maxRecDepth 100000 in
set_option maxHeartbeats 400000 in
theorem rbound_any {n : Nat} {w : World} (hn : n ≤ 1000) :
    Calls Tryd.prog 9 #[.int .i64 (n : Nat)] w fun e w' => ∃ L : Nat, e = .returned (.int .i64 ((16 + L : Nat) : Int)) ∧ (n + 1) ^ 6 < 2 ^ L ∧ L ≤ 1000000 ∧ Below w.heap.size w w' := by
  obtain ⟨W1, hW1⟩ : ∃ W1, w.alloc (.cells #[.int .i64 1] 3) = W1 := ⟨_, rfl⟩
  have hB1 : Below w.heap.size w W1 := by rw [← hW1]; exact (Below.refl _ _).alloc (Nat.le_refl _) _
  have hrow : NatsAt AllB W1 (.slice (some ⟨w.heap.size, 0, none⟩) 1 1) [1] := by
    rw [← hW1]
    exact RowAt.single goodNat (cs := #[.int .i64 1]) (t := 3) (fr := (0, 0)) rfl trivial (heap_alloc_new w _)
  have H0 : Hid (BdRel n w (.slice (some ⟨w.heap.size, 0, none⟩) 1 1) (.int .i64 0) W1) := Lib.hid ⟨0, [1], Nat.zero_le _, rfl, hrow, by simp [Bw.numOf], by simp, by simp, hB1⟩
  have HW1 := Lib.hid hW1
  have wn : wrap64 ((n : Int) + 1) = (n : Int) + 1 := IntWalk.wrap64_in _ (by omega)
  clear hB1 hrow hW1
  go_enter Tryd.func9, Tryd.ntmps9
  go_wp2_with (rw [HW1.out])
  go_loopw [3, 4] (BdRel n w) (fun _ i _ => 6 - (intOf i).toNat)
  case atStart => exact H0.out
  case round =>
    obtain ⟨i, p, hi, rfl, hp, hnum, hd, hpl, hB⟩ := hrel
    by_cases hlt : i < 6
    · have h1 : (i : Int) < 6 := by omega
      have CT := Lib.hid (rtimes_any (n := n + 1) (Nat.succ_pos n) (by omega) (by omega) hd hp)
      have HNUM := Lib.hid hnum; have HPL := Lib.hid hpl; have HB := Lib.hid hB
      have w1 : wrap64 ((i : Int) + 1) = (i : Int) + 1 := IntWalk.wrap64_in _ (by omega)
      clear hnum hd hpl hp hB
      have hcast : ((n + 1 : Nat) : Int) = (n : Int) + 1 := rfl
      rw [hcast] at CT
      go_wp2_with fail
      refine CT.out.mono ?_
      rintro e w2 ⟨q, rfl, ⟨out, hq, hv, hod, hol⟩, hb2⟩
      have HQ := Lib.hid (hq.move (ok' := AllB) goodNat (Moves.weaken fun _ _ _ => trivial))
      have HV := Lib.hid hv; have HOD := Lib.hid hod; have HOL := Lib.hid hol; have HB2 := Lib.hid (HB.out.trans (hb2.mono HB.out.size))
      clear hq hv hod hol hb2
      go_wp2
      exact ⟨⟨i + 1, out, hlt, rfl, HQ.out, by rw [HV.out, HNUM.out, Nat.pow_succ, Nat.mul_comm], HOD.out, by have := HOL.out; have := HPL.out; omega, HB2.out⟩, by show 6 - ((i : Int) + 1).toNat < 6 - (i : Int).toNat; omega⟩
    · obtain rfl : i = 6 := by omega
      have CL := Lib.hid (rlength_any (by omega) hd hp)
      have HNUM := Lib.hid hnum; have HPL := Lib.hid hpl; have HB := Lib.hid hB
      clear hnum hd hpl hp hB
      go_wp2_with fail
      refine CL.out.mono ?_
      rintro e w2 ⟨L, rfl, hL, hL2, rfl⟩
      have HL := Lib.hid hL
      have hL3 : L ≤ 1000000 := by have := HPL.out; clear hL; omega
      have w1 : wrap64 (17 + (L : Int)) = 17 + (L : Int) := by clear hL; exact IntWalk.wrap64_in _ (by omega)
      have w2 : wrap64 (17 + (L : Int) - 1) = ((16 + L : Nat) : Int) := by clear hL w1; rw [IntWalk.wrap64_in _ (by omega)]; omega
      have HL3 := Lib.hid hL3
      clear hL hL2 hL3
      go_wp2
      go_ret
      exact ⟨L, by show Ending.returned (.int .i64 (wrap64 (17 + (L : Int) - 1))) = _; rw [w2], by rw [← HNUM.out]; exact HL.out, HL3.out, HB.out⟩
end Go.Proofs.YtadaoceidkagfaaDoor
