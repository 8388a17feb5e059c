
import Derived.Test.YtehkjnmnbplcoaaDoorNode4
import Derived.Deep.QuietTactic
import Derived.BigQuiet
namespace Go.Proofs.YtehkjnmnbplcoaaDoor
open Go.RowKit Go.Bw

theorem _root_.Bw.cmp_app (p x y : Bw.Bytes) : Lib.compareBytes (p ++ x) (p ++ y) = Lib.compareBytes x y := by
  induction p with
  | nil => rfl
  | cons a r ih => simp [Lib.compareBytes, UInt8.lt_irrefl, ih]

theorem _root_.Bw.lt_at {a b : Bw.Bytes} {k : Nat} (hk : a.take k = b.take k) (ha : k < a.length) (hb : k < b.length) (hne : a[k] ≠ b[k]) : decide (Bw.lt a b) = decide (a[k].toNat < b[k].toNat) := by
  have h1 : a = a.take k ++ a[k] :: a.drop (k + 1) := by rw [← List.drop_eq_getElem_cons ha, List.take_append_drop]
  have h2 : b = a.take k ++ b[k] :: b.drop (k + 1) := by rw [hk, ← List.drop_eq_getElem_cons hb, List.take_append_drop]
  have h3 : Lib.compareBytes a b = Lib.compareBytes (a[k] :: a.drop (k + 1)) (b[k] :: b.drop (k + 1)) := by
    conv => lhs; rw [h1, h2]
    exact Bw.cmp_app _ _ _
  rw [decide_eq_decide]
  unfold Bw.lt
  rw [h3]
  simp only [Lib.compareBytes]
  have hh : ¬ (a[k].toNat = b[k].toNat) := fun e => hne (UInt8.toNat_inj.1 e)
  by_cases c : a[k] < b[k]
  · have := UInt8.lt_iff_toNat_lt.1 c
    simp only [c, if_true, true_iff]; omega
  · have h4 : ¬ a[k].toNat < b[k].toNat := fun e => c (UInt8.lt_iff_toNat_lt.2 e)
    have c2 : b[k] < a[k] := UInt8.lt_iff_toNat_lt.2 (by omega)
    simp only [c, c2, if_true, if_false]; omega

theorem _root_.Bw.lt_end {a b : Bw.Bytes} {k : Nat} (hk : a.take k = b.take k) (h : k = a.length ∨ k = b.length) (ha : k ≤ a.length) (hb : k ≤ b.length) : decide (Bw.lt a b) = decide (a.length < b.length) := by
  have h1 : a = a.take k ++ a.drop k := (List.take_append_drop _ _).symm
  have h2 : b = a.take k ++ b.drop k := by rw [hk, List.take_append_drop]
  have h3 : Lib.compareBytes a b = Lib.compareBytes (a.drop k) (b.drop k) := by
    conv => lhs; rw [h1, h2]
    exact Bw.cmp_app _ _ _
  rw [decide_eq_decide]
  unfold Bw.lt
  rw [h3]
  rcases h with h | h
  · rw [List.drop_eq_nil_of_le (by omega)]
    rcases hd : b.drop k with _ | ⟨x, r⟩
    · have := congrArg List.length hd
      simp only [List.length_drop, List.length_nil] at this
      simp only [Lib.compareBytes]
      omega
    · have := congrArg List.length hd
      simp only [List.length_drop, List.length_cons] at this
      simp only [Lib.compareBytes, true_iff]
      omega
  · rw [show b.drop k = [] from List.drop_eq_nil_of_le (by omega)]
    rcases a.drop k with _ | ⟨x, r⟩
    · simp only [Lib.compareBytes]; omega
    · simp only [Lib.compareBytes]; omega

abbrev tb (a : ByteArray) : Bw.Bytes := a.data.toList

def LessRel (a b : ByteArray) (w : World) (i : Value) (wr : World) : Prop :=
  ∃ (k n : Nat), k ≤ a.size ∧ k ≤ b.size ∧ i = .int .i64 k ∧ (tb a).take k = (tb b).take k ∧ wr = w.drewN n

set_option maxRecDepth 100000 in
set_option maxHeartbeats 400000 in
theorem less_any (a b : ByteArray) (w : World) (ha : a.size ≤ 1048576) (_hb : b.size ≤ 1048576) :
    Calls Tryd.prog 41 #[.string a, .string b] w fun e w' => e = .returned (.bool (decide (Bw.lt (tb a) (tb b)))) ∧ ∃ n, w' = w.drewN n := by
  have H0 : Hid (LessRel a b w (.int .i64 0) w) := Lib.hid ⟨0, 0, Nat.zero_le _, Nat.zero_le _, rfl, rfl, rfl⟩
  go_enter Tryd.func41, Tryd.ntmps41
  go_wp2_with fail
  go_loopw [5] (LessRel a b w) (fun i _ => a.size - (intOf i).toNat)
  case atStart => exact H0.out
  case round =>
    obtain ⟨k, n, hka, hkb, rfl, htk, rfl⟩ := hrel
    have HT := Lib.hid htk
    clear htk H0
    by_cases h1 : k < a.size
    · have h2 : (k : Int) < (a.size : Int) := by omega
      have h3 : (0 : Int) ≤ (k : Int) := by omega
      by_cases h4 : k < b.size
      · have h5 : (k : Int) < (b.size : Int) := by omega
        have e1 : (tb a)[k]'(by simpa using h1) = a[k] := by simp [tb, ByteArray.getElem_eq_getElem_data]
        have e2 : (tb b)[k]'(by simpa using h4) = b[k] := by simp [tb, ByteArray.getElem_eq_getElem_data]
        by_cases hx : a[k] = b[k]
        · have hx1 : (((a[k].toNat : Nat) : Int) == ((b[k].toNat : Nat) : Int)) = true := by rw [hx]; exact beq_self_eq_true _
          have HT2 : Hid ((tb a).take (k + 1) = (tb b).take (k + 1)) := Lib.hid (by
            rw [List.take_succ_eq_append_getElem (by simpa using h1), List.take_succ_eq_append_getElem (by simpa using h4), HT.out, e1, e2, hx])
          clear hx e1 e2
          go_wp2_with fail
          go_quiet (fail)
          go_wp2
          exact ⟨⟨k + 1, _, h1, h4, by rw [Int.natCast_add]; rfl, HT2.out, rfl⟩, by simp only [intOf]; omega⟩
        · have hx1 : (((a[k].toNat : Nat) : Int) == ((b[k].toNat : Nat) : Int)) = false := beq_eq_false_iff_ne.2 (fun e => hx (UInt8.toNat_inj.1 (by omega)))
          have HL := Lib.hid (Bw.lt_at HT.out (by simpa using h1) (by simpa using h4) (by rw [e1, e2]; exact hx))
          rw [e1, e2] at HL
          clear hx e1 e2
          go_wp2_with fail
          go_quiet (fail)
          go_wp2_with fail
          go_quiet (fail)
          go_wp2
          go_ret
          exact ⟨by rw [HL.out]; rfl, _, by rw [World.drewN_drewN, World.drewN_drewN]⟩
      · have h5 : ¬ (k : Int) < (b.size : Int) := by omega
        have HL := Lib.hid (Bw.lt_end HT.out (.inr (by simp; omega)) (by simpa using hka) (by simpa using hkb))
        clear h4
        go_wp2
        go_ret
        exact ⟨by rw [HL.out]; simp, _, rfl⟩
    · have h5 : ¬ (k : Int) < (a.size : Int) := by omega
      have HL := Lib.hid (Bw.lt_end HT.out (.inl (by simp; omega)) (by simpa using hka) (by simpa using hkb))
      clear h1
      go_wp2
      go_ret
      exact ⟨by rw [HL.out]; simp, _, rfl⟩
end Go.Proofs.YtehkjnmnbplcoaaDoor
