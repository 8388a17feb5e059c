
import Derived.Test.YtehkjnmnbplcoaaDoorRef3
namespace Go.Proofs.YtehkjnmnbplcoaaDoor
open Go.RowKit Go.Bw

theorem _root_.Bw.come_succ {l : List Bw.PV} {k : Nat} (h : k < l.length) : Bw.come (l.take (k + 1)) = Bw.put (Bw.come (l.take k)) l[k] := by
  unfold Bw.come
  rw [take_succ_snoc h, List.foldl_append]; rfl
theorem _root_.Bw.mem_come {l : List Bw.PV} {x : Bw.PV} (h : x ∈ Bw.come l) : x ∈ l := by
  suffices hh : ∀ m, x ∈ l.foldl Bw.put m → x ∈ m ∨ x ∈ l by
    rcases hh [] h with h | h
    · simp at h
    · exact h
  clear h
  induction l with
  | nil => intro m h; exact .inl h
  | cons p r ih =>
    intro m h
    rcases ih _ h with h | h
    · rcases Bw.mem_put h with rfl | h
      · exact .inr (by simp)
      · exact .inl h
    · exact .inr (List.mem_cons_of_mem _ h)
theorem _root_.Bw.length_put (m : List Bw.PV) (p : Bw.PV) : (Bw.put m p).length ≤ m.length + 1 := by
  induction m with
  | nil => simp [Bw.put]
  | cons q r ih =>
    simp only [Bw.put]
    split
    · simp; omega
    · split <;> simp
theorem _root_.Bw.length_come (l : List Bw.PV) : (Bw.come l).length ≤ l.length := by
  suffices hh : ∀ m, (l.foldl Bw.put m).length ≤ m.length + l.length by have := hh []; simpa [Bw.come] using this
  induction l with
  | nil => intro m; simp
  | cons p r ih => intro m; have := ih (Bw.put m p); have := Bw.length_put m p; simp; omega

def RComeRel (l : List Bw.PV) (w : World) (v i : Value) (wr : World) : Prop :=
  ∃ k : Nat, k ≤ l.length ∧ i = .int .i64 k ∧ SPairsAt (fun k => w.heap.size ≤ k) wr v (Bw.come (l.take k)) ∧ Below w.heap.size w wr

def IsRel (l m : List Bw.PV) (w : World) (i : Value) (wr : World) : Prop :=
  ∃ (k n : Nat), k ≤ m.length ∧ i = .int .i64 k ∧ l.take k = m.take k ∧ wr = w.drewN n

set_option maxRecDepth 100000 in
set_option maxHeartbeats 400000 in
theorem ris_any {ok ok' : Nat → Prop} {l m : List Bw.PV} {u v : Value} {w : World} (hl : l.length ≤ 1048576) (hr : PairsAt ok w u l) (hm : SPairsAt ok' w v m) :
    Calls Tryd.prog 48 #[u, v] w fun e w' => e = .returned (.bool (decide (l = m))) ∧ ∃ n, w' = w.drewN n := by
  obtain ⟨A, c, rfl⟩ := hr.form
  obtain ⟨A2, c2, rfl⟩ := hm.form
  by_cases hlen : l.length = m.length
  · have HL := Lib.hid hl
    have HR := Lib.hid hr
    have HM := Lib.hid hm
    have HLEN := Lib.hid hlen
    have H0 : Hid (IsRel l m w (.int .i64 0) w) := Lib.hid ⟨0, 0, Nat.zero_le _, rfl, rfl, rfl⟩
    have hb : ((l.length : Int) != (m.length : Int)) = false := by rw [bne_eq_false_iff_eq]; omega
    clear hl hr hlen hm
    go_enter Tryd.func48, Tryd.ntmps48
    go_wp2_with fail
    go_loopw [13] (IsRel l m w) (fun i _ => m.length - (intOf i).toNat)
    case atStart => exact H0.out
    case round =>
      obtain ⟨k, n, hk, rfl, htk, rfl⟩ := hrel
      have HT := Lib.hid htk
      clear htk H0
      by_cases hlt : k < m.length
      · have hlt2 : k < l.length := by rw [HLEN.out]; exact hlt
        obtain ⟨b, o, u1, u2, rfl, hob, c0, c1, hu, hv⟩ := pair_get HR.out (List.getElem?_eq_getElem hlt2)
        obtain ⟨b2, o2, rfl, hob2, d0, d1⟩ := sp_get HM.out (List.getElem?_eq_getElem hlt)
        obtain ⟨U1, cu1, rfl⟩ := hu.form
        obtain ⟨U2, cu2, rfl⟩ := hv.form
        have q1 := fun i => run_conv (P := Tryd.prog) 29 9 5 Tryd.underlying29 Tryd.underlying5 Tryd.underlying9 (hu.move goodByte (Moves.drewN _ i))
        have q2 := fun i => run_conv (P := Tryd.prog) 29 9 5 Tryd.underlying29 Tryd.underlying5 Tryd.underlying9 (hv.move goodByte (Moves.drewN _ i))
        have h0 : (0 : Int) ≤ (k : Int) := by omega
        have h1 : (k : Int) < (m.length : Int) := by omega
        have h2 : (k : Int) < (l.length : Int) := by omega
        have hal : l.take (k + 1) = l.take k ++ [l[k]] := take_succ_snoc hlt2
        have ham : m.take (k + 1) = m.take k ++ [m[k]] := take_succ_snoc hlt
        have hneq : l[k] ≠ m[k] → l ≠ m := fun hne e => hne (by subst e; rfl)
        generalize l[k] = p at *
        generalize m[k] = q at *
        obtain ⟨px, py⟩ := p
        obtain ⟨qx, qy⟩ := q
        simp only [str] at d0 d1 q1 q2 c0 c1 hu hv
        have HAL := Lib.hid hal; have HAM := Lib.hid ham; have HNE := Lib.hid hneq
        clear hu hv hal ham hneq
        by_cases hx : px = qx
        · subst hx
          by_cases hy : py = qy
          · subst hy
            go_wp2_with fail
            go_quiet (fail)
            go_wp2
            exact ⟨⟨k + 1, _, hlt, int_succ hlt (by have := HL.out; have := HLEN.out; omega), by rw [HAL.out, HAM.out, HT.out], rfl⟩, less_succ hlt (by have := HL.out; have := HLEN.out; omega)⟩
          · have hxb : (py == qy) = false := beq_eq_false_iff_ne.2 hy
            have HNL : Hid (l ≠ m) := Lib.hid (HNE.out (by simpa using hy))
            clear hy
            go_wp2_with fail
            go_quiet (fail)
            go_wp2
            go_ret
            exact ⟨by rw [decide_eq_false HNL.out]; rfl, _, by rw [World.drewN_drewN]⟩
        · have hxb : (px == qx) = false := beq_eq_false_iff_ne.2 hx
          have HNL : Hid (l ≠ m) := Lib.hid (HNE.out (by simp [hx]))
          clear hx
          go_wp2_with fail
          go_quiet (fail)
          go_wp2
          go_ret
          exact ⟨by rw [decide_eq_false HNL.out]; rfl, _, by rw [World.drewN_drewN]⟩
      · obtain rfl : k = m.length := by omega
        have hlm : Hid (l = m) := Lib.hid (by have h := HT.out; rw [List.take_length, ← HLEN.out, List.take_length] at h; exact h)
        clear hlt
        go_wp2
        go_ret
        exact ⟨by rw [decide_eq_true hlm.out]; rfl, _, rfl⟩
  · have hb : ((l.length : Int) != (m.length : Int)) = true := by rw [bne_iff_ne]; omega
    have hne : Hid (l ≠ m) := Lib.hid (fun e => hlen (by rw [e]))
    clear hl hr hlen hm
    go_enter Tryd.func48, Tryd.ntmps48
    go_wp2
    go_ret
    exact ⟨by rw [decide_eq_false hne.out]; rfl, 0, rfl⟩
end Go.Proofs.YtehkjnmnbplcoaaDoor
