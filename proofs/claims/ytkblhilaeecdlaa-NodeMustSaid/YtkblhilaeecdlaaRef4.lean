import Derived.Test.YtkblhilaeecdlaaRef3
namespace Go.Proofs.Ytkblhilaeecdlaa
open Go.RowKit Go.Bw

theorem _root_.Bw.come_succ {l : List Bw.PV} {k : Nat} (h : k < l.length) : Bw.come (l.take (k + 1)) = Bw.put (Bw.come (l.take k)) l[k] := by
  unfold Bw.come
  rw [take_succ_snoc h, List.foldl_append]; rfl
theorem _root_.Bw.mem_come {l : List Bw.PV} {x : Bw.PV} (h : x ∈ Bw.come l) : x ∈ l := by
  suffices hh : ∀ m, x ∈ l.foldl Bw.put m → x ∈ m ∨ x ∈ l by
    rcases hh [] h with h | h
    · simp at h
    · exact h
  clear h
  induction l with
  | nil => intro m h; exact .inl h
  | cons p r ih =>
    intro m h
    rcases ih _ h with h | h
    · rcases Bw.mem_put h with rfl | h
      · exact .inr (by simp)
      · exact .inl h
    · exact .inr (List.mem_cons_of_mem _ h)
theorem _root_.Bw.length_put (m : List Bw.PV) (p : Bw.PV) : (Bw.put m p).length ≤ m.length + 1 := by
  induction m with
  | nil => simp [Bw.put]
  | cons q r ih =>
    simp only [Bw.put]
    split
    · simp; omega
    · split <;> simp
theorem _root_.Bw.length_come (l : List Bw.PV) : (Bw.come l).length ≤ l.length := by
  suffices hh : ∀ m, (l.foldl Bw.put m).length ≤ m.length + l.length by have := hh []; simpa [Bw.come] using this
  induction l with
  | nil => intro m; simp
  | cons p r ih => intro m; have := ih (Bw.put m p); have := Bw.length_put m p; simp; omega

def RComeRel (l : List Bw.PV) (w : World) (v i : Value) (wr : World) : Prop :=
  ∃ k : Nat, k ≤ l.length ∧ i = .int .i64 k ∧ SPairsAt (fun k => w.heap.size ≤ k) wr v (Bw.come (l.take k)) ∧ Below w.heap.size w wr

set_option maxRecDepth 100000 in
set_option maxHeartbeats 400000 in
theorem rcome_any {ok : Nat → Prop} {l : List Bw.PV} {v : Value} {w : World} (hl : l.length ≤ 1048576) (hp : ∀ p ∈ l, p.1.length ≤ 1048576) (hr : SPairsAt ok w v l) :
    Calls Try.prog 18 #[v] w (Gives w fun q w' => SPairsAt (fun k => w.heap.size ≤ k) w' q (Bw.come l)) := by
  obtain ⟨A, c, rfl⟩ := hr.form
  have HL := Lib.hid hl
  have HR := Lib.hid hr
  have HP := Lib.hid hp
  have H0 : Hid (RComeRel l w (.slice none 0 0) (.int .i64 0) w) := Lib.hid ⟨0, Nat.zero_le _, rfl, RowAt.nil, Below.refl _ _⟩
  clear hl hr hp
  go_enter Try.func18, Try.ntmps18
  go_wp2_with fail
  go_loopw [3, 8] (RComeRel l w) (fun _ i _ => l.length - (intOf i).toNat)
  case atStart => exact H0.out
  case round =>
    obtain ⟨k, hk, rfl, hrow, hB⟩ := hrel
    by_cases hlt : k < l.length
    · obtain ⟨b, o, rfl, hob, c0, c1⟩ := sp_get HR.out (List.getElem?_eq_getElem hlt)
      have hbl := World.block_lt_of_cell? w _ c0
      dsimp only at hbl
      have d0 := (hB.cell (p := ⟨b, o + k * 2, none⟩) hbl).trans c0
      have d1 := (hB.cell (p := ⟨b, o + k * 2 + 1, none⟩) hbl).trans c1
      have hbl2 : b < wr.heap.size := Nat.lt_of_lt_of_le hbl hB.size
      have h0 : (0 : Int) ≤ (k : Int) := by omega
      have h1 : (k : Int) < (l.length : Int) := by omega
      have hsucc := Bw.come_succ hlt
      have hKq := HP.out l[k] (List.getElem_mem hlt)
      have hlc := Bw.length_come (l.take k)
      have hml : ∀ q ∈ Bw.come (l.take k), q.1.length ≤ 1048576 := fun q hq => HP.out q (List.mem_of_mem_take (Bw.mem_come hq))
      have hrs := Bw.rises_come (l.take k)
      generalize l[k] = q at *
      obtain ⟨qx, qy⟩ := q
      simp only [str] at d0 d1 hKq
      have CP := Lib.hid (fun W (hW : Below wr.heap.size wr W) => rput_any (py := qy) (by rw [List.length_take] at hlc; have := HL.out; omega) hKq hml (hrow.move goodSp (Moves.below hW)) hrs)
      have HS := Lib.hid hsucc
      have HBB := Lib.hid hB
      clear c0 c1 hB hsucc hlc hml hrs hrow
      go_wp2_with fail
      refine (CP.out _ (by (repeat (first | exact Below.refl _ _ | with_reducible assumption | refine Below.drew ?_ | refine b_drewN ?_ _ | (refine Below.alloc ?_ (by simp) _) | (refine Below.alloc ?_ (by simp; omega) _))))).mono ?_
      rintro e w1 ⟨q, rfl, hq, hb1⟩
      have HQ := Lib.hid hq
      have HB1 := Lib.hid hb1
      clear hq hb1
      go_wp2
      have hwr : Below wr.heap.size wr w1 := Below.trans (b := wr.alloc (.cells #[.string ⟨qx.toArray⟩, .string ⟨qy.toArray⟩] 73)) (by (repeat (first | exact Below.refl _ _ | with_reducible assumption | refine Below.drew ?_ | refine b_drewN ?_ _ | (refine Below.alloc ?_ (by simp) _) | (refine Below.alloc ?_ (by simp; omega) _)))) (HB1.out.mono (by simp))
      exact ⟨⟨k + 1, hlt, int_succ hlt HL.out, by rw [HS.out]; exact HQ.out.weaken goodSp (fun k hk => Nat.le_trans (Nat.le_trans HBB.out.size (by simp)) hk), HBB.out.trans (hwr.mono HBB.out.size)⟩, less_succ hlt HL.out⟩
    · obtain rfl : k = l.length := by omega
      rw [List.take_length] at hrow
      have HROW := Lib.hid hrow
      clear hrow
      go_wp2
      go_ret
      exact ⟨_, rfl, HROW.out, hB⟩

def IsRel (l m : List Bw.PV) (w : World) (i : Value) (wr : World) : Prop :=
  ∃ (k n : Nat), k ≤ m.length ∧ i = .int .i64 k ∧ l.take k = m.take k ∧ wr = w.drewN n

set_option maxRecDepth 100000 in
set_option maxHeartbeats 400000 in
theorem ris_any {ok ok' : Nat → Prop} {l m : List Bw.PV} {u v : Value} {w : World} (hl : l.length ≤ 1048576) (hr : PairsAt ok w u l) (hm : SPairsAt ok' w v m) :
    Calls Try.prog 14 #[u, v] w fun e w' => e = .returned (.bool (decide (l = m))) ∧ ∃ n, w' = w.drewN n := by
  obtain ⟨A, c, rfl⟩ := hr.form
  obtain ⟨A2, c2, rfl⟩ := hm.form
  by_cases hlen : l.length = m.length
  · have HL := Lib.hid hl
    have HR := Lib.hid hr
    have HM := Lib.hid hm
    have HLEN := Lib.hid hlen
    have H0 : Hid (IsRel l m w (.int .i64 0) w) := Lib.hid ⟨0, 0, Nat.zero_le _, rfl, rfl, rfl⟩
    have hb : ((l.length : Int) != (m.length : Int)) = false := by rw [bne_eq_false_iff_eq]; omega
    clear hl hr hlen hm
    go_enter Try.func14, Try.ntmps14
    go_wp2_with fail
    go_loopw [13] (IsRel l m w) (fun i _ => m.length - (intOf i).toNat)
    case atStart => exact H0.out
    case round =>
      obtain ⟨k, n, hk, rfl, htk, rfl⟩ := hrel
      have HT := Lib.hid htk
      clear htk H0
      by_cases hlt : k < m.length
      · have hlt2 : k < l.length := by rw [HLEN.out]; exact hlt
        obtain ⟨b, o, u1, u2, rfl, hob, c0, c1, hu, hv⟩ := pair_get HR.out (List.getElem?_eq_getElem hlt2)
        obtain ⟨b2, o2, rfl, hob2, d0, d1⟩ := sp_get HM.out (List.getElem?_eq_getElem hlt)
        obtain ⟨U1, cu1, rfl⟩ := hu.form
        obtain ⟨U2, cu2, rfl⟩ := hv.form
        have q1 := fun i => run_conv (P := Try.prog) 52 9 5 Try.underlying52 Try.underlying5 Try.underlying9 (hu.move goodByte (Moves.drewN _ i))
        have q2 := fun i => run_conv (P := Try.prog) 52 9 5 Try.underlying52 Try.underlying5 Try.underlying9 (hv.move goodByte (Moves.drewN _ i))
        have h0 : (0 : Int) ≤ (k : Int) := by omega
        have h1 : (k : Int) < (m.length : Int) := by omega
        have h2 : (k : Int) < (l.length : Int) := by omega
        have hal : l.take (k + 1) = l.take k ++ [l[k]] := take_succ_snoc hlt2
        have ham : m.take (k + 1) = m.take k ++ [m[k]] := take_succ_snoc hlt
        have hneq : l[k] ≠ m[k] → l ≠ m := fun hne e => hne (by subst e; rfl)
        generalize l[k] = p at *
        generalize m[k] = q at *
        obtain ⟨px, py⟩ := p
        obtain ⟨qx, qy⟩ := q
        simp only [str] at d0 d1 q1 q2 c0 c1 hu hv
        have HAL := Lib.hid hal; have HAM := Lib.hid ham; have HNE := Lib.hid hneq
        clear hu hv hal ham hneq
        by_cases hx : px = qx
        · subst hx
          by_cases hy : py = qy
          · subst hy
            go_wp2_with fail
            go_quiet (fail)
            go_wp2
            exact ⟨⟨k + 1, _, hlt, int_succ hlt (by have := HL.out; have := HLEN.out; omega), by rw [HAL.out, HAM.out, HT.out], rfl⟩, less_succ hlt (by have := HL.out; have := HLEN.out; omega)⟩
          · have hxb : (py == qy) = false := beq_eq_false_iff_ne.2 hy
            have HNL : Hid (l ≠ m) := Lib.hid (HNE.out (by simpa using hy))
            clear hy
            go_wp2_with fail
            go_quiet (fail)
            go_wp2
            go_ret
            exact ⟨by rw [decide_eq_false HNL.out]; rfl, _, by rw [World.drewN_drewN]⟩
        · have hxb : (px == qx) = false := beq_eq_false_iff_ne.2 hx
          have HNL : Hid (l ≠ m) := Lib.hid (HNE.out (by simp [hx]))
          clear hx
          go_wp2_with fail
          go_quiet (fail)
          go_wp2
          go_ret
          exact ⟨by rw [decide_eq_false HNL.out]; rfl, _, by rw [World.drewN_drewN]⟩
      · obtain rfl : k = m.length := by omega
        have hlm : Hid (l = m) := Lib.hid (by have h := HT.out; rw [List.take_length, ← HLEN.out, List.take_length] at h; exact h)
        clear hlt
        go_wp2
        go_ret
        exact ⟨by rw [decide_eq_true hlm.out]; rfl, _, rfl⟩
  · have hb : ((l.length : Int) != (m.length : Int)) = true := by rw [bne_iff_ne]; omega
    have hne : Hid (l ≠ m) := Lib.hid (fun e => hlen (by rw [e]))
    clear hl hr hlen hm
    go_enter Try.func14, Try.ntmps14
    go_wp2
    go_ret
    exact ⟨by rw [decide_eq_false hne.out]; rfl, 0, rfl⟩
end Go.Proofs.Ytkblhilaeecdlaa
