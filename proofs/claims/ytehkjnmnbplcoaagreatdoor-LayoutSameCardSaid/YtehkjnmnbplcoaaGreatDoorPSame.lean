
import Derived.Test.YtehkjnmnbplcoaaGreatDoorSpot
import Derived.Test.YtehkjnmnbplcoaaGreatDoorListA
import Derived.Shelf.Abstract
namespace Go.Proofs.YtehkjnmnbplcoaaGreatDoor
open Go.RowKit Go.Bw Go.Shelf

theorem dec_beq (a b : Bw.Bytes) : decide (a = b) = (a == b) := by by_cases h : a = b <;> simp [h]

set_option maxRecDepth 100000 in
set_option maxHeartbeats 400000 in
theorem beq_any {ok ok' : Nat → Prop} {u v : Value} {a b : Bw.Bytes} (w : World) (hu : BytesAt ok w u a) (hv : BytesAt ok' w v b) :
    Calls Tryz.prog 55 #[u, v] w fun e w' => e = .returned (.bool (decide (a = b))) ∧ w = w' := by
  have h1 := run_conv (P := Tryz.prog) 29 9 5 Tryz.underlying29 Tryz.underlying5 Tryz.underlying9 hu
  have h2 := run_conv (P := Tryz.prog) 29 9 5 Tryz.underlying29 Tryz.underlying5 Tryz.underlying9 hv
  obtain ⟨A1, c1, rfl⟩ := hu.form
  obtain ⟨A2, c2, rfl⟩ := hv.form
  clear hu hv
  go_enter Tryz.func55, Tryz.ntmps55
  go_wp2
  go_ret
  exact ⟨by rw [dec_beq]; rfl, rfl⟩

set_option maxRecDepth 100000 in
set_option maxHeartbeats 400000 in
theorem psame1_any {ok ok' : Nat → Prop} {u v u' v' : Value} {p q : Bw.PV} (w : World) (hu : BytesAt ok w u p.1) (hv : BytesAt ok w v p.2) (hu' : BytesAt ok' w u' q.1) (hv' : BytesAt ok' w v' q.2) :
    Calls Tryz.prog 54 #[.agg #[u, v], .agg #[u', v']] w fun e w' => e = .returned (.bool (decide (p = q))) ∧ Below w.heap.size w w' := by
  obtain ⟨W, hW⟩ : ∃ W, (w.alloc (.cells #[u, v] 31)).alloc (.cells #[u', v'] 31) = W := ⟨_, rfl⟩
  have hB : Below w.heap.size w W := by rw [← hW]; (repeat (first | exact Below.refl _ _ | with_reducible assumption | refine Below.drew ?_ | (refine Below.alloc ?_ (by simp) _) | (refine Below.alloc ?_ (by simp; omega) _)))
  have C1 := Lib.hid (beq_any W (hu.move goodByte (Moves.below hB)) (hu'.move goodByte (Moves.below hB)))
  have C2 := Lib.hid (beq_any W (hv.move goodByte (Moves.below hB)) (hv'.move goodByte (Moves.below hB)))
  have x0 : W.cell? ⟨w.heap.size, 0, none⟩ = some u := by subst hW; go_simp
  have x1 : W.cell? ⟨w.heap.size, 1, none⟩ = some v := by subst hW; go_simp
  have y0 : W.cell? ⟨w.heap.size + 1, 0, none⟩ = some u' := by subst hW; go_simp
  have y1 : W.cell? ⟨w.heap.size + 1, 1, none⟩ = some v' := by subst hW; go_simp
  have HB := Lib.hid hB
  have HP := Lib.hid (show decide (p = q) = (decide (p.1 = q.1) && decide (p.2 = q.2)) by rw [Bool.eq_iff_iff]; simp [Prod.ext_iff])
  obtain ⟨A1, c1, rfl⟩ := hu.form
  obtain ⟨A2, c2, rfl⟩ := hv.form
  obtain ⟨A3, c3, rfl⟩ := hu'.form
  obtain ⟨A4, c4, rfl⟩ := hv'.form
  clear hu hv hu' hv' hB
  generalize decide (p.1 = q.1) = b1 at *
  generalize decide (p.2 = q.2) = b2 at *
  cases b1 with
  | true =>
    go_enter Tryz.func54, Tryz.ntmps54
    go_wp2_with fail
    refine C1.out.mono ?_
    rintro e w1 ⟨rfl, rfl⟩
    go_wp2_with fail
    refine C2.out.mono ?_
    rintro e w1 ⟨rfl, rfl⟩
    go_wp2
    go_ret
    exact ⟨by rw [HP.out]; rfl, HB.out⟩
  | false =>
    go_enter Tryz.func54, Tryz.ntmps54
    go_wp2_with fail
    refine C1.out.mono ?_
    rintro e w1 ⟨rfl, rfl⟩
    go_wp2
    go_ret
    exact ⟨by rw [HP.out]; rfl, HB.out⟩

def PEqRel (a b : List Bw.PV) (w : World) (i : Value) (wr : World) : Prop := ∃ k : Nat, k ≤ a.length ∧ i = .int .i64 k ∧ a.take k = b.take k ∧ Below w.heap.size w wr

set_option maxRecDepth 100000 in
set_option maxHeartbeats 1000000 in
theorem peqf_any {ok ok' : Nat → Prop} {u v : Value} {a b : List Bw.PV} {w : World} (ha : PairsAt ok w u a) (hb : PairsAt ok' w v b) (hl : a.length ≤ 1048576) :
    Calls Tryz.prog 53 #[u, v, .func (.func 54) #[] #[]] w fun e w' => e = .returned (.bool (decide (a = b))) ∧ Below w.heap.size w w' := by
  obtain ⟨A, ca, rfl⟩ := ha.form
  obtain ⟨B, cb, rfl⟩ := hb.form
  by_cases hlen : a.length = b.length
  · have hne : ((a.length : Int) != (b.length : Int)) = false := by rw [bne_eq_false_iff_eq]; omega
    have HA := Lib.hid ha; have HB := Lib.hid hb; have HL := Lib.hid hl; have HLEN := Lib.hid hlen
    have H0 : Hid (PEqRel a b w (.int .i64 0) w) := Lib.hid ⟨0, Nat.zero_le _, rfl, by simp, Below.refl _ _⟩
    clear ha hb hl hlen
    go_enter Tryz.func53, Tryz.ntmps53
    go_wp2_with fail
    go_loopw [17] (PEqRel a b w) (fun i _ => a.length - (intOf i).toNat)
    case atStart => exact H0.out
    case round =>
      obtain ⟨k, hk, rfl, hpre, hB⟩ := hrel
      have hlen := HLEN.out
      by_cases hlt : k < a.length
      · obtain ⟨ba, oa, u1, u2, rfl, hoa, c0, c1, hu1, hu2⟩ := pair_get HA.out (List.getElem?_eq_getElem hlt)
        obtain ⟨bb, ob, v1, v2, rfl, hob, d0, d1, hv1, hv2⟩ := pair_get HB.out (List.getElem?_eq_getElem (show k < b.length by omega))
        have hba := World.block_lt_of_cell? w _ c0
        have hbb := World.block_lt_of_cell? w _ d0
        dsimp only at hba hbb
        have x0 := (hB.cell (p := ⟨ba, oa + k * 2, none⟩) hba).trans c0
        have x1 := (hB.cell (p := ⟨ba, oa + k * 2 + 1, none⟩) hba).trans c1
        have y0 := (hB.cell (p := ⟨bb, ob + k * 2, none⟩) hbb).trans d0
        have y1 := (hB.cell (p := ⟨bb, ob + k * 2 + 1, none⟩) hbb).trans d1
        have hba2 : ba < wr.heap.size := Nat.lt_of_lt_of_le hba hB.size
        have hbb2 : bb < wr.heap.size := Nat.lt_of_lt_of_le hbb hB.size
        have h0 : (0 : Int) ≤ (k : Int) := by omega
        have h1 : (k : Int) < (a.length : Int) := by omega
        have h2 : (k : Int) < (b.length : Int) := by omega
        have CS := Lib.hid (fun W (hW : Below w.heap.size w W) => psame1_any (p := a[k]) (q := b[k]) W (hu1.move goodByte (Moves.below hW)) (hu2.move goodByte (Moves.below hW)) (hv1.move goodByte (Moves.below hW)) (hv2.move goodByte (Moves.below hW)))
        have HST := Lib.hid (fun e : a[k] = b[k] => take_step hlt (by omega) hpre e)
        have HNE := Lib.hid (show a[k] ≠ b[k] → decide (a = b) = false from fun hn => by rw [decide_eq_false_iff_not]; rintro rfl; exact hn rfl)
        have HBW := Lib.hid hB
        obtain ⟨U1, e1, rfl⟩ := hu1.form
        obtain ⟨U2, e2, rfl⟩ := hu2.form
        obtain ⟨V1, e3, rfl⟩ := hv1.form
        obtain ⟨V2, e4, rfl⟩ := hv2.form
        have hE := enters_of Tryz.func54 (by kernel_rfl) rfl
        generalize a[k] = p at *
        generalize b[k] = q at *
        clear hpre c0 c1 d0 d1 hB hu1 hu2 hv1 hv2 hlen
        go_wp2_with fail
        refine (CS.out _ (HBW.out.trans (Below.mono (by (repeat (first | exact Below.refl _ _ | with_reducible assumption | refine Below.drew ?_ | refine b_drewN ?_ _ | (refine Below.alloc ?_ (by first | omega | (simp <;> omega)) _)))) HBW.out.size))).mono ?_
        rintro e w2 ⟨rfl, hb2⟩
        have HB2 := Lib.hid (HBW.out.trans ((Below.trans (by (repeat (first | exact Below.refl _ _ | with_reducible assumption | refine Below.drew ?_ | refine b_drewN ?_ _ | (refine Below.alloc ?_ (by first | omega | (simp <;> omega)) _)))) (hb2.mono (by first | omega | (simp <;> omega))) : Below wr.heap.size wr w2).mono HBW.out.size))
        clear hb2
        cases hd : decide (p = q) with
        | true =>
          go_wp2
          exact ⟨⟨k + 1, hlt, int_succ hlt HL.out, HST.out (of_decide_eq_true hd), HB2.out⟩, less_succ hlt HL.out⟩
        | false =>
          go_wp2
          go_ret
          exact ⟨by rw [HNE.out (of_decide_eq_false hd)]; rfl, HB2.out⟩
      · obtain rfl : k = a.length := by omega
        rw [List.take_length, hlen, List.take_length] at hpre
        have HP := Lib.hid hpre
        clear hpre
        go_wp2
        go_ret
        exact ⟨by rw [HP.out, decide_eq_true rfl]; rfl, hB⟩
  · have hne : ((a.length : Int) != (b.length : Int)) = true := by rw [bne_iff_ne]; omega
    have HF := Lib.hid (show decide (a = b) = false by rw [decide_eq_false_iff_not]; rintro rfl; exact hlen rfl)
    clear ha hb hl
    go_enter Tryz.func53, Tryz.ntmps53
    go_wp2
    go_ret
    exact ⟨by rw [HF.out]; rfl, Below.refl _ _⟩

set_option maxRecDepth 100000 in
set_option maxHeartbeats 400000 in
theorem psame_any {ok ok' : Nat → Prop} {u v : Value} {a b : List Bw.PV} {w : World} (ha : PairsAt ok w u a) (hb : PairsAt ok' w v b) (hl : a.length ≤ 1048576) :
    Calls Tryz.prog 26 #[u, v] w fun e w' => e = .returned (.bool (decide (a = b))) ∧ Below w.heap.size w w' := by
  have C := Lib.hid (peqf_any ha hb hl)
  obtain ⟨A, ca, rfl⟩ := ha.form
  obtain ⟨B, cb, rfl⟩ := hb.form
  clear ha hb hl
  generalize decide (a = b) = z at *
  go_enter Tryz.func26, Tryz.ntmps26
  go_wp2_with fail
  refine C.out.mono ?_
  rintro e w1 ⟨rfl, hb1⟩
  go_wp2
  go_ret
  exact ⟨rfl, hb1⟩
end Go.Proofs.YtehkjnmnbplcoaaGreatDoor
