
import Derived.Test.YtkblhilaeecdlaaDoorFit
import Derived.Test.YtkblhilaeecdlaaDoorRRight
import Derived.Deep.RegionHeld3
import Derived.Deep.QuietTactic
namespace Go.Proofs.YtkblhilaeecdlaaDoor
open Go.RowKit Go.Bw

theorem kind0 (o : Option Bw.N) : (Bw.absO o).kind = 0 ↔ o = none := by
  cases o with
  | none => exact ⟨fun _ => rfl, fun _ => rfl⟩
  | some n => cases n <;> simp [Bw.absO, Bw.N.abs, Bw.X.kind]

def LoopRel (l : List Bw.Plan) (w : World) (i : Value) (wr : World) : Prop := ∃ k : Nat, k ≤ l.length ∧ i = .int .i64 k ∧ Below w.heap.size w wr

set_option maxRecDepth 100000 in
set_option maxHeartbeats 2000000 in
theorem rights_any {l : List Bw.Plan} {v : Value} {w : World} {bf : Nat → Option Bw.N} (level : Int) (hr : PlansAt AllB w v l) (hT : Tab w) (hb : fineB l = true → RBuilds l v w bf) :
    Calls Tryd.prog 3 #[v, .int .i64 level] w fun e w' => e = .returned (.bool true) ∧ Below w.heap.size w w' := by
  obtain ⟨A, c, rfl⟩ := hr.form
  have CF := Lib.hid (fine_any hr)
  cases hfine : fineB l with
  | false =>
    rw [hfine] at CF
    clear hr hb hfine hT
    go_enter Tryd.func3, Tryd.ntmps3
    go_wp2_with fail
    refine CF.out.mono ?_
    rintro e w1 ⟨rfl, hb1⟩
    go_wp2_with fail
    refine (awake_any _).mono ?_
    rintro e w2 ⟨rfl, hb2⟩
    have HB := Lib.hid (hb1.trans (hb2.mono hb1.size))
    clear hb1 hb2
    go_wp2
    go_ret
    exact ⟨rfl, HB.out⟩
  | true =>
    rw [hfine] at CF
    have HB := Lib.hid (hb hfine)
    have hl12 : l.length ≤ 12 := (fine_parts hfine).1
    have HL := Lib.hid hl12
    have HT := Lib.hid hT
    clear hr hb hfine hl12 hT
    go_enter Tryd.func3, Tryd.ntmps3
    go_wp2_with fail
    refine CF.out.mono ?_
    rintro e w1 ⟨rfl, hb1⟩
    have H0 : Hid (LoopRel l w (.int .i64 0) w1) := Lib.hid ⟨0, Nat.zero_le _, rfl, hb1⟩
    clear hb1
    go_wp2_with fail
    go_loopw [15] (LoopRel l w) (fun i _ => l.length - (intOf i).toNat)
    case atStart => exact H0.out
    case round =>
      obtain ⟨k, hk, rfl, hBw⟩ := hrel
      by_cases hlt : k < l.length
      · have h0 : (0 : Int) ≤ (k : Int) := by omega
        have h1 : (k : Int) < (l.length : Int) := by omega
        obtain ⟨hbk, hfk⟩ := HB.out k hlt
        have CB := Lib.hid (hbk wr hBw)
        have HFIT := Lib.hid hfk
        have HBW := Lib.hid hBw
        have HLT := Lib.hid hlt
        generalize bf k = o at *
        clear hbk hfk hBw H0
        go_wp2_with fail
        refine CB.out.mono ?_
        rintro e w2 ⟨r, rfl, ⟨nv, cs, rfl, hN, hX⟩, hb2⟩
        have hB2 := HBW.out.trans (hb2.mono HBW.out.size)
        have HB2 := Lib.hid hB2
        have HN := Lib.hid hN
        have HX := Lib.hid hX
        have HT2 := Lib.hid (HT.out.below HT.out.pos hB2)
        obtain ⟨yx, hyx⟩ : ∃ yx, yx = Bw.absO o := ⟨_, rfl⟩
        have hXX := hX
        have hkd := kind0 o
        rw [← hyx] at hXX hkd
        obtain ⟨yk, yh, yp, yset, yy⟩ := yx
        simp only [Bw.X.kind] at hkd
        rw [xK_iff] at hXX
        obtain ⟨yvp, yvs, yvk, rfl, q1, q2, q3⟩ := hXX
        obtain ⟨Y1, r1, rfl⟩ := q1.form
        obtain ⟨Y2, r2, rfl⟩ := q2.form
        obtain ⟨Y3, r3, rfl⟩ := q3.form
        have HKD := Lib.hid hkd
        clear hyx q1 q2 q3 hN hX hb2 CB hkd hB2
        obtain ⟨WX, hWX⟩ : ∃ WX, w2.alloc (.cells #[.int .i64 (yk : Nat), .int .u64 (yh : Nat), .slice Y1 yp.length r1, .slice Y2 yset.length r2, .slice Y3 yy.length r3] 32) = WX := ⟨_, rfl⟩
        have hwx : Below w2.heap.size w2 WX := by rw [← hWX]; (repeat (first | exact Below.refl _ _ | with_reducible assumption | refine Below.drew ?_ | (refine Below.alloc ?_ (by simp) _) | (refine Below.alloc ?_ (by simp; omega) _)))
        have HWX := Lib.hid hWX
        clear hWX
        have HBX := Lib.hid (HB2.out.trans (hwx.mono HB2.out.size))
        have HXW := Lib.hid (fun W (hW : Below w2.heap.size w2 W) => XAt.move (ok' := AllB) (w' := W) (fun k hk hl => ⟨trivial, hW.block k hl⟩) _ _ HX.out)
        have HNW := Lib.hid (fun W (hW : Below w2.heap.size w2 W) => HN.out.move (ok' := AllB) (w' := W) (fun k hk hl => ⟨trivial, hW.block k hl⟩))
        have HWXB := Lib.hid hwx
        clear hwx
        by_cases hneg : level < 0
        · go_wp2_with fail
          rw [HWX.out]
          refine (right_out level (HNW.out WX HWXB.out) (.inr (.inl hneg))).mono ?_
          rintro e w3 ⟨rfl, hb3⟩
          have HB3 := Lib.hid (HBX.out.trans (hb3.mono HBX.out.size))
          clear hb3
          go_wp2
          exact ⟨⟨k + 1, HLT.out, int_succ HLT.out (Nat.le_trans HL.out (by decide)), HB3.out⟩, less_succ HLT.out (Nat.le_trans HL.out (by decide))⟩
        by_cases hbig : 13 < level
        · have hge : 0 ≤ level := by omega
          go_wp2_with fail
          rw [HWX.out]
          refine (right_out level (HNW.out WX HWXB.out) (.inr (.inr hbig))).mono ?_
          rintro e w3 ⟨rfl, hb3⟩
          have HB3 := Lib.hid (HBX.out.trans (hb3.mono HBX.out.size))
          clear hb3
          go_wp2
          exact ⟨⟨k + 1, HLT.out, int_succ HLT.out (Nat.le_trans HL.out (by decide)), HB3.out⟩, less_succ HLT.out (Nat.le_trans HL.out (by decide))⟩
        have hge : 0 ≤ level := by omega
        have hle : level ≤ 13 := by omega
        clear hneg hbig
        cases o with
        | none =>
          have hyk : ((yk : Int) != 0) = false := by rw [bne_eq_false_iff_eq]; have := HKD.out.2 rfl; omega
          go_wp2_with fail
          rw [HWX.out]
          refine (right_out level (HNW.out WX HWXB.out) (.inl rfl)).mono ?_
          rintro e w3 ⟨rfl, hb3⟩
          have HB3 := Lib.hid (HBX.out.trans (hb3.mono HBX.out.size))
          clear hb3
          go_wp2
          exact ⟨⟨k + 1, HLT.out, int_succ HLT.out (Nat.le_trans HL.out (by decide)), HB3.out⟩, less_succ HLT.out (Nat.le_trans HL.out (by decide))⟩
        | some n =>
          have hyk : ((yk : Int) != 0) = true := by rw [bne_iff_ne]; intro e; have := HKD.out.1 (by omega); cases this
          obtain ⟨hf1, hf2, hf3, hf4⟩ := HFIT.out n rfl
          obtain ⟨lv, rfl⟩ := Int.eq_ofNat_of_zero_le hge
          have CR := Lib.hid (fun W (hW : Below w2.heap.size w2 W) => rright_any AllB n lv (by omega) _ W (HXW.out W hW) hf1 hf3 hf4)
          have CN := Lib.hid (fun W (hW : Below w2.heap.size w2 W) => right_node AllB n lv (by omega) nv W (HNW.out W hW) hf1 hf2 hf3 (HT2.out.below HT2.out.pos hW))
          have hra := Bw.right_abs n lv (by omega) hf1
          rw [hra] at CR
          generalize n.right lv = ans at *
          clear hra hf1 hf2 hf3 hf4
          go_wp2_with fail
          rw [HWX.out]
          refine (CR.out WX HWXB.out).mono ?_
          rintro e w3 ⟨rfl, hb3⟩
          have hB3 := HBX.out.trans (hb3.mono HBX.out.size)
          have CN3 := Lib.hid (CN.out w3 (HWXB.out.trans (hb3.mono HWXB.out.size)))
          have HB3 := Lib.hid hB3
          clear hb3 hB3
          have hne : (ans != ans) = false := by cases ans <;> rfl
          go_wp2_with fail
          refine CN3.out.mono ?_
          rintro e w4 ⟨rfl, hb4⟩
          have HB4 := Lib.hid (HB3.out.trans (hb4.mono HB3.out.size))
          clear hb4
          go_wp2
          exact ⟨⟨k + 1, HLT.out, int_succ HLT.out (Nat.le_trans HL.out (by decide)), HB4.out⟩, less_succ HLT.out (Nat.le_trans HL.out (by decide))⟩
      · obtain rfl : k = l.length := by omega
        have HBW := Lib.hid hBw
        have CN := Lib.hid (right_out (ok := AllB) (v := .nilIface) (n := none) (w := wr) level rfl (.inl rfl))
        clear hlt hBw
        go_wp2_with fail
        refine CN.out.mono ?_
        rintro e w2 ⟨rfl, hb2⟩
        have HB2 := Lib.hid (HBW.out.trans (hb2.mono HBW.out.size))
        clear hb2
        go_wp2_with fail
        refine (awake_any _).mono ?_
        rintro e w3 ⟨rfl, hb3⟩
        have HB3 := Lib.hid (HB2.out.trans (hb3.mono HB2.out.size))
        clear hb3
        go_wp2
        go_ret
        exact ⟨rfl, HB3.out⟩
end Go.Proofs.YtkblhilaeecdlaaDoor
