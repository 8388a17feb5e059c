import Derived.Test.YtkblhilaeecdlaaLaw3
import Derived.Deep.RegionHeld3
import Derived.Deep.QuietTactic
namespace Go.Proofs.Ytkblhilaeecdlaa
open Go.RowKit Go.Bw

theorem kind_abs (o : Option Bw.N) : (((Bw.absO o).kind : Nat) : Int) = kindO o := by
  cases o with
  | none => rfl
  | some n => cases n <;> rfl

set_option maxRecDepth 100000 in
set_option maxHeartbeats 1000000 in
theorem musts_any {l : List Bw.Plan} {v : Value} {w : World} {bf : Nat → Option Bw.N} (kind : Int) (hr : PlansAt AllB w v l) (hb : fineB l = true → Builds l v w bf) :
    Calls Try.prog 4 #[v, .int .i64 kind] w fun e w' => e = .returned (.bool true) ∧ Below w.heap.size w w' := by
  obtain ⟨A, c, rfl⟩ := hr.form
  have CF := Lib.hid (fine_any hr)
  cases hfine : fineB l with
  | false =>
    rw [hfine] at CF
    clear hr hb hfine
    go_enter Try.func4, Try.ntmps4
    go_wp2_with fail
    refine CF.out.mono ?_
    rintro e w1 ⟨rfl, hb1⟩
    go_wp2_with fail
    refine (awake_any _).mono ?_
    rintro e w2 ⟨rfl, hb2⟩
    have HB := Lib.hid (hb1.trans (hb2.mono hb1.size))
    clear hb1 hb2
    go_wp2
    go_ret
    exact ⟨rfl, HB.out⟩
  | true =>
    rw [hfine] at CF
    have HB := Lib.hid (hb hfine)
    have hl12 : l.length ≤ 12 := by
      unfold fineB at hfine
      rw [Bool.and_eq_true, decide_eq_true_iff] at hfine
      exact hfine.1
    have HL := Lib.hid hl12
    clear hr hb hfine hl12
    go_enter Try.func4, Try.ntmps4
    go_wp2_with fail
    refine CF.out.mono ?_
    rintro e w1 ⟨rfl, hb1⟩
    have H0 : Hid (LoopRel l w (.int .i64 0) w1) := Lib.hid ⟨0, Nat.zero_le _, rfl, hb1⟩
    clear hb1
    go_wp2_with fail
    go_loopw [15] (LoopRel l w) (fun i _ => l.length - (intOf i).toNat)
    case atStart => exact H0.out
    case round =>
      obtain ⟨k, hk, rfl, hBw⟩ := hrel
      by_cases hlt : k < l.length
      · have h0 : (0 : Int) ≤ (k : Int) := by omega
        have h1 : (k : Int) < (l.length : Int) := by omega
        obtain ⟨hbk, hfk⟩ := HB.out k hlt
        have CB := Lib.hid (hbk wr hBw)
        have HFIT := Lib.hid (fun n hn => (hfk n hn).1)
        have HBW := Lib.hid hBw
        have HLT := Lib.hid hlt
        generalize bf k = o at *
        clear hbk hfk hBw H0
        go_wp2_with fail
        refine CB.out.mono ?_
        rintro e w2 ⟨r, rfl, ⟨nv, cs, rfl, hN, hX⟩, hb2⟩
        have HB2 := Lib.hid (HBW.out.trans (hb2.mono HBW.out.size))
        have HN := Lib.hid hN
        have HX := Lib.hid hX
        obtain ⟨yx, hyx⟩ : ∃ yx, yx = Bw.absO o := ⟨_, rfl⟩
        have hXX := hX
        have hkd := kind_abs o
        rw [← hyx] at hXX hkd
        obtain ⟨yk, yh, yp, yset, yy⟩ := yx
        simp only [Bw.X.kind] at hkd
        rw [xK_iff] at hXX
        obtain ⟨yvp, yvs, yvk, rfl, q1, q2, q3⟩ := hXX
        obtain ⟨Y1, r1, rfl⟩ := q1.form
        obtain ⟨Y2, r2, rfl⟩ := q2.form
        obtain ⟨Y3, r3, rfl⟩ := q3.form
        have HKD := Lib.hid hkd
        clear hyx q1 q2 q3 hN hX hb2 CB hkd
        obtain ⟨WX, hWX⟩ : ∃ WX, w2.alloc (.cells #[.int .i64 (yk : Nat), .int .u64 (yh : Nat), .slice Y1 yp.length r1, .slice Y2 yset.length r2, .slice Y3 yy.length r3] 32) = WX := ⟨_, rfl⟩
        have m0 : WX.cell? ⟨w2.heap.size, 0, none⟩ = some (.int .i64 (yk : Nat)) := by subst hWX; go_simp
        have m1 : WX.cell? ⟨w2.heap.size, 1, none⟩ = some (.int .u64 (yh : Nat)) := by subst hWX; go_simp
        have m2 : WX.cell? ⟨w2.heap.size, 2, none⟩ = some (.slice Y1 yp.length r1) := by subst hWX; go_simp
        have m3 : WX.cell? ⟨w2.heap.size, 3, none⟩ = some (.slice Y2 yset.length r2) := by subst hWX; go_simp
        have m4 : WX.cell? ⟨w2.heap.size, 4, none⟩ = some (.slice Y3 yy.length r3) := by subst hWX; go_simp
        have hwx : Below w2.heap.size w2 WX := by rw [← hWX]; (repeat (first | exact Below.refl _ _ | with_reducible assumption | refine Below.drew ?_ | (refine Below.alloc ?_ (by simp) _) | (refine Below.alloc ?_ (by simp; omega) _)))
        have hsx : w2.heap.size < WX.heap.size := by rw [← hWX]; simp
        have HWX := Lib.hid hWX
        clear hWX
        have CS := Lib.hid (fun W (hW : Below WX.heap.size WX W) => sameO_any (HN.out.move (w' := W) (fun k hk hl => ⟨trivial, (hwx.trans (hW.mono hwx.size)).block k hl⟩)) (XAt.move (w' := W) (fun k hk hl => ⟨trivial, (hwx.trans (hW.mono hwx.size)).block k hl⟩) _ _ HX.out) HFIT.out)
        have HBX := Lib.hid (HB2.out.trans (hwx.mono HB2.out.size))
        have HS : Hid (∀ W, Below WX.heap.size WX W → S5 w2.heap.size (.int .i64 (yk : Nat)) (.int .u64 (yh : Nat)) (.slice Y1 yp.length r1) (.slice Y2 yset.length r2) (.slice Y3 yy.length r3) W) := Lib.hid fun W hW => S5.block (hW.block _ hsx) ⟨m0, m1, m2, m3, m4⟩
        have CI := Lib.hid (fun W (hW : Below WX.heap.size WX W) => is_any kind (HN.out.move (ok' := AllB) (w' := W) (fun k hk hl => ⟨trivial, (hwx.trans (hW.mono hwx.size)).block k hl⟩)))
        have CM := Lib.hid (fun W (hW : Below WX.heap.size WX W) => must_any kind (HN.out.move (ok' := AllB) (w' := W) (fun k hk hl => ⟨trivial, (hwx.trans (hW.mono hwx.size)).block k hl⟩)))
        clear hwx
        by_cases hhit : o.isSome = true ∧ kind = kindO o
        · have hk1 : ((yk : Int) == kind) = true := by rw [beq_iff_eq, HKD.out]; exact hhit.2.symm
          have hk2 : (kind != 0) = true := by
            rw [bne_iff_ne, hhit.2]
            intro e
            cases o with
            | none => simp at hhit
            | some n => cases n <;> simp [kindO] at e
          have HH := Lib.hid hhit
          clear hhit
          go_wp2_with fail
          rw [HWX.out]
          refine (CI.out _ (Below.refl _ _)).mono ?_
          rintro e w3 ⟨rfl, hb3⟩
          rw [if_pos HH.out]
          have hw3 : Below WX.heap.size WX w3 := hb3
          have hS3 := HS.out w3 hw3
          have hSd := HS.out w3.drew (by (repeat (first | exact Below.refl _ _ | with_reducible assumption | refine Below.drew ?_ | refine b_drewN ?_ _ | (refine Below.alloc ?_ (by simp) _) | (refine Below.alloc ?_ (by simp; omega) _))))
          have hs3 : w2.heap.size < w3.heap.size := Nat.lt_of_lt_of_le hsx hw3.size
          have CMH : Hid (∀ W, Below WX.heap.size WX W → Calls Try.prog 12 #[nv, .int .i64 kind] W fun e w' => e = .returned nv ∧ w' = W) := Lib.hid fun W hW => by
            have := CM.out W hW
            rwa [if_pos HH.out] at this
          clear hb3
          go_wp2_with fail
          go_region_held3 (S5 w2.heap.size (.int .i64 (yk : Nat)) (.int .u64 (yh : Nat)) (.slice Y1 yp.length r1) (.slice Y2 yset.length r2) (.slice Y3 yy.length r3))
            (first | with_reducible exact hS4 | with_reducible exact hSd | with_reducible exact hS3)
            ((first
              | (go_at_call 12; (with_reducible refine (CMH.out _ (by (repeat (first | exact Below.refl _ _ | with_reducible assumption | refine Below.drew ?_ | refine b_drewN ?_ _ | (refine Below.alloc ?_ (by simp) _) | (refine Below.alloc ?_ (by simp; omega) _))))).mono ?_); rintro e w5 ⟨rfl, rfl⟩)
              | (go_at_call 9; (with_reducible refine (CS.out _ (by (repeat (first | exact Below.refl _ _ | with_reducible assumption | refine Below.drew ?_ | refine b_drewN ?_ _ | (refine Below.alloc ?_ (by simp) _) | (refine Below.alloc ?_ (by simp; omega) _))))).mono ?_); rintro e w4 ⟨rfl, hb4⟩; have hw4 : Below WX.heap.size WX w4 := Below.trans (by (repeat (first | exact Below.refl _ _ | with_reducible assumption | refine Below.drew ?_ | refine b_drewN ?_ _ | (refine Below.alloc ?_ (by simp) _) | (refine Below.alloc ?_ (by simp; omega) _)))) (hb4.mono (by (try simp); exact hw3.size)); have hS4 := HS.out w4 hw4)))
          all_goals go_wp2
          all_goals exact ⟨⟨k + 1, HLT.out, int_succ HLT.out (Nat.le_trans HL.out (by decide)), HBX.out.trans (hw4.mono HBX.out.size)⟩, less_succ HLT.out (Nat.le_trans HL.out (by decide))⟩
        · have HH := Lib.hid hhit
          by_cases hky : (yk : Int) = kind
          · have hk1 : ((yk : Int) == kind) = true := by rw [beq_iff_eq]; exact hky
            have hk2 : (kind != 0) = false := by
              rw [bne_eq_false_iff_eq, ← hky]
              cases o with
              | none => rw [HKD.out]; rfl
              | some n => exact absurd ⟨rfl, by rw [← hky]; exact HKD.out⟩ hhit
            clear hhit hky
            go_wp2_with fail
            rw [HWX.out]
            refine (CI.out _ (Below.refl _ _)).mono ?_
            rintro e w3 ⟨rfl, hb3⟩
            rw [if_neg HH.out]
            have HB3 := Lib.hid (HBX.out.trans (hb3.mono HBX.out.size))
            have hs3 : w2.heap.size < w3.heap.size := Nat.lt_of_lt_of_le hsx hb3.size
            clear hb3
            go_wp2_with fail
            go_quiet (fail)
            go_wp2
            exact ⟨⟨k + 1, HLT.out, int_succ HLT.out (Nat.le_trans HL.out (by decide)), b_drewN HB3.out _⟩, less_succ HLT.out (Nat.le_trans HL.out (by decide))⟩
          · have hk1 : ((yk : Int) == kind) = false := beq_eq_false_iff_ne.2 hky
            clear hhit hky
            go_wp2_with fail
            rw [HWX.out]
            refine (CI.out _ (Below.refl _ _)).mono ?_
            rintro e w3 ⟨rfl, hb3⟩
            rw [if_neg HH.out]
            have HB3 := Lib.hid (HBX.out.trans (hb3.mono HBX.out.size))
            have hs3 : w2.heap.size < w3.heap.size := Nat.lt_of_lt_of_le hsx hb3.size
            clear hb3
            go_wp2_with fail
            go_quiet (fail)
            go_wp2
            exact ⟨⟨k + 1, HLT.out, int_succ HLT.out (Nat.le_trans HL.out (by decide)), b_drewN HB3.out _⟩, less_succ HLT.out (Nat.le_trans HL.out (by decide))⟩
      · obtain rfl : k = l.length := by omega
        have HBW := Lib.hid hBw
        have hnh : ¬ ((none : Option Bw.N).isSome = true ∧ kind = kindO none) := fun h => by cases h.1
        have CN := is_any (ok := AllB) (v := .nilIface) (n := none) (w := wr) kind rfl
        rw [if_neg hnh] at CN
        have CIN := Lib.hid CN
        clear hlt hBw CN hnh
        go_wp2_with fail
        refine CIN.out.mono ?_
        rintro e w2 ⟨rfl, hb2⟩
        have HB2 := Lib.hid (HBW.out.trans (hb2.mono HBW.out.size))
        clear hb2
        go_wp2_with fail
        refine (awake_any _).mono ?_
        rintro e w3 ⟨rfl, hb3⟩
        have HB3 := Lib.hid (HB2.out.trans (hb3.mono HB2.out.size))
        clear hb3
        go_wp2
        go_ret
        exact ⟨rfl, HB3.out⟩
end Go.Proofs.Ytkblhilaeecdlaa
