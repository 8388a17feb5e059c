
import Derived.Test.YtkblhilaeecdlaaLaw3
import Derived.Test.YtkblhilaeecdlaaAllW
import Derived.Test.YtkblhilaeecdlaaFew
import Derived.Test.YtkblhilaeecdlaaPairs
namespace Go.Proofs.Ytkblhilaeecdlaa
open Go.RowKit Go.Bw

set_option maxRecDepth 100000 in
theorem collect_nil (w : World) : Calls Try.prog 36 #[.slice none 0 0, .nilIface] w fun e w' => e = .returned (.slice none 0 0) ∧ w' = w := by
  have t1 := @ta_nl; have t2 := @ta_nb; have t3 := @ta_nr
  go_enter Try.func36, Try.ntmps36
  go_wp2
  go_ret
  exact ⟨rfl, rfl⟩

set_option maxRecDepth 100000 in
theorem npairs_nil (w : World) : Calls Try.prog 15 #[.nilIface] w (Gives w fun q w' => ∃ g cap, q = .slice (some ⟨g, 0, none⟩) 0 cap ∧ PairsAt AllB w' q []) := by
  have HE := Lib.hid (enters_of Try.func38 (by kernel_rfl) rfl)
  go_enter Try.func15, Try.ntmps15
  go_wp2_with fail
  refine (collect_nil w).mono ?_
  rintro e w1 ⟨rfl, rfl⟩
  have CO := Lib.hid (pown_any (ok := AllB) (l := []) (v := .slice none 0 0) (w := w1) (by decide) (fun p hp => by cases hp) RowAt.nil)
  go_wp2_with fail
  refine CO.out.mono ?_
  rintro e w2 ⟨v2, rfl, ⟨g, cap, rfl, hown2⟩, hb2⟩
  have CS := Lib.hid (sortp_any pairsc_any HE.out hown2 (by decide) List.Pairwise.nil)
  have HB2 := Lib.hid hb2
  have HG := Lib.hid (hown2.lt g rfl)
  clear hown2 hb2
  go_wp2_with fail
  refine CS.out.mono ?_
  rintro e w3 ⟨rfl, hown3, hg3⟩
  go_wp2
  go_ret
  refine ⟨_, rfl, ⟨g, cap, rfl, ?_⟩, HB2.out.grown hg3 HB2.out.size (fun k e => by cases e; exact HG.out.1)⟩
  exact ((hown3.row goodPair).move goodPair (Moves.weaken fun _ _ _ => trivial))

theorem absO_few {o : Option Bw.N} (hf : ∀ n, o = some n → n.fit) (hc : ∀ n, o = some n → n.count ≤ 196608) :
    (∀ p ∈ (Bw.absO o).flat, p.1.length ≤ 1048576) ∧ (Bw.absO o).flat.length ≤ 1048576 ∧ (Bw.absO o).count ≤ 4611686018427387904 := by
  cases o with
  | none => exact ⟨fun p hp => (by simp [Bw.absO, Bw.X.zero, Bw.X.flat, Bw.X.flatL] at hp), (by decide), (by decide)⟩
  | some n =>
    have h2 := hc n rfl
    refine ⟨fun p hp => ?_, ?_, ?_⟩
    · rw [show Bw.absO (some n) = n.abs from rfl, Bw.abs_flat, flat_pairs] at hp
      exact (fit_pairs n (hf n rfl) p hp).1
    · rw [show Bw.absO (some n) = n.abs from rfl, Bw.abs_flat, Bw.length_flat]; omega
    · rw [show Bw.absO (some n) = n.abs from rfl, count_abs]; omega

theorem pairs_told {o : Option Bw.N} {nv : Value} {w : World} (hf : ∀ n, o = some n → n.fit) (hc : ∀ n, o = some n → n.count ≤ 196608) (hn : ONodeAt nt AllB w nv o) (he : (Bw.absO o).all.length = (Bw.absO o).count) :
    Calls Try.prog 15 #[nv] w (Gives w fun q w' => ∃ g cap, q = .slice (some ⟨g, 0, none⟩) (Bw.absO o).all.length cap ∧ PairsAt AllB w' q (Bw.absO o).all) := by
  cases o with
  | none =>
    simp only [ONodeAt] at hn
    subst hn
    exact npairs_nil w
  | some n =>
    have h2 := hc n rfl
    have e1 : n.flat.length = n.count := Bw.length_flat n
    have e2 : n.abs.count = n.count := count_abs n
    have e3 : n.abs.all.length = n.flat.length := by rw [e1, ← e2]; exact he
    have e4 := Bw.come_flat e3
    obtain ⟨_, _, h3⟩ := Bw.all_flat n
    obtain ⟨h4, _⟩ := h3 e3
    have e5 : n.pairs.length = n.abs.all.length := by rw [← flat_pairs, e3]
    rw [flat_pairs] at e4 h4
    refine (npairs_any (hf n rfl) hn (by rw [← flat_pairs, e1]; omega) h4).mono ?_
    rintro e w1 ⟨q, rfl, ⟨g, cap, rfl, hown⟩, hb⟩
    rw [e4] at hown
    rw [e5] at hown ⊢
    exact ⟨_, rfl, ⟨g, cap, rfl, (hown.row goodPair).move goodPair (Moves.weaken fun _ _ _ => trivial)⟩, hb⟩

set_option maxRecDepth 100000 in
set_option maxHeartbeats 1000000 in
theorem npairs_law {l : List Bw.Plan} {v : Value} {w : World} {bf : Nat → Option Bw.N} (hr : PlansAt AllB w v l) (hb : fineB l = true → Builds l v w bf ∧ ∀ i n, bf i = some n → n.count ≤ 196608) :
    Calls Try.prog 5 #[v] w fun e w' => e = .returned (.bool true) ∧ Below w.heap.size w w' := by
  obtain ⟨A, c, rfl⟩ := hr.form
  have CF := Lib.hid (fine_any hr)
  cases hfine : fineB l with
  | false =>
    rw [hfine] at CF
    clear hr hb hfine
    go_enter Try.func5, Try.ntmps5
    go_wp2_with fail
    refine CF.out.mono ?_
    rintro e w1 ⟨rfl, hb1⟩
    go_wp2_with fail
    refine (awake_any _).mono ?_
    rintro e w2 ⟨rfl, hb2⟩
    have HB := Lib.hid (hb1.trans (hb2.mono hb1.size))
    clear hb1 hb2
    go_wp2
    go_ret
    exact ⟨rfl, HB.out⟩
  | true =>
    rw [hfine] at CF
    have HB := Lib.hid (hb hfine).1
    have HFEW := Lib.hid (hb hfine).2
    have hl12 : l.length ≤ 12 := by
      unfold fineB at hfine
      rw [Bool.and_eq_true, decide_eq_true_iff] at hfine
      exact hfine.1
    have HL := Lib.hid hl12
    clear hr hb hfine hl12
    go_enter Try.func5, Try.ntmps5
    go_wp2_with fail
    refine CF.out.mono ?_
    rintro e w1 ⟨rfl, hb1⟩
    have H0 : Hid (LoopRel l w (.int .i64 0) w1) := Lib.hid ⟨0, Nat.zero_le _, rfl, hb1⟩
    clear hb1
    go_wp2_with fail
    go_loopw [13] (LoopRel l w) (fun i _ => l.length - (intOf i).toNat)
    case atStart => exact H0.out
    case round =>
      obtain ⟨k, hk, rfl, hBw⟩ := hrel
      by_cases hlt : k < l.length
      · have h0 : (0 : Int) ≤ (k : Int) := by omega
        have h1 : (k : Int) < (l.length : Int) := by omega
        obtain ⟨hbk, hfk⟩ := HB.out k hlt
        have CB := Lib.hid (hbk wr hBw)
        have hfit := fun n hn => (hfk n hn).1
        have hfew := HFEW.out k
        have HBW := Lib.hid hBw
        have HLT := Lib.hid hlt
        obtain ⟨hk1, hk2, hk3⟩ := absO_few hfit hfew
        have hpt := fun nv W => pairs_told (nv := nv) (w := W) hfit hfew
        generalize bf k = o at *
        clear hbk hfk hBw H0 hfit hfew
        have HKL := Lib.hid hk1
        have HFL := Lib.hid hk2
        have HCN := Lib.hid hk3
        have HPT := Lib.hid hpt
        clear hk1 hk2 hk3 hpt
        go_wp2_with fail
        refine CB.out.mono ?_
        rintro e w2 ⟨r, rfl, ⟨nv, cs, rfl, hN, hX⟩, hb2⟩
        have HB2 := Lib.hid (HBW.out.trans (hb2.mono HBW.out.size))
        have HN := Lib.hid hN
        generalize Bw.absO o = yx at *
        have HX := Lib.hid hX
        obtain ⟨yk, yh, yp, yset, yy, hyx⟩ : ∃ a b c d e, yx = Bw.X.mk a b c d e := by cases yx; exact ⟨_, _, _, _, _, rfl⟩
        rw [hyx, xK_iff] at hX
        obtain ⟨yvp, yvs, yvk, rfl, q1, q2, q3⟩ := hX
        obtain ⟨Y1, r1, rfl⟩ := q1.form
        obtain ⟨Y2, r2, rfl⟩ := q2.form
        obtain ⟨Y3, r3, rfl⟩ := q3.form
        clear hyx q1 q2 q3 hN hb2 CB
        obtain ⟨WX, hWX⟩ : ∃ WX, w2.alloc (.cells #[.int .i64 (yk : Nat), .int .u64 (yh : Nat), .slice Y1 yp.length r1, .slice Y2 yset.length r2, .slice Y3 yy.length r3] 32) = WX := ⟨_, rfl⟩
        have m0 : WX.cell? ⟨w2.heap.size, 0, none⟩ = some (.int .i64 (yk : Nat)) := by subst hWX; go_simp
        have m1 : WX.cell? ⟨w2.heap.size, 1, none⟩ = some (.int .u64 (yh : Nat)) := by subst hWX; go_simp
        have m2 : WX.cell? ⟨w2.heap.size, 2, none⟩ = some (.slice Y1 yp.length r1) := by subst hWX; go_simp
        have m3 : WX.cell? ⟨w2.heap.size, 3, none⟩ = some (.slice Y2 yset.length r2) := by subst hWX; go_simp
        have m4 : WX.cell? ⟨w2.heap.size, 4, none⟩ = some (.slice Y3 yy.length r3) := by subst hWX; go_simp
        have hwx : Below w2.heap.size w2 WX := by rw [← hWX]; (repeat (first | exact Below.refl _ _ | with_reducible assumption | refine Below.drew ?_ | (refine Below.alloc ?_ (by simp) _) | (refine Below.alloc ?_ (by simp; omega) _)))
        have hsx : w2.heap.size < WX.heap.size := by rw [← hWX]; simp
        have HWX := Lib.hid hWX
        clear hWX
        have HBX := Lib.hid (HB2.out.trans (hwx.mono HB2.out.size))
        have HS : Hid (∀ W, Below WX.heap.size WX W → S5 w2.heap.size (.int .i64 (yk : Nat)) (.int .u64 (yh : Nat)) (.slice Y1 yp.length r1) (.slice Y2 yset.length r2) (.slice Y3 yy.length r3) W) := Lib.hid fun W hW => S5.block (hW.block _ hsx) ⟨m0, m1, m2, m3, m4⟩
        have HXW := Lib.hid (fun W (hW : Below WX.heap.size WX W) => XAt.move (ok' := AllB) (w' := W) (fun k hk hl => ⟨trivial, (hwx.trans (hW.mono hwx.size)).block k hl⟩) _ _ HX.out)
        have CQ := Lib.hid (fun he W (hW : Below WX.heap.size WX W) => HPT.out nv W (HN.out.move (ok' := AllB) (w' := W) (fun k hk hl => ⟨trivial, (hwx.trans (hW.mono hwx.size)).block k hl⟩)) he)
        have CA := Lib.hid (rall_any (ok := AllB) yx _ WX (HXW.out WX (Below.refl _ _)) HKL.out HFL.out)
        have CC := Lib.hid (fun W (hW : Below WX.heap.size WX W) => rcount_any (ok := AllB) yx _ W (HXW.out W hW) HCN.out)
        generalize yx.count = yc at *
        have HAL : Hid (yx.all.length ≤ 1048576) := Lib.hid (Nat.le_trans (Bw.all_few yx).2.1 HFL.out)
        generalize yx.all = ya at *
        clear hwx HN HPT HX
        go_wp2_with fail
        rw [HWX.out]
        go_wp2_with fail
        refine CA.out.mono ?_
        rintro e w3 ⟨q3, rfl, hq3, hw3⟩
        obtain ⟨n0, n1, n2, n3, n4⟩ := HS.out w3 hw3
        have HQ3 := Lib.hid hq3
        have HW3 := Lib.hid hw3
        obtain ⟨A3, c3, rfl⟩ := hq3.form
        clear hq3 hw3 m0 m1 m2 m3 m4 CA
        have CC3 := Lib.hid (CC.out w3 HW3.out)
        clear CC
        by_cases he : ya.length = yc
        · have hne : ((ya.length : Int) != (yc : Int)) = false := by rw [bne_eq_false_iff_eq, he]
          have CQ' := Lib.hid (CQ.out he)
          clear he CQ
          generalize hla : ya.length = la at *
          have HLA := Lib.hid hla
          clear hla
          go_wp2_with fail
          refine CC3.out.mono ?_
          rintro e w4 ⟨rfl, hb4⟩
          have HW4 := Lib.hid (HW3.out.trans (hb4.mono HW3.out.size))
          have CQ4 := Lib.hid (CQ'.out w4 HW4.out)
          have HQ4 := Lib.hid (HQ3.out.move (ok' := AllB) goodSp (Moves.below hb4))
          clear hb4 CQ' CC3 n0 n1 n2 n3 n4
          go_wp2_with fail
          refine CQ4.out.mono ?_
          rintro e w5 ⟨q5, rfl, ⟨g5, c5, rfl, hp5⟩, hb5⟩
          have HW5 := Lib.hid (HW4.out.trans (hb5.mono HW4.out.size))
          have ci := ris_any (by rw [HLA.out]; exact HAL.out) hp5 (HQ4.out.move (ok' := AllB) goodSp (Moves.below hb5))
          rw [decide_eq_true (rfl : ya = ya)] at ci
          have CI := Lib.hid ci
          clear hb5 hp5 ci
          go_wp2_with fail
          refine CI.out.mono ?_
          rintro e w6 ⟨rfl, nd, rfl⟩
          go_wp2
          exact ⟨⟨k + 1, HLT.out, int_succ HLT.out (Nat.le_trans HL.out (by decide)), b_drewN (HBX.out.trans (HW5.out.mono HBX.out.size)) _⟩, less_succ HLT.out (Nat.le_trans HL.out (by decide))⟩
        · have hne : ((ya.length : Int) != (yc : Int)) = true := by rw [bne_iff_ne]; omega
          clear he CQ
          generalize hla : ya.length = la at *
          clear hla
          go_wp2_with fail
          refine CC3.out.mono ?_
          rintro e w4 ⟨rfl, hb4⟩
          have HW4 := Lib.hid (HW3.out.trans (hb4.mono HW3.out.size))
          clear hb4
          go_wp2
          exact ⟨⟨k + 1, HLT.out, int_succ HLT.out (Nat.le_trans HL.out (by decide)), HBX.out.trans (HW4.out.mono HBX.out.size)⟩, less_succ HLT.out (Nat.le_trans HL.out (by decide))⟩
      · obtain rfl : k = l.length := by omega
        have HBW := Lib.hid hBw
        clear hlt hBw
        go_wp2_with fail
        refine (npairs_nil _).mono ?_
        rintro e w2 ⟨q2, rfl, ⟨g2, c2, rfl, _⟩, hb2⟩
        have HB2 := Lib.hid (HBW.out.trans (hb2.mono HBW.out.size))
        clear hb2
        go_wp2_with fail
        refine (awake_any _).mono ?_
        rintro e w3 ⟨rfl, hb3⟩
        have HB3 := Lib.hid (HB2.out.trans (hb3.mono HB2.out.size))
        clear hb3
        go_wp2
        go_ret
        exact ⟨rfl, HB3.out⟩
end Go.Proofs.Ytkblhilaeecdlaa
