
import Derived.Test.YtkblhilaeecdlaaSameA
import Derived.Test.YtkblhilaeecdlaaBuild2
import Derived.Deep.RegionHeld3
import Derived.Deep.RegionLaw
namespace Go.Proofs.Ytkblhilaeecdlaa
open Go.RowKit Go.Bw

theorem count_abs (n : Bw.N) : n.abs.count = n.count := by
  refine Bw.N.ind (P := fun n => n.abs.count = n.count) ?_ ?_ ?_ n
  · intro h p; rfl
  · intro h t; simp [Bw.N.abs, Bw.X.count, Bw.X.countL, Bw.N.count, Bw.T.length_list]
  · intro m kids ih
    simp only [Bw.N.abs, Bw.X.count, Bw.N.count, List.length_nil, Nat.zero_add]
    induction kids with
    | nil => rfl
    | cons k r ihr =>
      simp only [Bw.N.absL, Bw.X.countL, Bw.N.countL]
      rw [ih k (by simp), ihr (fun k hk => ih k (by simp [hk]))]

/-- what build is known to give, at any place -/
def Builds (l : List Bw.Plan) (v : Value) (w : World) (bf : Nat → Option Bw.N) : Prop :=
  ∀ i, i < l.length → (∀ W, Below w.heap.size w W → Calls Try.prog 8 #[v, .int .i64 (i : Nat)] W (Gives W (BuildTold W (bf i)))) ∧ (∀ n, bf i = some n → n.fit ∧ n.count ≤ 4611686018427387904)

theorem bucket_count {b h : Nat} {t : Bw.T} {W : World} (hn : ONodeAt nt AllB W (.iface 87 (.pointer (some ⟨b, 0, none⟩))) (some (.bucket h t))) :
    Calls Try.prog 106 #[.pointer (some ⟨b, 0, none⟩)] W fun e w' => e = .returned (.int .i64 (t.size : Nat)) ∧ W = w' := by
  simp only [ONodeAt, NodeAt] at hn
  obtain ⟨b2, tv, he, _, c1, ht⟩ := hn
  cases he
  exact count_bucket b W c1.2 ht

theorem branch_count {b m : Nat} {kids : List Bw.N} {W : World} (hn : ONodeAt nt AllB W (.iface 93 (.pointer (some ⟨b, 0, none⟩))) (some (.branch m kids))) :
    Calls Try.prog 108 #[.pointer (some ⟨b, 0, none⟩)] W fun e w' => e = .returned (.int .i64 (Bw.N.countL kids : Nat)) ∧ W = w' := by
  simp only [ONodeAt, NodeAt] at hn
  obtain ⟨b2, _, _, _, he, _, _, c2, _⟩ := hn
  cases he
  exact count_branch b _ W c2.2

def LoopRel (l : List Bw.Plan) (w : World) (i : Value) (wr : World) : Prop := ∃ k : Nat, k ≤ l.length ∧ i = .int .i64 k ∧ Below w.heap.size w wr

set_option maxRecDepth 100000 in
set_option maxHeartbeats 1000000 in
theorem makes_any {l : List Bw.Plan} {v : Value} {w : World} {bf : Nat → Option Bw.N} (hr : PlansAt AllB w v l) (hb : fineB l = true → Builds l v w bf) :
    Calls Try.prog 3 #[v] w fun e w' => e = .returned (.bool true) ∧ Below w.heap.size w w' := by
  obtain ⟨A, c, rfl⟩ := hr.form
  have CF := Lib.hid (fine_any hr)
  cases hfine : fineB l with
  | false =>
    rw [hfine] at CF
    clear hr hb hfine
    go_enter Try.func3, Try.ntmps3
    go_wp2_with fail
    refine CF.out.mono ?_
    rintro e w1 ⟨rfl, hb1⟩
    go_wp2_with fail
    refine (awake_any _).mono ?_
    rintro e w2 ⟨rfl, hb2⟩
    have HB := Lib.hid (hb1.trans (hb2.mono hb1.size))
    clear hb1 hb2
    go_wp2
    go_ret
    exact ⟨rfl, HB.out⟩
  | true =>
    rw [hfine] at CF
    have HB := Lib.hid (hb hfine)
    have hl12 : l.length ≤ 12 := by
      unfold fineB at hfine
      rw [Bool.and_eq_true, decide_eq_true_iff] at hfine
      exact hfine.1
    have HL := Lib.hid hl12
    clear hr hb hfine hl12
    go_enter Try.func3, Try.ntmps3
    go_wp2_with fail
    refine CF.out.mono ?_
    rintro e w1 ⟨rfl, hb1⟩
    have H0 : Hid (LoopRel l w (.int .i64 0) w1) := Lib.hid ⟨0, Nat.zero_le _, rfl, hb1⟩
    clear hb1
    go_wp2_with fail
    go_loopw [12] (LoopRel l w) (fun i _ => l.length - (intOf i).toNat)
    case atStart => exact H0.out
    case round =>
      obtain ⟨k, hk, rfl, hBw⟩ := hrel
      by_cases hlt : k < l.length
      · have h0 : (0 : Int) ≤ (k : Int) := by omega
        have h1 : (k : Int) < (l.length : Int) := by omega
        obtain ⟨hbk, hfk⟩ := HB.out k hlt
        have CB := Lib.hid (hbk wr hBw)
        have HFIT := Lib.hid (fun n hn => (hfk n hn).1)
        have HCNT := Lib.hid (fun n hn => (hfk n hn).2)
        have HBW := Lib.hid hBw
        have HLT := Lib.hid hlt
        generalize bf k = o at *
        clear hbk hfk hBw H0
        go_wp2_with fail
        refine CB.out.mono ?_
        rintro e w2 ⟨r, rfl, ⟨nv, cs, rfl, hN, hX⟩, hb2⟩
        have HB2 := Lib.hid (HBW.out.trans (hb2.mono HBW.out.size))
        have HN := Lib.hid hN
        have HX := Lib.hid hX
        obtain ⟨yx, hyx⟩ : ∃ yx, yx = Bw.absO o := ⟨_, rfl⟩
        have hXX := hX
        rw [← hyx] at hXX
        obtain ⟨yk, yh, yp, yset, yy⟩ := yx
        rw [xK_iff] at hXX
        obtain ⟨yvp, yvs, yvk, rfl, q1, q2, q3⟩ := hXX
        obtain ⟨Y1, r1, rfl⟩ := q1.form
        obtain ⟨Y2, r2, rfl⟩ := q2.form
        obtain ⟨Y3, r3, rfl⟩ := q3.form
        clear hyx q1 q2 q3 hN hX hb2 CB
        cases o with
        | none =>
          have h9 := HN.out
          simp only [ONodeAt] at h9
          subst h9
          have he := fun (W : World) => (show (binOp .eql 26 .nilIface .nilIface).run Try.prog W = .ok (.bool true) W by rfl)
          have he2 := fun (W : World) => (show (binOp .neq 26 .nilIface .nilIface).run Try.prog W = .ok (.bool false) W by rfl)
          obtain ⟨WX, hWX⟩ : ∃ WX, w2.alloc (.cells #[.int .i64 (yk : Nat), .int .u64 (yh : Nat), .slice Y1 yp.length r1, .slice Y2 yset.length r2, .slice Y3 yy.length r3] 32) = WX := ⟨_, rfl⟩
          have m0 : WX.cell? ⟨w2.heap.size, 0, none⟩ = some (.int .i64 (yk : Nat)) := by subst hWX; go_simp
          have m1 : WX.cell? ⟨w2.heap.size, 1, none⟩ = some (.int .u64 (yh : Nat)) := by subst hWX; go_simp
          have m2 : WX.cell? ⟨w2.heap.size, 2, none⟩ = some (.slice Y1 yp.length r1) := by subst hWX; go_simp
          have m3 : WX.cell? ⟨w2.heap.size, 3, none⟩ = some (.slice Y2 yset.length r2) := by subst hWX; go_simp
          have m4 : WX.cell? ⟨w2.heap.size, 4, none⟩ = some (.slice Y3 yy.length r3) := by subst hWX; go_simp
          have hwx : Below w2.heap.size w2 WX := by rw [← hWX]; (repeat (first | exact Below.refl _ _ | with_reducible assumption | refine Below.drew ?_ | (refine Below.alloc ?_ (by simp) _) | (refine Below.alloc ?_ (by simp; omega) _)))
          have hsx : w2.heap.size < WX.heap.size := by rw [← hWX]; simp
          have HWX := Lib.hid hWX
          clear hWX
          have CS := Lib.hid (fun W (hW : Below WX.heap.size WX W) => sameO_any (HN.out.move (w' := W) (fun k hk hl => ⟨trivial, (hwx.trans (hW.mono hwx.size)).block k hl⟩)) (XAt.move (w' := W) (fun k hk hl => ⟨trivial, (hwx.trans (hW.mono hwx.size)).block k hl⟩) _ _ HX.out) HFIT.out)
          have HBX := Lib.hid (HB2.out.trans (hwx.mono HB2.out.size))
          have HS : Hid (∀ W, Below WX.heap.size WX W → S5 w2.heap.size (.int .i64 (yk : Nat)) (.int .u64 (yh : Nat)) (.slice Y1 yp.length r1) (.slice Y2 yset.length r2) (.slice Y3 yy.length r3) W) := Lib.hid fun W hW => S5.block (hW.block _ hsx) ⟨m0, m1, m2, m3, m4⟩
          have HXW := Lib.hid (fun W (hW : Below WX.heap.size WX W) => XAt.move (ok' := AllB) (w' := W) (fun k hk hl => ⟨trivial, (hwx.trans (hW.mono hwx.size)).block k hl⟩) _ _ HX.out)
          have HNW := Lib.hid (fun W (hW : Below WX.heap.size WX W) => HN.out.move (ok' := AllB) (w' := W) (fun k hk hl => ⟨trivial, (hwx.trans (hW.mono hwx.size)).block k hl⟩))
          have hSd := HS.out WX.drew (by (repeat (first | exact Below.refl _ _ | with_reducible assumption | refine Below.drew ?_ | refine b_drewN ?_ _ | (refine Below.alloc ?_ (by simp) _) | (refine Below.alloc ?_ (by simp; omega) _))))
          clear m0 m1 m2 m3 m4 hwx
          go_wp2_with fail
          rw [HWX.out]
          first
            | (go_region_law
                ((first
                | (go_simp; go_at_call 9; (with_reducible refine (CS.out _ (by (repeat (first | exact Below.refl _ _ | with_reducible assumption | refine Below.drew ?_ | refine b_drewN ?_ _ | (refine Below.alloc ?_ (by simp) _) | (refine Below.alloc ?_ (by simp; omega) _))))).mono ?_); rintro e w3 ⟨rfl, hb3⟩; have hw3 : Below WX.heap.size WX w3 := Below.trans (by (repeat (first | exact Below.refl _ _ | with_reducible assumption | refine Below.drew ?_ | refine b_drewN ?_ _ | (refine Below.alloc ?_ (by simp) _) | (refine Below.alloc ?_ (by simp; omega) _)))) (hb3.mono (by simp)); have hS3 := HS.out w3 hw3)
                )))
            | fail "region"
          all_goals go_wp2
          all_goals exact ⟨⟨k + 1, HLT.out, int_succ HLT.out (Nat.le_trans HL.out (by decide)), HBX.out.trans (hw3.mono HBX.out.size)⟩, less_succ HLT.out (Nat.le_trans HL.out (by decide))⟩
        | some n =>
          have CC := Lib.hid (fun W (hW : xK AllB W n.abs [.int .i64 (yk : Nat), .int .u64 (yh : Nat), .slice Y1 yp.length r1, .slice Y2 yset.length r2, .slice Y3 yy.length r3]) => rcount_any (ok := AllB) n.abs _ W hW (by rw [count_abs]; exact HCNT.out n rfl))
          rw [count_abs] at CC
          cases n with
            | leaf hh p =>
              have h9 := HN.out
              simp only [ONodeAt, NodeAt] at h9
              obtain ⟨b2, _, _, rfl, _⟩ := h9
              have hmth := method_leaf ⟨b2, 0, none⟩
              obtain ⟨WX, hWX⟩ : ∃ WX, w2.alloc (.cells #[.int .i64 (yk : Nat), .int .u64 (yh : Nat), .slice Y1 yp.length r1, .slice Y2 yset.length r2, .slice Y3 yy.length r3] 32) = WX := ⟨_, rfl⟩
              have m0 : WX.cell? ⟨w2.heap.size, 0, none⟩ = some (.int .i64 (yk : Nat)) := by subst hWX; go_simp
              have m1 : WX.cell? ⟨w2.heap.size, 1, none⟩ = some (.int .u64 (yh : Nat)) := by subst hWX; go_simp
              have m2 : WX.cell? ⟨w2.heap.size, 2, none⟩ = some (.slice Y1 yp.length r1) := by subst hWX; go_simp
              have m3 : WX.cell? ⟨w2.heap.size, 3, none⟩ = some (.slice Y2 yset.length r2) := by subst hWX; go_simp
              have m4 : WX.cell? ⟨w2.heap.size, 4, none⟩ = some (.slice Y3 yy.length r3) := by subst hWX; go_simp
              have hwx : Below w2.heap.size w2 WX := by rw [← hWX]; (repeat (first | exact Below.refl _ _ | with_reducible assumption | refine Below.drew ?_ | (refine Below.alloc ?_ (by simp) _) | (refine Below.alloc ?_ (by simp; omega) _)))
              have hsx : w2.heap.size < WX.heap.size := by rw [← hWX]; simp
              have HWX := Lib.hid hWX
              clear hWX
              have CS := Lib.hid (fun W (hW : Below WX.heap.size WX W) => sameO_any (HN.out.move (w' := W) (fun k hk hl => ⟨trivial, (hwx.trans (hW.mono hwx.size)).block k hl⟩)) (XAt.move (w' := W) (fun k hk hl => ⟨trivial, (hwx.trans (hW.mono hwx.size)).block k hl⟩) _ _ HX.out) HFIT.out)
              have HBX := Lib.hid (HB2.out.trans (hwx.mono HB2.out.size))
              have HS : Hid (∀ W, Below WX.heap.size WX W → S5 w2.heap.size (.int .i64 (yk : Nat)) (.int .u64 (yh : Nat)) (.slice Y1 yp.length r1) (.slice Y2 yset.length r2) (.slice Y3 yy.length r3) W) := Lib.hid fun W hW => S5.block (hW.block _ hsx) ⟨m0, m1, m2, m3, m4⟩
              have HXW := Lib.hid (fun W (hW : Below WX.heap.size WX W) => XAt.move (ok' := AllB) (w' := W) (fun k hk hl => ⟨trivial, (hwx.trans (hW.mono hwx.size)).block k hl⟩) _ _ HX.out)
              have HNW := Lib.hid (fun W (hW : Below WX.heap.size WX W) => HN.out.move (ok' := AllB) (w' := W) (fun k hk hl => ⟨trivial, (hwx.trans (hW.mono hwx.size)).block k hl⟩))
              have hSd := HS.out WX.drew (by (repeat (first | exact Below.refl _ _ | with_reducible assumption | refine Below.drew ?_ | refine b_drewN ?_ _ | (refine Below.alloc ?_ (by simp) _) | (refine Below.alloc ?_ (by simp; omega) _))))
              clear m0 m1 m2 m3 m4 hwx
              go_wp2_with fail
              rw [HWX.out]
              rw [Bw.N.count] at CC
              go_region_held3 (S5 w2.heap.size (.int .i64 (yk : Nat)) (.int .u64 (yh : Nat)) (.slice Y1 yp.length r1) (.slice Y2 yset.length r2) (.slice Y3 yy.length r3))
                (first | with_reducible exact hS4 | with_reducible exact hS3 | with_reducible exact hSd)
                ((first
                | (go_at_call 9; (with_reducible refine (CS.out _ (by (repeat (first | exact Below.refl _ _ | with_reducible assumption | refine Below.drew ?_ | refine b_drewN ?_ _ | (refine Below.alloc ?_ (by simp) _) | (refine Below.alloc ?_ (by simp; omega) _))))).mono ?_); rintro e w3 ⟨rfl, hb3⟩; have hw3 : Below WX.heap.size WX w3 := Below.trans (by (repeat (first | exact Below.refl _ _ | with_reducible assumption | refine Below.drew ?_ | refine b_drewN ?_ _ | (refine Below.alloc ?_ (by simp) _) | (refine Below.alloc ?_ (by simp; omega) _)))) (hb3.mono (by simp)); have hS3 := HS.out w3 hw3)
                | (go_at_call 104; (with_reducible refine (count_leaf _ _).mono ?_); rintro e w5 ⟨rfl, rfl⟩)
                | (go_at_call 10; (with_reducible refine (CC.out _ (HXW.out _ hw3)).mono ?_); rintro e w4 ⟨rfl, hb4⟩; have hw4 : Below WX.heap.size WX w4 := hw3.trans (hb4.mono hw3.size); have hS4 := HS.out w4 hw4)
                ))
              all_goals go_wp2
              all_goals exact ⟨⟨k + 1, HLT.out, int_succ HLT.out (Nat.le_trans HL.out (by decide)), HBX.out.trans (hw4.mono HBX.out.size)⟩, less_succ HLT.out (Nat.le_trans HL.out (by decide))⟩
            | bucket hh t =>
              have h9 := HN.out
              simp only [ONodeAt, NodeAt] at h9
              obtain ⟨b2, tv, rfl, _, _, _⟩ := h9
              have hmth := method_bucket ⟨b2, 0, none⟩
              obtain ⟨WX, hWX⟩ : ∃ WX, w2.alloc (.cells #[.int .i64 (yk : Nat), .int .u64 (yh : Nat), .slice Y1 yp.length r1, .slice Y2 yset.length r2, .slice Y3 yy.length r3] 32) = WX := ⟨_, rfl⟩
              have m0 : WX.cell? ⟨w2.heap.size, 0, none⟩ = some (.int .i64 (yk : Nat)) := by subst hWX; go_simp
              have m1 : WX.cell? ⟨w2.heap.size, 1, none⟩ = some (.int .u64 (yh : Nat)) := by subst hWX; go_simp
              have m2 : WX.cell? ⟨w2.heap.size, 2, none⟩ = some (.slice Y1 yp.length r1) := by subst hWX; go_simp
              have m3 : WX.cell? ⟨w2.heap.size, 3, none⟩ = some (.slice Y2 yset.length r2) := by subst hWX; go_simp
              have m4 : WX.cell? ⟨w2.heap.size, 4, none⟩ = some (.slice Y3 yy.length r3) := by subst hWX; go_simp
              have hwx : Below w2.heap.size w2 WX := by rw [← hWX]; (repeat (first | exact Below.refl _ _ | with_reducible assumption | refine Below.drew ?_ | (refine Below.alloc ?_ (by simp) _) | (refine Below.alloc ?_ (by simp; omega) _)))
              have hsx : w2.heap.size < WX.heap.size := by rw [← hWX]; simp
              have HWX := Lib.hid hWX
              clear hWX
              have CS := Lib.hid (fun W (hW : Below WX.heap.size WX W) => sameO_any (HN.out.move (w' := W) (fun k hk hl => ⟨trivial, (hwx.trans (hW.mono hwx.size)).block k hl⟩)) (XAt.move (w' := W) (fun k hk hl => ⟨trivial, (hwx.trans (hW.mono hwx.size)).block k hl⟩) _ _ HX.out) HFIT.out)
              have HBX := Lib.hid (HB2.out.trans (hwx.mono HB2.out.size))
              have HS : Hid (∀ W, Below WX.heap.size WX W → S5 w2.heap.size (.int .i64 (yk : Nat)) (.int .u64 (yh : Nat)) (.slice Y1 yp.length r1) (.slice Y2 yset.length r2) (.slice Y3 yy.length r3) W) := Lib.hid fun W hW => S5.block (hW.block _ hsx) ⟨m0, m1, m2, m3, m4⟩
              have HXW := Lib.hid (fun W (hW : Below WX.heap.size WX W) => XAt.move (ok' := AllB) (w' := W) (fun k hk hl => ⟨trivial, (hwx.trans (hW.mono hwx.size)).block k hl⟩) _ _ HX.out)
              have HNW := Lib.hid (fun W (hW : Below WX.heap.size WX W) => HN.out.move (ok' := AllB) (w' := W) (fun k hk hl => ⟨trivial, (hwx.trans (hW.mono hwx.size)).block k hl⟩))
              have hSd := HS.out WX.drew (by (repeat (first | exact Below.refl _ _ | with_reducible assumption | refine Below.drew ?_ | refine b_drewN ?_ _ | (refine Below.alloc ?_ (by simp) _) | (refine Below.alloc ?_ (by simp; omega) _))))
              clear m0 m1 m2 m3 m4 hwx
              go_wp2_with fail
              rw [HWX.out]
              rw [Bw.N.count] at CC
              have CT := Lib.hid (fun W (hW : Below WX.heap.size WX W) => bucket_count (HNW.out W hW))
              go_region_held3 (S5 w2.heap.size (.int .i64 (yk : Nat)) (.int .u64 (yh : Nat)) (.slice Y1 yp.length r1) (.slice Y2 yset.length r2) (.slice Y3 yy.length r3))
                (first | with_reducible exact hS4 | with_reducible exact hS3 | with_reducible exact hSd)
                ((first
                | (go_at_call 9; (with_reducible refine (CS.out _ (by (repeat (first | exact Below.refl _ _ | with_reducible assumption | refine Below.drew ?_ | refine b_drewN ?_ _ | (refine Below.alloc ?_ (by simp) _) | (refine Below.alloc ?_ (by simp; omega) _))))).mono ?_); rintro e w3 ⟨rfl, hb3⟩; have hw3 : Below WX.heap.size WX w3 := Below.trans (by (repeat (first | exact Below.refl _ _ | with_reducible assumption | refine Below.drew ?_ | refine b_drewN ?_ _ | (refine Below.alloc ?_ (by simp) _) | (refine Below.alloc ?_ (by simp; omega) _)))) (hb3.mono (by simp)); have hS3 := HS.out w3 hw3)
                | (go_at_call 106; (with_reducible refine (CT.out _ hw3).mono ?_); rintro e w5 ⟨rfl, rfl⟩)
                | (go_at_call 10; (with_reducible refine (CC.out _ (HXW.out _ hw3)).mono ?_); rintro e w4 ⟨rfl, hb4⟩; have hw4 : Below WX.heap.size WX w4 := hw3.trans (hb4.mono hw3.size); have hS4 := HS.out w4 hw4)
                ))
              all_goals go_wp2
              all_goals exact ⟨⟨k + 1, HLT.out, int_succ HLT.out (Nat.le_trans HL.out (by decide)), HBX.out.trans (hw4.mono HBX.out.size)⟩, less_succ HLT.out (Nat.le_trans HL.out (by decide))⟩
            | branch mm kids =>
              have h9 := HN.out
              simp only [ONodeAt, NodeAt] at h9
              obtain ⟨b2, _, _, _, rfl, _⟩ := h9
              have hmth := method_branch ⟨b2, 0, none⟩
              obtain ⟨WX, hWX⟩ : ∃ WX, w2.alloc (.cells #[.int .i64 (yk : Nat), .int .u64 (yh : Nat), .slice Y1 yp.length r1, .slice Y2 yset.length r2, .slice Y3 yy.length r3] 32) = WX := ⟨_, rfl⟩
              have m0 : WX.cell? ⟨w2.heap.size, 0, none⟩ = some (.int .i64 (yk : Nat)) := by subst hWX; go_simp
              have m1 : WX.cell? ⟨w2.heap.size, 1, none⟩ = some (.int .u64 (yh : Nat)) := by subst hWX; go_simp
              have m2 : WX.cell? ⟨w2.heap.size, 2, none⟩ = some (.slice Y1 yp.length r1) := by subst hWX; go_simp
              have m3 : WX.cell? ⟨w2.heap.size, 3, none⟩ = some (.slice Y2 yset.length r2) := by subst hWX; go_simp
              have m4 : WX.cell? ⟨w2.heap.size, 4, none⟩ = some (.slice Y3 yy.length r3) := by subst hWX; go_simp
              have hwx : Below w2.heap.size w2 WX := by rw [← hWX]; (repeat (first | exact Below.refl _ _ | with_reducible assumption | refine Below.drew ?_ | (refine Below.alloc ?_ (by simp) _) | (refine Below.alloc ?_ (by simp; omega) _)))
              have hsx : w2.heap.size < WX.heap.size := by rw [← hWX]; simp
              have HWX := Lib.hid hWX
              clear hWX
              have CS := Lib.hid (fun W (hW : Below WX.heap.size WX W) => sameO_any (HN.out.move (w' := W) (fun k hk hl => ⟨trivial, (hwx.trans (hW.mono hwx.size)).block k hl⟩)) (XAt.move (w' := W) (fun k hk hl => ⟨trivial, (hwx.trans (hW.mono hwx.size)).block k hl⟩) _ _ HX.out) HFIT.out)
              have HBX := Lib.hid (HB2.out.trans (hwx.mono HB2.out.size))
              have HS : Hid (∀ W, Below WX.heap.size WX W → S5 w2.heap.size (.int .i64 (yk : Nat)) (.int .u64 (yh : Nat)) (.slice Y1 yp.length r1) (.slice Y2 yset.length r2) (.slice Y3 yy.length r3) W) := Lib.hid fun W hW => S5.block (hW.block _ hsx) ⟨m0, m1, m2, m3, m4⟩
              have HXW := Lib.hid (fun W (hW : Below WX.heap.size WX W) => XAt.move (ok' := AllB) (w' := W) (fun k hk hl => ⟨trivial, (hwx.trans (hW.mono hwx.size)).block k hl⟩) _ _ HX.out)
              have HNW := Lib.hid (fun W (hW : Below WX.heap.size WX W) => HN.out.move (ok' := AllB) (w' := W) (fun k hk hl => ⟨trivial, (hwx.trans (hW.mono hwx.size)).block k hl⟩))
              have hSd := HS.out WX.drew (by (repeat (first | exact Below.refl _ _ | with_reducible assumption | refine Below.drew ?_ | refine b_drewN ?_ _ | (refine Below.alloc ?_ (by simp) _) | (refine Below.alloc ?_ (by simp; omega) _))))
              clear m0 m1 m2 m3 m4 hwx
              go_wp2_with fail
              rw [HWX.out]
              rw [Bw.N.count] at CC
              have CT := Lib.hid (fun W (hW : Below WX.heap.size WX W) => branch_count (HNW.out W hW))
              go_region_held3 (S5 w2.heap.size (.int .i64 (yk : Nat)) (.int .u64 (yh : Nat)) (.slice Y1 yp.length r1) (.slice Y2 yset.length r2) (.slice Y3 yy.length r3))
                (first | with_reducible exact hS4 | with_reducible exact hS3 | with_reducible exact hSd)
                ((first
                | (go_at_call 9; (with_reducible refine (CS.out _ (by (repeat (first | exact Below.refl _ _ | with_reducible assumption | refine Below.drew ?_ | refine b_drewN ?_ _ | (refine Below.alloc ?_ (by simp) _) | (refine Below.alloc ?_ (by simp; omega) _))))).mono ?_); rintro e w3 ⟨rfl, hb3⟩; have hw3 : Below WX.heap.size WX w3 := Below.trans (by (repeat (first | exact Below.refl _ _ | with_reducible assumption | refine Below.drew ?_ | refine b_drewN ?_ _ | (refine Below.alloc ?_ (by simp) _) | (refine Below.alloc ?_ (by simp; omega) _)))) (hb3.mono (by simp)); have hS3 := HS.out w3 hw3)
                | (go_at_call 108; (with_reducible refine (CT.out _ hw3).mono ?_); rintro e w5 ⟨rfl, rfl⟩)
                | (go_at_call 10; (with_reducible refine (CC.out _ (HXW.out _ hw3)).mono ?_); rintro e w4 ⟨rfl, hb4⟩; have hw4 : Below WX.heap.size WX w4 := hw3.trans (hb4.mono hw3.size); have hS4 := HS.out w4 hw4)
                ))
              all_goals go_wp2
              all_goals exact ⟨⟨k + 1, HLT.out, int_succ HLT.out (Nat.le_trans HL.out (by decide)), HBX.out.trans (hw4.mono HBX.out.size)⟩, less_succ HLT.out (Nat.le_trans HL.out (by decide))⟩
      · obtain rfl : k = l.length := by omega
        have HBW := Lib.hid hBw
        clear hlt hBw
        go_wp2_with fail
        refine (awake_any _).mono ?_
        rintro e w2 ⟨rfl, hb2⟩
        have HB2 := Lib.hid (HBW.out.trans (hb2.mono HBW.out.size))
        clear hb2
        go_wp2
        go_ret
        exact ⟨rfl, HB2.out⟩
end Go.Proofs.Ytkblhilaeecdlaa
