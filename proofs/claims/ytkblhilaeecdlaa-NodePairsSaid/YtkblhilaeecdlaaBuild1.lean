
import Derived.Test.YtkblhilaeecdlaaLawA
namespace Go.Proofs.Ytkblhilaeecdlaa
open Go.RowKit Go.Bw

/-- what build tells -/
def BuildTold (w : World) (o : Option Bw.N) (r : Value) (w' : World) : Prop :=
  ∃ nv cs, r = .tuple #[nv, .agg cs.toArray] ∧ ONodeAt nt (fun k => w.heap.size ≤ k) w' nv o ∧ xK (fun k => w.heap.size ≤ k) w' (Bw.absO o) cs

theorem small_bounds {l : List Bw.PV} {n : Nat} (h : smallB l n = true) : l.length ≤ n ∧ ∀ p ∈ l, p.1.length ≤ 1048576 ∧ p.2.length ≤ 1048576 := by
  unfold smallB at h
  rw [Bool.and_eq_true, decide_eq_true_iff, List.all_eq_true] at h
  refine ⟨h.1, fun p hp => ?_⟩
  have := h.2 p hp
  unfold pairOk at this
  rw [Bool.and_eq_true, decide_eq_true_iff, decide_eq_true_iff] at this
  omega

theorem five_cells {W : World} {b : Nat} {t : TypeId} {a0 a1 a2 a3 a4 : Value} (h : W.heap[b]? = some (.cells #[a0, a1, a2, a3, a4] t (0, 0))) :
    (W.cell? ⟨b, 0, none⟩ = some a0 ∧ W.cell? ⟨b, 1, none⟩ = some a1 ∧ W.cell? ⟨b, 2, none⟩ = some a2 ∧ W.cell? ⟨b, 3, none⟩ = some a3 ∧ W.cell? ⟨b, 4, none⟩ = some a4) ∧
    (W.frozen? ⟨b, 0, none⟩ = false ∧ W.frozen? ⟨b, 1, none⟩ = false ∧ W.frozen? ⟨b, 2, none⟩ = false ∧ W.frozen? ⟨b, 3, none⟩ = false ∧ W.frozen? ⟨b, 4, none⟩ = false) := by
  simp [World.cell?, World.frozen?, h]

theorem moves_set5 {n : Nat} {W : World} (a b c d e : Value) : Moves (fun k => n < k) (fun k => n ≤ k) W (((((W.setCell ⟨n, 0, none⟩ a).setCell ⟨n, 1, none⟩ b).setCell ⟨n, 2, none⟩ c).setCell ⟨n, 3, none⟩ d).setCell ⟨n, 4, none⟩ e) := by
  intro k hk hl
  refine ⟨Nat.le_of_lt hk, ?_⟩
  have hne : k ≠ n := by omega
  rw [Below.heap_setCell _ _ _ _ hne, Below.heap_setCell _ _ _ _ hne, Below.heap_setCell _ _ _ _ hne, Below.heap_setCell _ _ _ _ hne, Below.heap_setCell _ _ _ _ hne]

theorem below_set5 {n : Nat} {w W : World} (h : Below n w W) (a b c d e : Value) : Below n w (((((W.setCell ⟨n, 0, none⟩ a).setCell ⟨n, 1, none⟩ b).setCell ⟨n, 2, none⟩ c).setCell ⟨n, 3, none⟩ d).setCell ⟨n, 4, none⟩ e) :=
  ((((h.setCell (Nat.le_refl _) a).setCell (Nat.le_refl _) b).setCell (Nat.le_refl _) c).setCell (Nat.le_refl _) d).setCell (Nat.le_refl _) e

set_option maxRecDepth 100000 in
set_option maxHeartbeats 2000000 in
theorem build_flat {l : List Bw.Plan} {i : Nat} {v : Value} {w : World} {q : Bw.Plan} (hq : l[i]? = some q) (hbr : q.branch = false) (hsm : smallB q.pairs 12 = true) (hr : PlansAt AllB w v l) :
    Calls Try.prog 8 #[v, .int .i64 (i : Nat)] w (Gives w (BuildTold w (Bw.bucketO q.hash (Bw.T.from (Bw.come q.pairs))))) := by
  obtain ⟨A, c, rfl⟩ := hr.form
  obtain ⟨b, o, vp, vk, rfl, hob, d0, d1, d2, d3, d4, hp, hkk⟩ := plan_get hr hq
  obtain ⟨U1, cu1, rfl⟩ := hp.form
  obtain ⟨U2, cu2, rfl⟩ := hkk.form
  obtain ⟨hl12, hpb⟩ := small_bounds hsm
  have hil := (List.getElem?_eq_some_iff.1 hq).1
  have hbl := World.block_lt_of_cell? w _ d0
  dsimp only at hbl
  have h0 : (0 : Int) ≤ (i : Int) := by omega
  have h1 : (i : Int) < (l.length : Int) := by omega
  obtain ⟨qb, qh, qp, qs, qk⟩ := q
  dsimp only at *
  subst hbr
  have hg1 : ∃ WP, ((w.alloc (.cells #[.int .i64 0, .int .u64 0, .slice none 0 0, .slice none 0 0, .slice none 0 0] 32)).alloc (.cells #[.bool false, .int .u64 (qh : Nat), .slice U1 qp.length cu1, .int .u32 (qs : Nat), .slice U2 qk.length cu2] 49)) = WP := ⟨_, rfl⟩
  obtain ⟨WP, hWP⟩ := hg1
  have hB2 : Below w.heap.size w WP := by rw [← hWP]; (repeat (first | exact Below.refl _ _ | with_reducible assumption | refine Below.drew ?_ | refine b_drewN ?_ _ | (refine Below.alloc ?_ (by simp) _) | (refine Below.alloc ?_ (by simp; omega) _)))
  have hsz : w.heap.size + 2 ≤ WP.heap.size := by rw [← hWP]; simp
  have e0 : WP.cell? ⟨w.heap.size + 1, 0, none⟩ = some (.bool false) := by subst hWP; go_simp
  have e1 : WP.cell? ⟨w.heap.size + 1, 1, none⟩ = some (.int .u64 (qh : Nat)) := by subst hWP; go_simp
  have e2 : WP.cell? ⟨w.heap.size + 1, 2, none⟩ = some (.slice U1 qp.length cu1) := by subst hWP; go_simp
  have gb : WP.heap[w.heap.size]? = some (.cells #[.int .i64 0, .int .u64 0, .slice none 0 0, .slice none 0 0, .slice none 0 0] 32 (0, 0)) := by
    subst hWP
    rw [heap_alloc_old _ _ (by simp)]
    exact heap_alloc_new w _
  have HP := Lib.hid hp
  have COF := Lib.hid (of_any (by omega) (hp.move goodPair (Moves.below hB2)))
  have HWP := Lib.hid hWP
  have HB2 := Lib.hid hB2
  have HL := Lib.hid hl12
  have HPB := Lib.hid hpb
  have HG : Hid (∀ W, Below WP.heap.size WP W → (W.cell? ⟨w.heap.size + 1, 0, none⟩ = some (.bool false) ∧ W.cell? ⟨w.heap.size + 1, 1, none⟩ = some (.int .u64 (qh : Nat)) ∧ W.cell? ⟨w.heap.size + 1, 2, none⟩ = some (.slice U1 qp.length cu1)) ∧
      W.heap[w.heap.size]? = some (.cells #[.int .i64 0, .int .u64 0, .slice none 0 0, .slice none 0 0, .slice none 0 0] 32 (0, 0))) :=
    Lib.hid fun W hW => ⟨⟨(hW.cell (by simp; omega)).trans e0, (hW.cell (by simp; omega)).trans e1, (hW.cell (by simp; omega)).trans e2⟩, (hW.block _ (by omega)).trans gb⟩
  clear hr hq hp hkk hsm hWP hB2 hl12 hpb
  go_enter Try.func8, Try.ntmps8
  go_wp2_with fail
  rw [HWP.out]
  refine COF.out.mono ?_
  rintro e w1 ⟨q1, rfl, hq1, hb1⟩
  have CCO := Lib.hid (rcome_any (by have := HL.out; omega) (fun p hp => (HPB.out p hp).1) hq1)
  have HB1 := Lib.hid hb1
  clear hq1 hb1 e0 e1 e2 gb d0 d1 d2 d3 d4
  go_wp2_with fail
  refine CCO.out.mono ?_
  rintro e w2 ⟨q2, rfl, hq2, hb2⟩
  have hb12 : Below WP.heap.size WP w2 := HB1.out.trans (hb2.mono HB1.out.size)
  obtain ⟨⟨f0, f1, f2⟩, gb⟩ := HG.out w2 hb12
  obtain ⟨M, cm, rfl⟩ := hq2.form
  have hsz2 : w.heap.size + 2 ≤ w2.heap.size := Nat.le_trans hsz hb12.size
  have hs3 : w.heap.size < w2.heap.size := by omega
  have hs4 : w.heap.size + 1 < w2.heap.size := by omega
  have HQ2 := Lib.hid (hq2.weaken goodSp (ok' := fun k => w.heap.size < k) (fun k hk => by have := HB1.out.size; omega))
  have HB12 := Lib.hid hb12
  clear hq2 hb2 hb12
  generalize hmm : Bw.come qp = m at *
  have HM := Lib.hid hmm
  have HML : Hid (m.length ≤ 1048576) := Lib.hid (by have := Bw.length_come qp; rw [hmm] at this; have := HL.out; omega)
  have HMB : Hid (∀ p ∈ m, p.1.length ≤ 1048576 ∧ p.2.length ≤ 1048576) := Lib.hid (fun p hp => HPB.out p (Bw.mem_come (by rw [hmm]; exact hp)))
  clear hmm
  by_cases hm0 : m.length = 0
  · have hm1 : (m.length : Int) = 0 := by omega
    have hbo : Bw.bucketO qh (Bw.T.from m) = none := by unfold Bw.bucketO; rw [Bw.T.size_from, if_pos hm0]
    clear hm0
    obtain ⟨K, hK⟩ : ∃ K : Int, K = 0 := ⟨_, rfl⟩
    obtain ⟨H, hH⟩ : ∃ H : Int, H = 0 := ⟨_, rfl⟩
    obtain ⟨P2, hP2⟩ : ∃ P2 : Option Addr, P2 = none := ⟨_, rfl⟩
    obtain ⟨n2, hn2⟩ : ∃ n2 : Nat, n2 = 0 := ⟨_, rfl⟩
    obtain ⟨c2, hc2⟩ : ∃ c2 : Nat, c2 = 0 := ⟨_, rfl⟩
    have HXK : Hid (∀ W, Below w2.heap.size w2 W → xK (fun k => w.heap.size < k) W (Bw.absO (Bw.bucketO qh (Bw.T.from m))) [.int .i64 K, .int .u64 H, .slice P2 n2 c2, .slice none 0 0, .slice none 0 0]) := Lib.hid fun W hW => by
      subst hK hH hP2 hn2 hc2
      rw [hbo]; exact xK_zero
    clear hbo
    go_wp2_with fail
    obtain ⟨W3, hW3⟩ : ∃ W3, (w2.alloc (.cells #[.int .i64 0, .int .u64 0, .slice none 0 0, .slice none 0 0, .slice none 0 0] 32)) = W3 := ⟨_, rfl⟩
    have y0 : W3.cell? ⟨w2.heap.size, 0, none⟩ = some (.int .i64 K) := by subst hK hW3; go_simp
    have y1 : W3.cell? ⟨w2.heap.size, 1, none⟩ = some (.int .u64 H) := by subst hH hW3; go_simp
    have y2 : W3.cell? ⟨w2.heap.size, 2, none⟩ = some (.slice P2 n2 c2) := by subst hP2 hn2 hc2 hW3; go_simp
    have y3 : W3.cell? ⟨w2.heap.size, 3, none⟩ = some (.slice none 0 0) := by subst hW3; go_simp
    have y4 : W3.cell? ⟨w2.heap.size, 4, none⟩ = some (.slice none 0 0) := by subst hW3; go_simp
    clear hK hH hP2 hn2 hc2
    have hB3 : Below w2.heap.size w2 W3 := by rw [← hW3]; (repeat (first | exact Below.refl _ _ | with_reducible assumption | refine Below.drew ?_ | refine b_drewN ?_ _ | (refine Below.alloc ?_ (by simp) _) | (refine Below.alloc ?_ (by simp; omega) _)))
    have hsz3 : w2.heap.size < W3.heap.size := by rw [← hW3]; simp
    rw [hW3]
    have HB3 := Lib.hid hB3
    have f1' := (hB3.cell (p := ⟨w.heap.size + 1, 1, none⟩) hs4).trans f1
    have f2' := (hB3.cell (p := ⟨w.heap.size + 1, 2, none⟩) hs4).trans f2
    have gb' := (hB3.block _ hs3).trans gb
    have HY : Hid (∀ W, Below W3.heap.size W3 W → (fun w' => (w'.cell? ⟨w2.heap.size, 0, none⟩ = some (.int .i64 K) ∧ w'.cell? ⟨w2.heap.size, 1, none⟩ = some (.int .u64 H) ∧ w'.cell? ⟨w2.heap.size, 2, none⟩ = some (.slice P2 n2 c2) ∧ w'.cell? ⟨w2.heap.size, 3, none⟩ = some (.slice none 0 0) ∧ w'.cell? ⟨w2.heap.size, 4, none⟩ = some (.slice none 0 0)) ∧ w'.cell? ⟨w.heap.size + 1, 1, none⟩ = some (.int .u64 (qh : Nat)) ∧ w'.cell? ⟨w.heap.size + 1, 2, none⟩ = some (.slice U1 qp.length cu1)) W) := Lib.hid fun W hW =>
      ⟨⟨(hW.cell hsz3).trans y0, (hW.cell hsz3).trans y1, (hW.cell hsz3).trans y2, (hW.cell hsz3).trans y3, (hW.cell hsz3).trans y4⟩, (hW.cell (Nat.lt_trans hs4 hsz3)).trans f1', (hW.cell (Nat.lt_trans hs4 hsz3)).trans f2'⟩
    have hnn : ¬ (w2.heap.size = w.heap.size) := by omega
    have hnn2 : ¬ (w.heap.size = w2.heap.size) := by omega
    have hS3 := HY.out W3 (Below.refl _ _)
    have hS3d := HY.out W3.drew (by (repeat (first | exact Below.refl _ _ | with_reducible assumption | refine Below.drew ?_ | refine b_drewN ?_ _ | (refine Below.alloc ?_ (by simp) _) | (refine Below.alloc ?_ (by simp; omega) _))))
    have HGB : Hid (∀ W, Below W3.heap.size W3 W → (W.cell? ⟨w.heap.size, 0, none⟩ = some (.int .i64 0) ∧ W.cell? ⟨w.heap.size, 1, none⟩ = some (.int .u64 0) ∧ W.cell? ⟨w.heap.size, 2, none⟩ = some (.slice none 0 0) ∧ W.cell? ⟨w.heap.size, 3, none⟩ = some (.slice none 0 0) ∧ W.cell? ⟨w.heap.size, 4, none⟩ = some (.slice none 0 0)) ∧
        (W.frozen? ⟨w.heap.size, 0, none⟩ = false ∧ W.frozen? ⟨w.heap.size, 1, none⟩ = false ∧ W.frozen? ⟨w.heap.size, 2, none⟩ = false ∧ W.frozen? ⟨w.heap.size, 3, none⟩ = false ∧ W.frozen? ⟨w.heap.size, 4, none⟩ = false)) := Lib.hid fun W hW => five_cells ((hW.block _ (Nat.lt_trans hs3 hsz3)).trans gb')
    have HBW3 : Hid (Below w.heap.size w W3) := Lib.hid (HB2.out.trans ((HB12.out.trans (hB3.mono HB12.out.size)).mono HB2.out.size))
    have CCM : Hid (∀ W, Below w.heap.size w W → Calls Try.prog 22 #[.slice U1 qp.length cu1] W (Gives W fun q w' => PairsAt (fun k => W.heap.size ≤ k) w' q m)) := Lib.hid fun W hW => by
      have := pcome_any (by have := HL.out; omega) HPB.out (HP.out.move goodPair (Moves.below hW))
      rwa [Bw.lastOf_sortS, HM.out] at this
    clear hB3 hW3 f1 f2 gb gb' f0
    go_region_held3 (fun w' => (w'.cell? ⟨w2.heap.size, 0, none⟩ = some (.int .i64 K) ∧ w'.cell? ⟨w2.heap.size, 1, none⟩ = some (.int .u64 H) ∧ w'.cell? ⟨w2.heap.size, 2, none⟩ = some (.slice P2 n2 c2) ∧ w'.cell? ⟨w2.heap.size, 3, none⟩ = some (.slice none 0 0) ∧ w'.cell? ⟨w2.heap.size, 4, none⟩ = some (.slice none 0 0)) ∧ w'.cell? ⟨w.heap.size + 1, 1, none⟩ = some (.int .u64 (qh : Nat)) ∧ w'.cell? ⟨w.heap.size + 1, 2, none⟩ = some (.slice U1 qp.length cu1))
      (first | with_reducible exact hS6 | with_reducible exact hS5 | with_reducible exact hS4 | with_reducible exact hS3d | with_reducible exact hS3 | (obtain ⟨⟨y0, y1, y2, y3, y4⟩, f1', f2'⟩ := hS6; go_simp))
      ((first
        | (go_at_call 22; (with_reducible refine (CCM.out _ (HBW3.out.trans (Below.mono (by (repeat (first | exact Below.refl _ _ | with_reducible assumption | refine Below.drew ?_ | refine b_drewN ?_ _ | (refine Below.alloc ?_ (by simp) _) | (refine Below.alloc ?_ (by simp; omega) _)))) HBW3.out.size))).mono ?_); rintro e w4 ⟨q4, rfl, hq4, hb4⟩; have hw4 : Below W3.heap.size W3 w4 := Below.trans (by (repeat (first | exact Below.refl _ _ | with_reducible assumption | refine Below.drew ?_ | refine b_drewN ?_ _ | (refine Below.alloc ?_ (by simp) _) | (refine Below.alloc ?_ (by simp; omega) _)))) (hb4.mono (by simp)); have hS4 := HY.out w4 hw4; have hz4 : w2.heap.size < w4.heap.size := Nat.lt_of_lt_of_le hsz3 hw4.size; have HQ4 := Lib.hid hq4; clear hq4)
        | (go_at_call 21; (with_reducible refine (from_any 1048576 m _ _ w4 HML.out (Nat.le_refl _) HMB.out HQ4.out).mono ?_); rintro e w5 ⟨q5, rfl, hq5, hb5⟩; have hw5 : Below W3.heap.size W3 w5 := hw4.trans (hb5.mono hw4.size); have hS5 := HY.out w5 hw5; have hz5 : w2.heap.size < w5.heap.size := Nat.lt_of_lt_of_le hsz3 hw5.size; have HQ5 := Lib.hid (TreeAt.move (ok' := fun k => w.heap.size < k) (Moves.weaken fun k hk _ => by omega) _ _ hq5); clear hq5)
        | (go_at_call 20; (with_reducible refine (bucket_any HQ5.out (by rw [Bw.T.list_from]; exact HMB.out) (fun k hk => by omega)).mono ?_); rintro e w6 ⟨q6, rfl, hq6, hb6⟩; have hw6 : Below W3.heap.size W3 w6 := hw5.trans (hb6.mono hw5.size); have hS6 := HY.out w6 hw6; obtain ⟨⟨g0, g1, g2, g3, g4⟩, k0, k1, k2, k3, k4⟩ := HGB.out w6 hw6; have hz6 : w2.heap.size < w6.heap.size := Nat.lt_of_lt_of_le hsz3 hw6.size; have HQ6 := Lib.hid hq6; clear hq6)))
    all_goals go_wp2
    refine bodyPost_ret (v := .tuple #[q6, .agg #[.int .i64 K, .int .u64 H, .slice P2 n2 c2, .slice none 0 0, .slice none 0 0]]) (by simp [results, Try.results8, go_sem, g0, g1, g2, g3, g4]) rfl ⟨_, rfl, ⟨q6, [.int .i64 K, .int .u64 H, .slice P2 n2 c2, .slice none 0 0, .slice none 0 0], rfl, ?_, ?_⟩, ?_⟩
    · exact HQ6.out.move (moves_set5 _ _ _ _ _)
    · exact XAt.move (moves_set5 _ _ _ _ _) _ _ (HXK.out _ (HB3.out.trans (hw6.mono HB3.out.size)))
    · exact below_set5 (HBW3.out.trans (hw6.mono HBW3.out.size)) _ _ _ _ _
  by_cases hmo : m.length = 1
  · have hm1 : (m.length : Int) = 1 := by omega
    have hbo : Bw.bucketO qh (Bw.T.from m) = some (.leaf qh (Bw.T.from m).root) := by unfold Bw.bucketO; rw [Bw.T.size_from, if_neg hm0, if_pos hmo]
    have hroot : [(Bw.T.from m).root] = m := by
      match m, hmo with
      | [x], _ => simp [Bw.T.from, Bw.T.root]
    clear hm0 hmo
    obtain ⟨K, hK⟩ : ∃ K : Int, K = 1 := ⟨_, rfl⟩
    obtain ⟨H, hH⟩ : ∃ H : Int, H = (qh : Nat) := ⟨_, rfl⟩
    obtain ⟨P2, hP2⟩ : ∃ P2 : Option Addr, P2 = M := ⟨_, rfl⟩
    obtain ⟨n2, hn2⟩ : ∃ n2 : Nat, n2 = m.length := ⟨_, rfl⟩
    obtain ⟨c2, hc2⟩ : ∃ c2 : Nat, c2 = cm := ⟨_, rfl⟩
    have HXK : Hid (∀ W, Below w2.heap.size w2 W → xK (fun k => w.heap.size < k) W (Bw.absO (Bw.bucketO qh (Bw.T.from m))) [.int .i64 K, .int .u64 H, .slice P2 n2 c2, .slice none 0 0, .slice none 0 0]) := Lib.hid fun W hW => by
      subst hK hH hP2 hn2 hc2
      rw [hbo]; refine xK_iff.2 ⟨_, _, _, rfl, ?_, RowAt.nil, RowAt.nil⟩; rw [hroot]; exact HQ2.out.move goodSp (Moves.below hW)
    clear hbo
    go_wp2_with fail
    obtain ⟨W3, hW3⟩ : ∃ W3, (w2.alloc (.cells #[.int .i64 1, .int .u64 (qh : Nat), .slice M m.length cm, .slice none 0 0, .slice none 0 0] 32)) = W3 := ⟨_, rfl⟩
    have y0 : W3.cell? ⟨w2.heap.size, 0, none⟩ = some (.int .i64 K) := by subst hK hW3; go_simp
    have y1 : W3.cell? ⟨w2.heap.size, 1, none⟩ = some (.int .u64 H) := by subst hH hW3; go_simp
    have y2 : W3.cell? ⟨w2.heap.size, 2, none⟩ = some (.slice P2 n2 c2) := by subst hP2 hn2 hc2 hW3; go_simp
    have y3 : W3.cell? ⟨w2.heap.size, 3, none⟩ = some (.slice none 0 0) := by subst hW3; go_simp
    have y4 : W3.cell? ⟨w2.heap.size, 4, none⟩ = some (.slice none 0 0) := by subst hW3; go_simp
    clear hK hH hP2 hn2 hc2
    have hB3 : Below w2.heap.size w2 W3 := by rw [← hW3]; (repeat (first | exact Below.refl _ _ | with_reducible assumption | refine Below.drew ?_ | refine b_drewN ?_ _ | (refine Below.alloc ?_ (by simp) _) | (refine Below.alloc ?_ (by simp; omega) _)))
    have hsz3 : w2.heap.size < W3.heap.size := by rw [← hW3]; simp
    rw [hW3]
    have HB3 := Lib.hid hB3
    have f1' := (hB3.cell (p := ⟨w.heap.size + 1, 1, none⟩) hs4).trans f1
    have f2' := (hB3.cell (p := ⟨w.heap.size + 1, 2, none⟩) hs4).trans f2
    have gb' := (hB3.block _ hs3).trans gb
    have HY : Hid (∀ W, Below W3.heap.size W3 W → (fun w' => (w'.cell? ⟨w2.heap.size, 0, none⟩ = some (.int .i64 K) ∧ w'.cell? ⟨w2.heap.size, 1, none⟩ = some (.int .u64 H) ∧ w'.cell? ⟨w2.heap.size, 2, none⟩ = some (.slice P2 n2 c2) ∧ w'.cell? ⟨w2.heap.size, 3, none⟩ = some (.slice none 0 0) ∧ w'.cell? ⟨w2.heap.size, 4, none⟩ = some (.slice none 0 0)) ∧ w'.cell? ⟨w.heap.size + 1, 1, none⟩ = some (.int .u64 (qh : Nat)) ∧ w'.cell? ⟨w.heap.size + 1, 2, none⟩ = some (.slice U1 qp.length cu1)) W) := Lib.hid fun W hW =>
      ⟨⟨(hW.cell hsz3).trans y0, (hW.cell hsz3).trans y1, (hW.cell hsz3).trans y2, (hW.cell hsz3).trans y3, (hW.cell hsz3).trans y4⟩, (hW.cell (Nat.lt_trans hs4 hsz3)).trans f1', (hW.cell (Nat.lt_trans hs4 hsz3)).trans f2'⟩
    have hnn : ¬ (w2.heap.size = w.heap.size) := by omega
    have hnn2 : ¬ (w.heap.size = w2.heap.size) := by omega
    have hS3 := HY.out W3 (Below.refl _ _)
    have hS3d := HY.out W3.drew (by (repeat (first | exact Below.refl _ _ | with_reducible assumption | refine Below.drew ?_ | refine b_drewN ?_ _ | (refine Below.alloc ?_ (by simp) _) | (refine Below.alloc ?_ (by simp; omega) _))))
    have HGB : Hid (∀ W, Below W3.heap.size W3 W → (W.cell? ⟨w.heap.size, 0, none⟩ = some (.int .i64 0) ∧ W.cell? ⟨w.heap.size, 1, none⟩ = some (.int .u64 0) ∧ W.cell? ⟨w.heap.size, 2, none⟩ = some (.slice none 0 0) ∧ W.cell? ⟨w.heap.size, 3, none⟩ = some (.slice none 0 0) ∧ W.cell? ⟨w.heap.size, 4, none⟩ = some (.slice none 0 0)) ∧
        (W.frozen? ⟨w.heap.size, 0, none⟩ = false ∧ W.frozen? ⟨w.heap.size, 1, none⟩ = false ∧ W.frozen? ⟨w.heap.size, 2, none⟩ = false ∧ W.frozen? ⟨w.heap.size, 3, none⟩ = false ∧ W.frozen? ⟨w.heap.size, 4, none⟩ = false)) := Lib.hid fun W hW => five_cells ((hW.block _ (Nat.lt_trans hs3 hsz3)).trans gb')
    have HBW3 : Hid (Below w.heap.size w W3) := Lib.hid (HB2.out.trans ((HB12.out.trans (hB3.mono HB12.out.size)).mono HB2.out.size))
    have CCM : Hid (∀ W, Below w.heap.size w W → Calls Try.prog 22 #[.slice U1 qp.length cu1] W (Gives W fun q w' => PairsAt (fun k => W.heap.size ≤ k) w' q m)) := Lib.hid fun W hW => by
      have := pcome_any (by have := HL.out; omega) HPB.out (HP.out.move goodPair (Moves.below hW))
      rwa [Bw.lastOf_sortS, HM.out] at this
    clear hB3 hW3 f1 f2 gb gb' f0
    go_region_held3 (fun w' => (w'.cell? ⟨w2.heap.size, 0, none⟩ = some (.int .i64 K) ∧ w'.cell? ⟨w2.heap.size, 1, none⟩ = some (.int .u64 H) ∧ w'.cell? ⟨w2.heap.size, 2, none⟩ = some (.slice P2 n2 c2) ∧ w'.cell? ⟨w2.heap.size, 3, none⟩ = some (.slice none 0 0) ∧ w'.cell? ⟨w2.heap.size, 4, none⟩ = some (.slice none 0 0)) ∧ w'.cell? ⟨w.heap.size + 1, 1, none⟩ = some (.int .u64 (qh : Nat)) ∧ w'.cell? ⟨w.heap.size + 1, 2, none⟩ = some (.slice U1 qp.length cu1))
      (first | with_reducible exact hS6 | with_reducible exact hS5 | with_reducible exact hS4 | with_reducible exact hS3d | with_reducible exact hS3 | (obtain ⟨⟨y0, y1, y2, y3, y4⟩, f1', f2'⟩ := hS6; go_simp))
      ((first
        | (go_at_call 22; (with_reducible refine (CCM.out _ (HBW3.out.trans (Below.mono (by (repeat (first | exact Below.refl _ _ | with_reducible assumption | refine Below.drew ?_ | refine b_drewN ?_ _ | (refine Below.alloc ?_ (by simp) _) | (refine Below.alloc ?_ (by simp; omega) _)))) HBW3.out.size))).mono ?_); rintro e w4 ⟨q4, rfl, hq4, hb4⟩; have hw4 : Below W3.heap.size W3 w4 := Below.trans (by (repeat (first | exact Below.refl _ _ | with_reducible assumption | refine Below.drew ?_ | refine b_drewN ?_ _ | (refine Below.alloc ?_ (by simp) _) | (refine Below.alloc ?_ (by simp; omega) _)))) (hb4.mono (by simp)); have hS4 := HY.out w4 hw4; have hz4 : w2.heap.size < w4.heap.size := Nat.lt_of_lt_of_le hsz3 hw4.size; have HQ4 := Lib.hid hq4; clear hq4)
        | (go_at_call 21; (with_reducible refine (from_any 1048576 m _ _ w4 HML.out (Nat.le_refl _) HMB.out HQ4.out).mono ?_); rintro e w5 ⟨q5, rfl, hq5, hb5⟩; have hw5 : Below W3.heap.size W3 w5 := hw4.trans (hb5.mono hw4.size); have hS5 := HY.out w5 hw5; have hz5 : w2.heap.size < w5.heap.size := Nat.lt_of_lt_of_le hsz3 hw5.size; have HQ5 := Lib.hid (TreeAt.move (ok' := fun k => w.heap.size < k) (Moves.weaken fun k hk _ => by omega) _ _ hq5); clear hq5)
        | (go_at_call 20; (with_reducible refine (bucket_any HQ5.out (by rw [Bw.T.list_from]; exact HMB.out) (fun k hk => by omega)).mono ?_); rintro e w6 ⟨q6, rfl, hq6, hb6⟩; have hw6 : Below W3.heap.size W3 w6 := hw5.trans (hb6.mono hw5.size); have hS6 := HY.out w6 hw6; obtain ⟨⟨g0, g1, g2, g3, g4⟩, k0, k1, k2, k3, k4⟩ := HGB.out w6 hw6; have hz6 : w2.heap.size < w6.heap.size := Nat.lt_of_lt_of_le hsz3 hw6.size; have HQ6 := Lib.hid hq6; clear hq6)))
    all_goals go_wp2
    refine bodyPost_ret (v := .tuple #[q6, .agg #[.int .i64 K, .int .u64 H, .slice P2 n2 c2, .slice none 0 0, .slice none 0 0]]) (by simp [results, Try.results8, go_sem, g0, g1, g2, g3, g4]) rfl ⟨_, rfl, ⟨q6, [.int .i64 K, .int .u64 H, .slice P2 n2 c2, .slice none 0 0, .slice none 0 0], rfl, ?_, ?_⟩, ?_⟩
    · exact HQ6.out.move (moves_set5 _ _ _ _ _)
    · exact XAt.move (moves_set5 _ _ _ _ _) _ _ (HXK.out _ (HB3.out.trans (hw6.mono HB3.out.size)))
    · exact below_set5 (HBW3.out.trans (hw6.mono HBW3.out.size)) _ _ _ _ _
  · have hm1 : ((m.length : Int) == 0) = false := beq_eq_false_iff_ne.2 (by omega)
    have hm2 : ((m.length : Int) == 1) = false := beq_eq_false_iff_ne.2 (by omega)
    have hbo : Bw.bucketO qh (Bw.T.from m) = some (.bucket qh (Bw.T.from m)) := by unfold Bw.bucketO; rw [Bw.T.size_from, if_neg hm0, if_neg hmo]
    have hroot := Bw.T.list_from m
    clear hm0 hmo
    obtain ⟨K, hK⟩ : ∃ K : Int, K = 2 := ⟨_, rfl⟩
    obtain ⟨H, hH⟩ : ∃ H : Int, H = (qh : Nat) := ⟨_, rfl⟩
    obtain ⟨P2, hP2⟩ : ∃ P2 : Option Addr, P2 = M := ⟨_, rfl⟩
    obtain ⟨n2, hn2⟩ : ∃ n2 : Nat, n2 = m.length := ⟨_, rfl⟩
    obtain ⟨c2, hc2⟩ : ∃ c2 : Nat, c2 = cm := ⟨_, rfl⟩
    have HXK : Hid (∀ W, Below w2.heap.size w2 W → xK (fun k => w.heap.size < k) W (Bw.absO (Bw.bucketO qh (Bw.T.from m))) [.int .i64 K, .int .u64 H, .slice P2 n2 c2, .slice none 0 0, .slice none 0 0]) := Lib.hid fun W hW => by
      subst hK hH hP2 hn2 hc2
      rw [hbo]; refine xK_iff.2 ⟨_, _, _, rfl, ?_, RowAt.nil, RowAt.nil⟩; rw [hroot]; exact HQ2.out.move goodSp (Moves.below hW)
    clear hbo
    go_wp2_with fail
    obtain ⟨W3, hW3⟩ : ∃ W3, (w2.alloc (.cells #[.int .i64 2, .int .u64 (qh : Nat), .slice M m.length cm, .slice none 0 0, .slice none 0 0] 32)) = W3 := ⟨_, rfl⟩
    have y0 : W3.cell? ⟨w2.heap.size, 0, none⟩ = some (.int .i64 K) := by subst hK hW3; go_simp
    have y1 : W3.cell? ⟨w2.heap.size, 1, none⟩ = some (.int .u64 H) := by subst hH hW3; go_simp
    have y2 : W3.cell? ⟨w2.heap.size, 2, none⟩ = some (.slice P2 n2 c2) := by subst hP2 hn2 hc2 hW3; go_simp
    have y3 : W3.cell? ⟨w2.heap.size, 3, none⟩ = some (.slice none 0 0) := by subst hW3; go_simp
    have y4 : W3.cell? ⟨w2.heap.size, 4, none⟩ = some (.slice none 0 0) := by subst hW3; go_simp
    clear hK hH hP2 hn2 hc2
    have hB3 : Below w2.heap.size w2 W3 := by rw [← hW3]; (repeat (first | exact Below.refl _ _ | with_reducible assumption | refine Below.drew ?_ | refine b_drewN ?_ _ | (refine Below.alloc ?_ (by simp) _) | (refine Below.alloc ?_ (by simp; omega) _)))
    have hsz3 : w2.heap.size < W3.heap.size := by rw [← hW3]; simp
    rw [hW3]
    have HB3 := Lib.hid hB3
    have f1' := (hB3.cell (p := ⟨w.heap.size + 1, 1, none⟩) hs4).trans f1
    have f2' := (hB3.cell (p := ⟨w.heap.size + 1, 2, none⟩) hs4).trans f2
    have gb' := (hB3.block _ hs3).trans gb
    have HY : Hid (∀ W, Below W3.heap.size W3 W → (fun w' => (w'.cell? ⟨w2.heap.size, 0, none⟩ = some (.int .i64 K) ∧ w'.cell? ⟨w2.heap.size, 1, none⟩ = some (.int .u64 H) ∧ w'.cell? ⟨w2.heap.size, 2, none⟩ = some (.slice P2 n2 c2) ∧ w'.cell? ⟨w2.heap.size, 3, none⟩ = some (.slice none 0 0) ∧ w'.cell? ⟨w2.heap.size, 4, none⟩ = some (.slice none 0 0)) ∧ w'.cell? ⟨w.heap.size + 1, 1, none⟩ = some (.int .u64 (qh : Nat)) ∧ w'.cell? ⟨w.heap.size + 1, 2, none⟩ = some (.slice U1 qp.length cu1)) W) := Lib.hid fun W hW =>
      ⟨⟨(hW.cell hsz3).trans y0, (hW.cell hsz3).trans y1, (hW.cell hsz3).trans y2, (hW.cell hsz3).trans y3, (hW.cell hsz3).trans y4⟩, (hW.cell (Nat.lt_trans hs4 hsz3)).trans f1', (hW.cell (Nat.lt_trans hs4 hsz3)).trans f2'⟩
    have hnn : ¬ (w2.heap.size = w.heap.size) := by omega
    have hnn2 : ¬ (w.heap.size = w2.heap.size) := by omega
    have hS3 := HY.out W3 (Below.refl _ _)
    have hS3d := HY.out W3.drew (by (repeat (first | exact Below.refl _ _ | with_reducible assumption | refine Below.drew ?_ | refine b_drewN ?_ _ | (refine Below.alloc ?_ (by simp) _) | (refine Below.alloc ?_ (by simp; omega) _))))
    have HGB : Hid (∀ W, Below W3.heap.size W3 W → (W.cell? ⟨w.heap.size, 0, none⟩ = some (.int .i64 0) ∧ W.cell? ⟨w.heap.size, 1, none⟩ = some (.int .u64 0) ∧ W.cell? ⟨w.heap.size, 2, none⟩ = some (.slice none 0 0) ∧ W.cell? ⟨w.heap.size, 3, none⟩ = some (.slice none 0 0) ∧ W.cell? ⟨w.heap.size, 4, none⟩ = some (.slice none 0 0)) ∧
        (W.frozen? ⟨w.heap.size, 0, none⟩ = false ∧ W.frozen? ⟨w.heap.size, 1, none⟩ = false ∧ W.frozen? ⟨w.heap.size, 2, none⟩ = false ∧ W.frozen? ⟨w.heap.size, 3, none⟩ = false ∧ W.frozen? ⟨w.heap.size, 4, none⟩ = false)) := Lib.hid fun W hW => five_cells ((hW.block _ (Nat.lt_trans hs3 hsz3)).trans gb')
    have HBW3 : Hid (Below w.heap.size w W3) := Lib.hid (HB2.out.trans ((HB12.out.trans (hB3.mono HB12.out.size)).mono HB2.out.size))
    have CCM : Hid (∀ W, Below w.heap.size w W → Calls Try.prog 22 #[.slice U1 qp.length cu1] W (Gives W fun q w' => PairsAt (fun k => W.heap.size ≤ k) w' q m)) := Lib.hid fun W hW => by
      have := pcome_any (by have := HL.out; omega) HPB.out (HP.out.move goodPair (Moves.below hW))
      rwa [Bw.lastOf_sortS, HM.out] at this
    clear hB3 hW3 f1 f2 gb gb' f0
    go_region_held3 (fun w' => (w'.cell? ⟨w2.heap.size, 0, none⟩ = some (.int .i64 K) ∧ w'.cell? ⟨w2.heap.size, 1, none⟩ = some (.int .u64 H) ∧ w'.cell? ⟨w2.heap.size, 2, none⟩ = some (.slice P2 n2 c2) ∧ w'.cell? ⟨w2.heap.size, 3, none⟩ = some (.slice none 0 0) ∧ w'.cell? ⟨w2.heap.size, 4, none⟩ = some (.slice none 0 0)) ∧ w'.cell? ⟨w.heap.size + 1, 1, none⟩ = some (.int .u64 (qh : Nat)) ∧ w'.cell? ⟨w.heap.size + 1, 2, none⟩ = some (.slice U1 qp.length cu1))
      (first | with_reducible exact hS6 | with_reducible exact hS5 | with_reducible exact hS4 | with_reducible exact hS3d | with_reducible exact hS3 | (obtain ⟨⟨y0, y1, y2, y3, y4⟩, f1', f2'⟩ := hS6; go_simp))
      ((first
        | (go_at_call 22; (with_reducible refine (CCM.out _ (HBW3.out.trans (Below.mono (by (repeat (first | exact Below.refl _ _ | with_reducible assumption | refine Below.drew ?_ | refine b_drewN ?_ _ | (refine Below.alloc ?_ (by simp) _) | (refine Below.alloc ?_ (by simp; omega) _)))) HBW3.out.size))).mono ?_); rintro e w4 ⟨q4, rfl, hq4, hb4⟩; have hw4 : Below W3.heap.size W3 w4 := Below.trans (by (repeat (first | exact Below.refl _ _ | with_reducible assumption | refine Below.drew ?_ | refine b_drewN ?_ _ | (refine Below.alloc ?_ (by simp) _) | (refine Below.alloc ?_ (by simp; omega) _)))) (hb4.mono (by simp)); have hS4 := HY.out w4 hw4; have hz4 : w2.heap.size < w4.heap.size := Nat.lt_of_lt_of_le hsz3 hw4.size; have HQ4 := Lib.hid hq4; clear hq4)
        | (go_at_call 21; (with_reducible refine (from_any 1048576 m _ _ w4 HML.out (Nat.le_refl _) HMB.out HQ4.out).mono ?_); rintro e w5 ⟨q5, rfl, hq5, hb5⟩; have hw5 : Below W3.heap.size W3 w5 := hw4.trans (hb5.mono hw4.size); have hS5 := HY.out w5 hw5; have hz5 : w2.heap.size < w5.heap.size := Nat.lt_of_lt_of_le hsz3 hw5.size; have HQ5 := Lib.hid (TreeAt.move (ok' := fun k => w.heap.size < k) (Moves.weaken fun k hk _ => by omega) _ _ hq5); clear hq5)
        | (go_at_call 20; (with_reducible refine (bucket_any HQ5.out (by rw [Bw.T.list_from]; exact HMB.out) (fun k hk => by omega)).mono ?_); rintro e w6 ⟨q6, rfl, hq6, hb6⟩; have hw6 : Below W3.heap.size W3 w6 := hw5.trans (hb6.mono hw5.size); have hS6 := HY.out w6 hw6; obtain ⟨⟨g0, g1, g2, g3, g4⟩, k0, k1, k2, k3, k4⟩ := HGB.out w6 hw6; have hz6 : w2.heap.size < w6.heap.size := Nat.lt_of_lt_of_le hsz3 hw6.size; have HQ6 := Lib.hid hq6; clear hq6)))
    all_goals go_wp2
    refine bodyPost_ret (v := .tuple #[q6, .agg #[.int .i64 K, .int .u64 H, .slice P2 n2 c2, .slice none 0 0, .slice none 0 0]]) (by simp [results, Try.results8, go_sem, g0, g1, g2, g3, g4]) rfl ⟨_, rfl, ⟨q6, [.int .i64 K, .int .u64 H, .slice P2 n2 c2, .slice none 0 0, .slice none 0 0], rfl, ?_, ?_⟩, ?_⟩
    · exact HQ6.out.move (moves_set5 _ _ _ _ _)
    · exact XAt.move (moves_set5 _ _ _ _ _) _ _ (HXK.out _ (HB3.out.trans (hw6.mono HB3.out.size)))
    · exact below_set5 (HBW3.out.trans (hw6.mono HBW3.out.size)) _ _ _ _ _
end Go.Proofs.Ytkblhilaeecdlaa
