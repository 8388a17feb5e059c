
import Derived.Test.YtkblhilaeecdlaaDoorHash
import Derived.Test.YtkblhilaeecdlaaDoorUnder
import Derived.Test.YtkblhilaeecdlaaDoorWay
import Derived.Deep.RegionHeld3
import Derived.Deep.RegionLaw
namespace Go.Proofs.YtkblhilaeecdlaaDoor
open Go.RowKit Go.Bw

theorem _root_.Bw.X.rightL_append (level : Nat) (cs : List Nat) (a b : List Bw.X) : Bw.X.rightL level cs (a ++ b) = (Bw.X.rightL level cs a && Bw.X.rightL level (cs.drop a.length) b) := by
  induction a generalizing cs with
  | nil => simp [Bw.X.rightL]
  | cons k r ih => simp [Bw.X.rightL, ih, Bool.and_assoc, List.drop_tail]

theorem _root_.Bw.hashes_len {m : Nat} {kids : List Bw.N} {k : Bw.N} (hk : k ∈ kids) : k.abs.hashes.length ≤ (Bw.N.branch m kids).abs.hashes.length := by
  simp only [Bw.N.abs, Bw.X.hashes, if_true]
  induction kids with
  | nil => simp at hk
  | cons a r ih =>
    simp only [Bw.N.absL, Bw.X.hashesL, List.length_append]
    rcases List.mem_cons.1 hk with rfl | hk
    · omega
    · have := ih hk; omega

theorem xkid_get {ok : Nat → Prop} {w : World} {b o n c j : Nat} {xs : List Bw.X} {x : Bw.X} (h : RowAt 5 xK ok w (.slice (some ⟨b, o, none⟩) n c) xs) (hj : xs[j]? = some x) :
    ∃ cs, xK ok w x cs ∧ ∀ i u, cs[i]? = some u → CellAt ok w b (o + (j * 5 + i)) u := by
  obtain ⟨b', o', cs, e, h1, h2⟩ := h.get hj
  injection e with e
  injection e with e1 e2
  subst e1; subst e2
  exact ⟨cs, h1, h2⟩

theorem natat_get {ok : Nat → Prop} {w : World} {b o n c j : Nat} {xs : List Nat} {x : Nat} (h : NatsAt ok w (.slice (some ⟨b, o, none⟩) n c) xs) (hj : xs[j]? = some x) :
    w.cell? ⟨b, o + j, none⟩ = some (.int .i64 (x : Nat)) := by
  obtain ⟨b', o', cs, e, h1, h2⟩ := h.get hj
  injection e with e
  injection e with e1 e2
  subst e1; subst e2
  obtain rfl : cs = [encN x] := h1
  have := (h2 0 _ rfl).2
  simp only [Nat.mul_one, Nat.add_zero] at this
  exact this

theorem way_index (h level : Nat) (hl : level < 13) (w : World) : (Instr.index 62 (wayV h) (.int .i64 (level : Nat))).run Tryd.prog w = .ok (.int .i64 (Bw.chunkAt h level : Nat)) w := by
  have h1 : (0 : Int) ≤ (level : Int) ∧ (level : Int) < 13 := by omega
  simp [Instr.index, run_underlying Tryd.underlying62, asIntOf, h1, wayV, wayA, hl, go_sem]
  clear h1
  match level, hl with
  | 0, _ => rfl
  | 1, _ => rfl
  | 2, _ => rfl
  | 3, _ => rfl
  | 4, _ => rfl
  | 5, _ => rfl
  | 6, _ => rfl
  | 7, _ => rfl
  | 8, _ => rfl
  | 9, _ => rfl
  | 10, _ => rfl
  | 11, _ => rfl
  | 12, _ => rfl

def RRRel (level : Nat) (set : List Nat) (kids : List Bw.X) (W0 : World) (i : Value) (wr : World) : Prop :=
  ∃ j : Nat, j ≤ kids.length ∧ i = .int .i64 (j : Nat) ∧ Bw.X.rightL level set (kids.take j) = true ∧ Below W0.heap.size W0 wr

def InRel (level c : Nat) (hs : List Nat) (W0 w3 : World) (i : Value) (wr : World) : Prop :=
  ∃ q : Nat, q ≤ hs.length ∧ i = .int .i64 (q : Nat) ∧ (hs.take q).all (fun h => Bw.chunkAt h level == c) = true ∧ Below W0.heap.size W0 wr ∧ Below w3.heap.size w3 wr

def RRAns (ok : Nat → Prop) (n : Bw.N) : Prop := ∀ level, level ≤ 13 → ∀ (cs : List Value) (w : World), xK ok w n.abs cs → n.wf → (∀ h ∈ n.abs.hashes, h < 18446744073709551616) → n.abs.hashes.length ≤ 8796093022208 →
    Calls Tryd.prog 7 #[.agg cs.toArray, .int .i64 (level : Nat)] w fun e w' => e = .returned (.bool (n.abs.right level)) ∧ Below w.heap.size w w'

set_option maxRecDepth 100000 in
set_option maxHeartbeats 1000000 in
theorem rright_flat (ok : Nat → Prop) (n : Bw.N) (k h : Nat) (ps : List Bw.PV) (hn : n.abs = .mk k h ps [] []) (hk : k ≠ 3) : RRAns ok n := by
  intro level hl cs w hx hw _ _
  have hh : n.abs.right level = true := by rw [hn]; simp [Bw.X.right, hk]
  rw [hh]
  rw [hn, xK_iff] at hx
  obtain ⟨vp, vs, vk, rfl, h1, h2, h3⟩ := hx
  obtain ⟨A1, c1, rfl⟩ := h1.form
  obtain ⟨A2, c2, rfl⟩ := h2.form
  obtain ⟨A3, c3, rfl⟩ := h3.form
  have hk3 : ((k : Int) == 3) = false := by rw [beq_eq_false_iff_ne]; omega
  clear h1 h2 h3 hn hh hw hl
  go_enter Tryd.func7, Tryd.ntmps7
  go_wp2
  go_ret
  exact ⟨rfl, by (repeat (first | exact Below.refl _ _ | with_reducible assumption | refine Below.drew ?_ | refine b_drewN ?_ _ | (refine Below.alloc ?_ (by simp) _) | (refine Below.alloc ?_ (by simp; omega) _)))⟩

set_option maxRecDepth 100000 in
set_option maxHeartbeats 2000000 in
theorem rright_branch (ok : Nat → Prop) (m : Nat) (kids : List Bw.N) (ih : ∀ k ∈ kids, RRAns ok k) : RRAns ok (.branch m kids) := by
  intro level hl cs w hx hw hhb hhl
  simp only [Bw.N.abs] at hx
  rw [xK_iff] at hx
  obtain ⟨vp, vs, vk, rfl, h1, h2, h3⟩ := hx
  obtain ⟨A1, c1, rfl⟩ := h1.form
  obtain ⟨A2, c2, rfl⟩ := h2.form
  obtain ⟨A3, c3, rfl⟩ := h3.form
  simp only [Bw.N.wf] at hw
  have hll : (Bw.N.absL kids).length = kids.length := by rw [Bw.N.absL_eq, List.length_map]
  have HMX : Hid (kids.length ≤ maxLen) := Lib.hid (by rw [← hll]; exact Nat.le_trans h3.cap.2.1 h3.cap.2.2)
  rw [hll] at h3 ⊢
  have hpos : 0 < kids.length := List.length_pos_iff.2 hw.1
  have hx0 : (Bw.N.absL kids)[0]? = some (kids[0]).abs := by rw [Bw.N.absL_eq, List.getElem?_map, List.getElem?_eq_getElem hpos]; rfl
  obtain ⟨b, o, cs0, rfl, hy0, hcells0⟩ := h3.get hx0
  have hsl0 : 0 < (Bw.bitsOf m).length := by rw [← hw.2.1]; exact hpos
  obtain ⟨b2, o2, cs2, rfl, _, _⟩ := h2.get (List.getElem?_eq_getElem hsl0)
  have hR : (Bw.N.branch m kids).abs.right level = (!(decide (12 < level) || Bw.X.lone (Bw.N.absL kids)) && Bw.X.rightL level (Bw.bitsOf m) (Bw.N.absL kids)) := by
    simp only [Bw.N.abs, Bw.X.right, if_true, Bw.absL_isEmpty]
    have : kids.isEmpty = false := by cases kids <;> simp_all
    rw [this, Bool.or_false]
  rw [hR]
  obtain ⟨W0, hW0⟩ : ∃ W0, w.alloc (.cells #[.int .i64 3, .int .u64 0, .slice A1 0 c1, .slice (some ⟨b2, o2, none⟩) (Bw.bitsOf m).length c2, .slice (some ⟨b, o, none⟩) kids.length c3] 32) = W0 := ⟨_, rfl⟩
  have g0 : W0.cell? ⟨w.heap.size, 0, none⟩ = some (.int .i64 3) := by subst hW0; go_simp
  have g3 : W0.cell? ⟨w.heap.size, 3, none⟩ = some (.slice (some ⟨b2, o2, none⟩) (Bw.bitsOf m).length c2) := by subst hW0; go_simp
  have g4 : W0.cell? ⟨w.heap.size, 4, none⟩ = some (.slice (some ⟨b, o, none⟩) kids.length c3) := by subst hW0; go_simp
  have hBW : Below w.heap.size w W0 := by rw [← hW0]; (repeat (first | exact Below.refl _ _ | with_reducible assumption | refine Below.drew ?_ | refine b_drewN ?_ _ | (refine Below.alloc ?_ (by simp) _) | (refine Below.alloc ?_ (by simp; omega) _)))
  have hsz0 : W0.heap.size = w.heap.size + 1 := by rw [← hW0]; simp
  have HK := Lib.hid (h3.move goodX (ok' := ok) (Moves.below hBW))
  have HST := Lib.hid (h2.move goodNat (ok' := ok) (Moves.below hBW))
  have HIH := Lib.hid ih
  have HWF := Lib.hid ((Bw.N.wfL_iff _).1 hw.2.2)
  have HSL : Hid ((Bw.bitsOf m).length = kids.length) := Lib.hid hw.2.1.symm
  have HH := Lib.hid hhb
  have HL := Lib.hid hhl
  have hlw : Hid (((level : Nat) : Int) + 1 = ((level + 1 : Nat) : Int)) := Lib.hid (by omega)
  have HBW := Lib.hid hBW
  have HW0 := Lib.hid hW0
  have e0 := (hcells0 0)
  generalize (Bw.bitsOf m) = set at *
  rw [show ((3 : Nat) : Int) = 3 from rfl, show ((0 : Nat) : Int) = 0 from rfl]
  have hz : ((kids.length : Int) == 0) = false := by rw [beq_eq_false_iff_ne]; omega
  have hlev0 : (0 : Int) ≤ (level : Int) := by omega
  have hlev1 : (level : Int) ≤ 13 := by omega
  clear h1 h2 h3 hR hw hhb hhl ih hBW hW0 hx0
  by_cases h13 : level = 13
  · subst h13
    clear e0 hcells0 hy0
    go_enter Tryd.func7, Tryd.ntmps7
    go_wp2_with fail
    go_wp2
    go_ret
    exact ⟨rfl, by (repeat (first | exact Below.refl _ _ | with_reducible assumption | refine Below.drew ?_ | refine b_drewN ?_ _ | (refine Below.alloc ?_ (by simp) _) | (refine Below.alloc ?_ (by simp; omega) _)))⟩
  have h12 : (level : Int) ≤ 12 := by omega
  have hd : decide (12 < level) = false := decide_eq_false (by omega)
  rw [hd, Bool.false_or]
  by_cases hone : kids.length = 1
  · have h4 : ((kids.length : Int) == 1) = true := by rw [beq_iff_eq]; omega
    have hlone : Bw.X.lone (Bw.N.absL kids) = !((kids[0]).abs.kind == 3) := by
      match kids, hone with
      | [k], _ => cases k <;> rfl
    rw [hlone]
    clear hlone hone
    generalize (kids[0]).abs = y0 at *
    obtain ⟨k0, yh0, yp0, ys0, yy0⟩ := y0
    rw [xK_iff] at hy0
    obtain ⟨_, _, _, rfl, _⟩ := hy0
    have e00 := e0 _ rfl
    simp only [Nat.zero_mul, Nat.add_zero] at e00
    have e01 : W0.cell? ⟨b, o, none⟩ = some (.int .i64 (k0 : Nat)) := (HBW.out.cell (p := ⟨b, o, none⟩) (World.block_lt_of_cell? w _ e00.2)).trans e00.2
    have e02 : w.cell? ⟨b, o, none⟩ = some (.int .i64 (k0 : Nat)) := e00.2
    have hbl0 : b < w.heap.size := World.block_lt_of_cell? w _ e00.2
    simp only [Bw.X.kind]
    clear e0 hcells0 e00
    by_cases hk3 : k0 = 3
    · have hk3i : ((k0 : Int) != 3) = false := by rw [bne_eq_false_iff_eq]; omega
      have hk3b : (k0 == 3) = true := by rw [beq_iff_eq]; exact hk3
      rw [hk3b, Bool.not_true, Bool.not_false, Bool.true_and]
      clear hk3 hk3b
      go_enter Tryd.func7, Tryd.ntmps7
      go_wp2_with fail
      rw [HW0.out]
      have H0 : Hid (RRRel level set (Bw.N.absL kids) W0 (.int .i64 0) W0) := Lib.hid ⟨0, Nat.zero_le _, rfl, by simp [Bw.X.rightL], Below.refl _ _⟩
      go_loopw [37] (RRRel level set (Bw.N.absL kids) W0) (fun i _ => kids.length - (intOf i).toNat)
      case atStart => exact H0.out
      case round =>
        obtain ⟨j, hj, rfl, hpre, hB⟩ := hrel
        rw [hll] at hj
        by_cases hlt : j < kids.length
        · have hxj : (Bw.N.absL kids)[j]? = some (kids[j]).abs := by rw [Bw.N.absL_eq, List.getElem?_map, List.getElem?_eq_getElem hlt]; rfl
          obtain ⟨cs, hy, hcells⟩ := xkid_get HK.out hxj
          have hmem : kids[j] ∈ kids := List.getElem_mem hlt
          have hsl : j < set.length := by rw [HSL.out]; exact hlt
          have s0 := natat_get HST.out (List.getElem?_eq_getElem hsl)
          have hrl : Bw.X.rightL level set ((Bw.N.absL kids).take (j + 1)) = ((kids[j]).abs.right (level + 1) && (kids[j]).abs.hashes.all (fun h => Bw.chunkAt h level == set[j])) := by
            have hlt2 : j < (Bw.N.absL kids).length := by rw [hll]; exact hlt
            rw [take_succ_snoc hlt2, Bw.X.rightL_append, hpre, (List.getElem?_eq_some_iff.1 hxj).2]
            have : set.drop ((Bw.N.absL kids).take j).length = set[j] :: set.drop (j + 1) := by
              rw [List.length_take, Nat.min_eq_left (Nat.le_of_lt hlt2), List.drop_eq_getElem_cons hsl]
            rw [this]
            simp only [Bw.X.rightL, Bool.and_true, Bool.true_and, List.headD_cons]
          have hfull : ((kids[j]).abs.right (level + 1) && (kids[j]).abs.hashes.all (fun h => Bw.chunkAt h level == set[j])) = false → Bw.X.rightL level set (Bw.N.absL kids) = false := by
            intro e
            have h1 : Bw.N.absL kids = (Bw.N.absL kids).take (j + 1) ++ (Bw.N.absL kids).drop (j + 1) := (List.take_append_drop _ _).symm
            rw [h1, Bw.X.rightL_append, hrl, e]; rfl
          have hhj : ∀ h ∈ (kids[j]).abs.hashes, h < 18446744073709551616 := fun h hh => HH.out h (Bw.hashes_kid hmem hh)
          have hhl : (kids[j]).abs.hashes.length ≤ 8796093022208 := Nat.le_trans (Bw.hashes_len hmem) HL.out
          have CR := fun W (hW : Below W0.heap.size W0 W) => HIH.out _ hmem (level + 1) (by omega) cs W (XAt.move (Moves.below hW) _ _ hy) (HWF.out _ hmem) hhj hhl
          have CH := fun W (hW : Below W0.heap.size W0 W) => hashes_any ok kids[j] cs W (XAt.move (Moves.below hW) _ _ hy) (HWF.out _ hmem) hhl
          generalize set[j] = c at *
          have HSS : Hid (∀ W, Below W0.heap.size W0 W → W.cell? ⟨w.heap.size, 3, none⟩ = some (.slice (some ⟨b2, o2, none⟩) set.length c2) ∧ W.cell? ⟨b2, o2 + j, none⟩ = some (.int .i64 (c : Nat))) := Lib.hid fun W hW => ⟨(hW.cell (p := ⟨w.heap.size, 3, none⟩) (by rw [hsz0]; exact Nat.lt_succ_self _)).trans g3, (hW.cell (p := ⟨b2, o2 + j, none⟩) (World.block_lt_of_cell? W0 _ s0)).trans s0⟩
          generalize (kids[j]).abs.right (level + 1) = u1 at *
          generalize (kids[j]).abs.hashes = hs at *
          generalize (kids[j]).abs = y at *
          obtain ⟨yk, yh, yp, ys, yy⟩ := y
          rw [xK_iff] at hy
          obtain ⟨yvp, yvs, yvk, rfl, h1, h2, h3⟩ := hy
          obtain ⟨B1, e1, rfl⟩ := h1.form
          obtain ⟨B2, e2, rfl⟩ := h2.form
          obtain ⟨B3, e3, rfl⟩ := h3.form
          have c0 := (hcells 0 _ rfl).2; have c1 := (hcells 1 _ rfl).2; have c2 := (hcells 2 _ rfl).2; have c3 := (hcells 3 _ rfl).2; have c4 := (hcells 4 _ rfl).2
          have hbl := World.block_lt_of_cell? W0 _ c0
          dsimp only at hbl
          have d0 := (hB.cell (p := ⟨b, o + (j * 5 + 0), none⟩) hbl).trans c0
          have d1 := (hB.cell (p := ⟨b, o + (j * 5 + 1), none⟩) hbl).trans c1
          have d2 := (hB.cell (p := ⟨b, o + (j * 5 + 2), none⟩) hbl).trans c2
          have d3 := (hB.cell (p := ⟨b, o + (j * 5 + 3), none⟩) hbl).trans c3
          have d4 := (hB.cell (p := ⟨b, o + (j * 5 + 4), none⟩) hbl).trans c4
          simp only [Nat.add_zero, ← Nat.add_assoc] at d0 d1 d2 d3 d4
          have hbl2 : b < wr.heap.size := Nat.lt_of_lt_of_le hbl hB.size
          have h0 : (0 : Int) ≤ (j : Int) := by omega
          have h1' : (j : Int) < (kids.length : Int) := by omega
          have h2' : (j : Int) < (set.length : Int) := by omega
          have HCR := Lib.hid CR
          have HCH := Lib.hid CH
          have HB := Lib.hid hB
          have HS := Lib.hid hrl
          have HF := Lib.hid hfull
          have HS0 := Lib.hid s0
          have HHJ := Lib.hid hhj
          have HHL := Lib.hid hhl
          clear h1 h2 h3 c0 c1 c2 c3 c4 hcells CR CH hmem hB hrl hfull hhj hhl hxj s0 hpre hsl hbl
          obtain ⟨WY, hWY⟩ : ∃ WY, wr.alloc (.cells #[.int .i64 (yk : Nat), .int .u64 (yh : Nat), .slice B1 yp.length e1, .slice B2 ys.length e2, .slice B3 yy.length e3] 32) = WY := ⟨_, rfl⟩
          have m0 : WY.cell? ⟨wr.heap.size, 0, none⟩ = some (.int .i64 (yk : Nat)) := by subst hWY; go_simp
          have m1 : WY.cell? ⟨wr.heap.size, 1, none⟩ = some (.int .u64 (yh : Nat)) := by subst hWY; go_simp
          have m2 : WY.cell? ⟨wr.heap.size, 2, none⟩ = some (.slice B1 yp.length e1) := by subst hWY; go_simp
          have m3 : WY.cell? ⟨wr.heap.size, 3, none⟩ = some (.slice B2 ys.length e2) := by subst hWY; go_simp
          have m4 : WY.cell? ⟨wr.heap.size, 4, none⟩ = some (.slice B3 yy.length e3) := by subst hWY; go_simp
          have hwy : Below wr.heap.size wr WY := by rw [← hWY]; (repeat (first | exact Below.refl _ _ | with_reducible assumption | refine Below.drew ?_ | refine b_drewN ?_ _ | (refine Below.alloc ?_ (by simp) _) | (refine Below.alloc ?_ (by simp; omega) _)))
          have hsy : wr.heap.size < WY.heap.size := by rw [← hWY]; simp
          have HBY := Lib.hid (HB.out.trans (hwy.mono HB.out.size))
          have HWY := Lib.hid hWY
          have HY5 : Hid (∀ W, Below WY.heap.size WY W → W.cell? ⟨wr.heap.size, 0, none⟩ = some (.int .i64 (yk : Nat)) ∧ W.cell? ⟨wr.heap.size, 1, none⟩ = some (.int .u64 (yh : Nat)) ∧ W.cell? ⟨wr.heap.size, 2, none⟩ = some (.slice B1 yp.length e1) ∧ W.cell? ⟨wr.heap.size, 3, none⟩ = some (.slice B2 ys.length e2) ∧ W.cell? ⟨wr.heap.size, 4, none⟩ = some (.slice B3 yy.length e3)) :=
            Lib.hid fun W hW => ⟨(hW.cell hsy).trans m0, (hW.cell hsy).trans m1, (hW.cell hsy).trans m2, (hW.cell hsy).trans m3, (hW.cell hsy).trans m4⟩
          clear m0 m1 m2 m3 m4 hwy hWY
          go_wp2_with fail
          rw [HWY.out, hlw.out]
          refine (HCR.out WY HBY.out).mono ?_
          rintro e w2 ⟨rfl, hb2⟩
          obtain ⟨n0, n1, n2, n3, n4⟩ := HY5.out w2 hb2
          have HB2 := Lib.hid (HBY.out.trans (hb2.mono HBY.out.size))
          have CH2 := Lib.hid (HCH.out w2 HB2.out)
          clear hb2
          cases u1 with
          | false =>
            go_wp2
            go_ret
            exact ⟨by rw [HF.out (by trivial)]; rfl, HBW.out.trans (HB2.out.mono (by rw [← HW0.out]; simp))⟩
          | true =>
            go_wp2_with fail
            refine CH2.out.mono ?_
            rintro e w3 ⟨r, rfl, hr, hb3⟩
            obtain ⟨AR, cr, rfl⟩ := hr.form
            have HB3 := Lib.hid (HB2.out.trans (hb3.mono HB2.out.size))
            have HR := Lib.hid hr
            have HRM : Hid (hs.length ≤ maxLen) := Lib.hid (Nat.le_trans hr.cap.2.1 hr.cap.2.2)
            have HI0 : Hid (InRel level c hs W0 w3 (.int .i64 0) w3) := Lib.hid ⟨0, Nat.zero_le _, rfl, (by simp), HB3.out, Below.refl _ _⟩
            clear hb3 hr n0 n1 n2 n3 n4 hbl2 hsy
            go_wp2_with fail
            go_loopw [50] (InRel level c hs W0 w3) (fun i _ => hs.length - (intOf i).toNat)
            case atStart => exact HI0.out
            case round =>
              obtain ⟨q, hq, rfl, hall, hBi, hBj⟩ := hrel
              by_cases hqlt : q < hs.length
              · obtain ⟨br, orr, cq, rfl, hcq, hcc⟩ := HR.out.get (List.getElem?_eq_getElem hqlt)
                obtain rfl : cq = [.int .u64 (hs[q] : Nat)] := hcq
                have f0 := (hcc 0 _ rfl).2
                simp only [Nat.mul_one, Nat.add_zero] at f0
                have hblr := World.block_lt_of_cell? w3 _ f0
                dsimp only at hblr
                have f1 := (hBj.cell (p := ⟨br, orr + q, none⟩) hblr).trans f0
                have h0q : (0 : Int) ≤ (q : Int) := by omega
                have h1q : (q : Int) < (hs.length : Int) := by omega
                have CW := Lib.hid (fun W => way_any hs[q] (HHJ.out _ (List.getElem_mem hqlt)) W)
                have hs1 : hs.take (q + 1) = hs.take q ++ [hs[q]] := take_succ_snoc hqlt
                have hin : (Bw.chunkAt hs[q] level == c) = false → hs.all (fun h => Bw.chunkAt h level == c) = false := by
                  intro e
                  rw [Bool.eq_false_iff]
                  intro h
                  rw [List.all_eq_true] at h
                  rw [h _ (List.getElem_mem hqlt)] at e
                  cases e
                have hss0 := HSS.out wr hBi
                have hssd := HSS.out wr.drew (Below.drew hBi)
                have hix := fun (W : World) => way_index hs[q] level (by omega) W
                have hBd := Below.drew hBi
                have HBD := Lib.hid hBd
                have HBI := Lib.hid hBi
                have HBJ := Lib.hid hBj
                have HIN := Lib.hid hin
                have HS1 := Lib.hid hs1
                have HALL := Lib.hid hall
                generalize hs[q] = hq2 at *
                clear hin hs1 hall f0 hcc hBi hBj hBd
                cases hcc : Bw.chunkAt hq2 level == c with
                | true =>
                  have hne : (((Bw.chunkAt hq2 level : Nat) : Int) != (c : Int)) = false := by rw [bne_eq_false_iff_eq]; have := beq_iff_eq.1 hcc; omega
                  have HCC := Lib.hid hcc
                  clear hcc
                  go_wp2_with fail
                  go_region_held3 (fun W : World => W.cell? ⟨w.heap.size, 3, none⟩ = some (.slice (some ⟨b2, o2, none⟩) set.length c2) ∧ W.cell? ⟨b2, o2 + j, none⟩ = some (.int .i64 (c : Nat)))
                    (first | with_reducible exact hS4 | with_reducible exact hssd | with_reducible exact hss0)
                    ((go_at_call 20; (with_reducible refine (CW.out _).mono ?_); rintro e w4 ⟨rfl, hb4⟩; have hw4 : Below W0.heap.size W0 w4 := (HBD.out.trans (hb4.mono (HBD.out.size))); have hS4 := HSS.out w4 hw4))
                  all_goals go_wp2
                  all_goals exact ⟨⟨q + 1, hqlt, by first | exact int_succM hqlt HRM.out | rfl, by rw [HS1.out, List.all_append, HALL.out, List.all_cons, HCC.out]; rfl, hw4, HBJ.out.trans (Below.trans (b := wr.drew) (Below.drew (Below.refl _ _)) (hb4.mono (Nat.le_refl _)) |>.mono HBJ.out.size)⟩, by first | exact less_succM hqlt HRM.out | (simp only [intOf]; omega)⟩
                | false =>
                  have hne : (((Bw.chunkAt hq2 level : Nat) : Int) != (c : Int)) = true := by rw [bne_iff_ne]; have := beq_eq_false_iff_ne.1 hcc; omega
                  have HCC := Lib.hid hcc
                  clear hcc
                  go_wp2_with fail
                  go_region_held3 (fun W : World => W.cell? ⟨w.heap.size, 3, none⟩ = some (.slice (some ⟨b2, o2, none⟩) set.length c2) ∧ W.cell? ⟨b2, o2 + j, none⟩ = some (.int .i64 (c : Nat)))
                    (first | with_reducible exact hS4 | with_reducible exact hssd | with_reducible exact hss0)
                    ((go_at_call 20; (with_reducible refine (CW.out _).mono ?_); rintro e w4 ⟨rfl, hb4⟩; have hw4 : Below W0.heap.size W0 w4 := (HBD.out.trans (hb4.mono (HBD.out.size))); have hS4 := HSS.out w4 hw4))
                  all_goals go_wp2
                  all_goals go_ret
                  all_goals exact ⟨by rw [HF.out (by rw [HIN.out HCC.out]; rfl)]; rfl, HBW.out.trans (hw4.mono (by rw [← HW0.out]; simp))⟩
              · obtain rfl : q = hs.length := by omega
                rw [List.take_length] at hall
                have HE := Lib.hid (HS.out.trans (by rw [hall]))
                clear hall
                go_wp2
                exact ⟨⟨j + 1, by rw [hll]; exact hlt, by first | exact int_succM hlt HMX.out | rfl, HE.out, hBi⟩, by first | exact less_succM hlt HMX.out | (simp only [intOf]; omega)⟩
        · obtain rfl : j = kids.length := by omega
          rw [show (Bw.N.absL kids).take kids.length = Bw.N.absL kids by rw [← hll, List.take_length]] at hpre
          have HP := Lib.hid hpre
          clear hpre
          go_wp2
          go_ret
          exact ⟨by rw [HP.out]; rfl, HBW.out.trans (hB.mono (by rw [← HW0.out]; simp))⟩
    · have hk3i : ((k0 : Int) != 3) = true := by rw [bne_iff_ne]; omega
      have hk3b : (k0 == 3) = false := by rw [beq_eq_false_iff_ne]; exact hk3
      rw [hk3b, Bool.not_false, Bool.not_true, Bool.false_and]
      clear hk3 hk3b
      go_enter Tryd.func7, Tryd.ntmps7
      go_wp2
      go_ret
      exact ⟨rfl, by (repeat (first | exact Below.refl _ _ | with_reducible assumption | refine Below.drew ?_ | refine b_drewN ?_ _ | (refine Below.alloc ?_ (by simp) _) | (refine Below.alloc ?_ (by simp; omega) _)))⟩
  have h4 : ((kids.length : Int) == 1) = false := by rw [beq_eq_false_iff_ne]; omega
  have hlone : Bw.X.lone (Bw.N.absL kids) = false := by
    rw [Bw.lone_abs, show (kids.length == 1) = false by rw [beq_eq_false_iff_ne]; exact hone]; rfl
  rw [hlone, Bool.not_false, Bool.true_and]
  clear e0 hcells0 hy0 hlone
  go_enter Tryd.func7, Tryd.ntmps7
  go_wp2_with fail
  rw [HW0.out]
  have H0 : Hid (RRRel level set (Bw.N.absL kids) W0 (.int .i64 0) W0) := Lib.hid ⟨0, Nat.zero_le _, rfl, by simp [Bw.X.rightL], Below.refl _ _⟩
  go_loopw [37] (RRRel level set (Bw.N.absL kids) W0) (fun i _ => kids.length - (intOf i).toNat)
  case atStart => exact H0.out
  case round =>
    obtain ⟨j, hj, rfl, hpre, hB⟩ := hrel
    rw [hll] at hj
    by_cases hlt : j < kids.length
    · have hxj : (Bw.N.absL kids)[j]? = some (kids[j]).abs := by rw [Bw.N.absL_eq, List.getElem?_map, List.getElem?_eq_getElem hlt]; rfl
      obtain ⟨cs, hy, hcells⟩ := xkid_get HK.out hxj
      have hmem : kids[j] ∈ kids := List.getElem_mem hlt
      have hsl : j < set.length := by rw [HSL.out]; exact hlt
      have s0 := natat_get HST.out (List.getElem?_eq_getElem hsl)
      have hrl : Bw.X.rightL level set ((Bw.N.absL kids).take (j + 1)) = ((kids[j]).abs.right (level + 1) && (kids[j]).abs.hashes.all (fun h => Bw.chunkAt h level == set[j])) := by
        have hlt2 : j < (Bw.N.absL kids).length := by rw [hll]; exact hlt
        rw [take_succ_snoc hlt2, Bw.X.rightL_append, hpre, (List.getElem?_eq_some_iff.1 hxj).2]
        have : set.drop ((Bw.N.absL kids).take j).length = set[j] :: set.drop (j + 1) := by
          rw [List.length_take, Nat.min_eq_left (Nat.le_of_lt hlt2), List.drop_eq_getElem_cons hsl]
        rw [this]
        simp only [Bw.X.rightL, Bool.and_true, Bool.true_and, List.headD_cons]
      have hfull : ((kids[j]).abs.right (level + 1) && (kids[j]).abs.hashes.all (fun h => Bw.chunkAt h level == set[j])) = false → Bw.X.rightL level set (Bw.N.absL kids) = false := by
        intro e
        have h1 : Bw.N.absL kids = (Bw.N.absL kids).take (j + 1) ++ (Bw.N.absL kids).drop (j + 1) := (List.take_append_drop _ _).symm
        rw [h1, Bw.X.rightL_append, hrl, e]; rfl
      have hhj : ∀ h ∈ (kids[j]).abs.hashes, h < 18446744073709551616 := fun h hh => HH.out h (Bw.hashes_kid hmem hh)
      have hhl : (kids[j]).abs.hashes.length ≤ 8796093022208 := Nat.le_trans (Bw.hashes_len hmem) HL.out
      have CR := fun W (hW : Below W0.heap.size W0 W) => HIH.out _ hmem (level + 1) (by omega) cs W (XAt.move (Moves.below hW) _ _ hy) (HWF.out _ hmem) hhj hhl
      have CH := fun W (hW : Below W0.heap.size W0 W) => hashes_any ok kids[j] cs W (XAt.move (Moves.below hW) _ _ hy) (HWF.out _ hmem) hhl
      generalize set[j] = c at *
      have HSS : Hid (∀ W, Below W0.heap.size W0 W → W.cell? ⟨w.heap.size, 3, none⟩ = some (.slice (some ⟨b2, o2, none⟩) set.length c2) ∧ W.cell? ⟨b2, o2 + j, none⟩ = some (.int .i64 (c : Nat))) := Lib.hid fun W hW => ⟨(hW.cell (p := ⟨w.heap.size, 3, none⟩) (by rw [hsz0]; exact Nat.lt_succ_self _)).trans g3, (hW.cell (p := ⟨b2, o2 + j, none⟩) (World.block_lt_of_cell? W0 _ s0)).trans s0⟩
      generalize (kids[j]).abs.right (level + 1) = u1 at *
      generalize (kids[j]).abs.hashes = hs at *
      generalize (kids[j]).abs = y at *
      obtain ⟨yk, yh, yp, ys, yy⟩ := y
      rw [xK_iff] at hy
      obtain ⟨yvp, yvs, yvk, rfl, h1, h2, h3⟩ := hy
      obtain ⟨B1, e1, rfl⟩ := h1.form
      obtain ⟨B2, e2, rfl⟩ := h2.form
      obtain ⟨B3, e3, rfl⟩ := h3.form
      have c0 := (hcells 0 _ rfl).2; have c1 := (hcells 1 _ rfl).2; have c2 := (hcells 2 _ rfl).2; have c3 := (hcells 3 _ rfl).2; have c4 := (hcells 4 _ rfl).2
      have hbl := World.block_lt_of_cell? W0 _ c0
      dsimp only at hbl
      have d0 := (hB.cell (p := ⟨b, o + (j * 5 + 0), none⟩) hbl).trans c0
      have d1 := (hB.cell (p := ⟨b, o + (j * 5 + 1), none⟩) hbl).trans c1
      have d2 := (hB.cell (p := ⟨b, o + (j * 5 + 2), none⟩) hbl).trans c2
      have d3 := (hB.cell (p := ⟨b, o + (j * 5 + 3), none⟩) hbl).trans c3
      have d4 := (hB.cell (p := ⟨b, o + (j * 5 + 4), none⟩) hbl).trans c4
      simp only [Nat.add_zero, ← Nat.add_assoc] at d0 d1 d2 d3 d4
      have hbl2 : b < wr.heap.size := Nat.lt_of_lt_of_le hbl hB.size
      have h0 : (0 : Int) ≤ (j : Int) := by omega
      have h1' : (j : Int) < (kids.length : Int) := by omega
      have h2' : (j : Int) < (set.length : Int) := by omega
      have HCR := Lib.hid CR
      have HCH := Lib.hid CH
      have HB := Lib.hid hB
      have HS := Lib.hid hrl
      have HF := Lib.hid hfull
      have HS0 := Lib.hid s0
      have HHJ := Lib.hid hhj
      have HHL := Lib.hid hhl
      clear h1 h2 h3 c0 c1 c2 c3 c4 hcells CR CH hmem hB hrl hfull hhj hhl hxj s0 hpre hsl hbl
      obtain ⟨WY, hWY⟩ : ∃ WY, wr.alloc (.cells #[.int .i64 (yk : Nat), .int .u64 (yh : Nat), .slice B1 yp.length e1, .slice B2 ys.length e2, .slice B3 yy.length e3] 32) = WY := ⟨_, rfl⟩
      have m0 : WY.cell? ⟨wr.heap.size, 0, none⟩ = some (.int .i64 (yk : Nat)) := by subst hWY; go_simp
      have m1 : WY.cell? ⟨wr.heap.size, 1, none⟩ = some (.int .u64 (yh : Nat)) := by subst hWY; go_simp
      have m2 : WY.cell? ⟨wr.heap.size, 2, none⟩ = some (.slice B1 yp.length e1) := by subst hWY; go_simp
      have m3 : WY.cell? ⟨wr.heap.size, 3, none⟩ = some (.slice B2 ys.length e2) := by subst hWY; go_simp
      have m4 : WY.cell? ⟨wr.heap.size, 4, none⟩ = some (.slice B3 yy.length e3) := by subst hWY; go_simp
      have hwy : Below wr.heap.size wr WY := by rw [← hWY]; (repeat (first | exact Below.refl _ _ | with_reducible assumption | refine Below.drew ?_ | refine b_drewN ?_ _ | (refine Below.alloc ?_ (by simp) _) | (refine Below.alloc ?_ (by simp; omega) _)))
      have hsy : wr.heap.size < WY.heap.size := by rw [← hWY]; simp
      have HBY := Lib.hid (HB.out.trans (hwy.mono HB.out.size))
      have HWY := Lib.hid hWY
      have HY5 : Hid (∀ W, Below WY.heap.size WY W → W.cell? ⟨wr.heap.size, 0, none⟩ = some (.int .i64 (yk : Nat)) ∧ W.cell? ⟨wr.heap.size, 1, none⟩ = some (.int .u64 (yh : Nat)) ∧ W.cell? ⟨wr.heap.size, 2, none⟩ = some (.slice B1 yp.length e1) ∧ W.cell? ⟨wr.heap.size, 3, none⟩ = some (.slice B2 ys.length e2) ∧ W.cell? ⟨wr.heap.size, 4, none⟩ = some (.slice B3 yy.length e3)) :=
        Lib.hid fun W hW => ⟨(hW.cell hsy).trans m0, (hW.cell hsy).trans m1, (hW.cell hsy).trans m2, (hW.cell hsy).trans m3, (hW.cell hsy).trans m4⟩
      clear m0 m1 m2 m3 m4 hwy hWY
      go_wp2_with fail
      rw [HWY.out, hlw.out]
      refine (HCR.out WY HBY.out).mono ?_
      rintro e w2 ⟨rfl, hb2⟩
      obtain ⟨n0, n1, n2, n3, n4⟩ := HY5.out w2 hb2
      have HB2 := Lib.hid (HBY.out.trans (hb2.mono HBY.out.size))
      have CH2 := Lib.hid (HCH.out w2 HB2.out)
      clear hb2
      cases u1 with
      | false =>
        go_wp2
        go_ret
        exact ⟨by rw [HF.out (by trivial)]; rfl, HBW.out.trans (HB2.out.mono (by rw [← HW0.out]; simp))⟩
      | true =>
        go_wp2_with fail
        refine CH2.out.mono ?_
        rintro e w3 ⟨r, rfl, hr, hb3⟩
        obtain ⟨AR, cr, rfl⟩ := hr.form
        have HB3 := Lib.hid (HB2.out.trans (hb3.mono HB2.out.size))
        have HR := Lib.hid hr
        have HRM : Hid (hs.length ≤ maxLen) := Lib.hid (Nat.le_trans hr.cap.2.1 hr.cap.2.2)
        have HI0 : Hid (InRel level c hs W0 w3 (.int .i64 0) w3) := Lib.hid ⟨0, Nat.zero_le _, rfl, (by simp), HB3.out, Below.refl _ _⟩
        clear hb3 hr n0 n1 n2 n3 n4 hbl2 hsy
        go_wp2_with fail
        go_loopw [50] (InRel level c hs W0 w3) (fun i _ => hs.length - (intOf i).toNat)
        case atStart => exact HI0.out
        case round =>
          obtain ⟨q, hq, rfl, hall, hBi, hBj⟩ := hrel
          by_cases hqlt : q < hs.length
          · obtain ⟨br, orr, cq, rfl, hcq, hcc⟩ := HR.out.get (List.getElem?_eq_getElem hqlt)
            obtain rfl : cq = [.int .u64 (hs[q] : Nat)] := hcq
            have f0 := (hcc 0 _ rfl).2
            simp only [Nat.mul_one, Nat.add_zero] at f0
            have hblr := World.block_lt_of_cell? w3 _ f0
            dsimp only at hblr
            have f1 := (hBj.cell (p := ⟨br, orr + q, none⟩) hblr).trans f0
            have h0q : (0 : Int) ≤ (q : Int) := by omega
            have h1q : (q : Int) < (hs.length : Int) := by omega
            have CW := Lib.hid (fun W => way_any hs[q] (HHJ.out _ (List.getElem_mem hqlt)) W)
            have hs1 : hs.take (q + 1) = hs.take q ++ [hs[q]] := take_succ_snoc hqlt
            have hin : (Bw.chunkAt hs[q] level == c) = false → hs.all (fun h => Bw.chunkAt h level == c) = false := by
              intro e
              rw [Bool.eq_false_iff]
              intro h
              rw [List.all_eq_true] at h
              rw [h _ (List.getElem_mem hqlt)] at e
              cases e
            have hss0 := HSS.out wr hBi
            have hssd := HSS.out wr.drew (Below.drew hBi)
            have hix := fun (W : World) => way_index hs[q] level (by omega) W
            have hBd := Below.drew hBi
            have HBD := Lib.hid hBd
            have HBI := Lib.hid hBi
            have HBJ := Lib.hid hBj
            have HIN := Lib.hid hin
            have HS1 := Lib.hid hs1
            have HALL := Lib.hid hall
            generalize hs[q] = hq2 at *
            clear hin hs1 hall f0 hcc hBi hBj hBd
            cases hcc : Bw.chunkAt hq2 level == c with
            | true =>
              have hne : (((Bw.chunkAt hq2 level : Nat) : Int) != (c : Int)) = false := by rw [bne_eq_false_iff_eq]; have := beq_iff_eq.1 hcc; omega
              have HCC := Lib.hid hcc
              clear hcc
              go_wp2_with fail
              go_region_held3 (fun W : World => W.cell? ⟨w.heap.size, 3, none⟩ = some (.slice (some ⟨b2, o2, none⟩) set.length c2) ∧ W.cell? ⟨b2, o2 + j, none⟩ = some (.int .i64 (c : Nat)))
                (first | with_reducible exact hS4 | with_reducible exact hssd | with_reducible exact hss0)
                ((go_at_call 20; (with_reducible refine (CW.out _).mono ?_); rintro e w4 ⟨rfl, hb4⟩; have hw4 : Below W0.heap.size W0 w4 := (HBD.out.trans (hb4.mono (HBD.out.size))); have hS4 := HSS.out w4 hw4))
              all_goals go_wp2
              all_goals exact ⟨⟨q + 1, hqlt, by first | exact int_succM hqlt HRM.out | rfl, by rw [HS1.out, List.all_append, HALL.out, List.all_cons, HCC.out]; rfl, hw4, HBJ.out.trans (Below.trans (b := wr.drew) (Below.drew (Below.refl _ _)) (hb4.mono (Nat.le_refl _)) |>.mono HBJ.out.size)⟩, by first | exact less_succM hqlt HRM.out | (simp only [intOf]; omega)⟩
            | false =>
              have hne : (((Bw.chunkAt hq2 level : Nat) : Int) != (c : Int)) = true := by rw [bne_iff_ne]; have := beq_eq_false_iff_ne.1 hcc; omega
              have HCC := Lib.hid hcc
              clear hcc
              go_wp2_with fail
              go_region_held3 (fun W : World => W.cell? ⟨w.heap.size, 3, none⟩ = some (.slice (some ⟨b2, o2, none⟩) set.length c2) ∧ W.cell? ⟨b2, o2 + j, none⟩ = some (.int .i64 (c : Nat)))
                (first | with_reducible exact hS4 | with_reducible exact hssd | with_reducible exact hss0)
                ((go_at_call 20; (with_reducible refine (CW.out _).mono ?_); rintro e w4 ⟨rfl, hb4⟩; have hw4 : Below W0.heap.size W0 w4 := (HBD.out.trans (hb4.mono (HBD.out.size))); have hS4 := HSS.out w4 hw4))
              all_goals go_wp2
              all_goals go_ret
              all_goals exact ⟨by rw [HF.out (by rw [HIN.out HCC.out]; rfl)]; rfl, HBW.out.trans (hw4.mono (by rw [← HW0.out]; simp))⟩
          · obtain rfl : q = hs.length := by omega
            rw [List.take_length] at hall
            have HE := Lib.hid (HS.out.trans (by rw [hall]))
            clear hall
            go_wp2
            exact ⟨⟨j + 1, by rw [hll]; exact hlt, by first | exact int_succM hlt HMX.out | rfl, HE.out, hBi⟩, by first | exact less_succM hlt HMX.out | (simp only [intOf]; omega)⟩
    · obtain rfl : j = kids.length := by omega
      rw [show (Bw.N.absL kids).take kids.length = Bw.N.absL kids by rw [← hll, List.take_length]] at hpre
      have HP := Lib.hid hpre
      clear hpre
      go_wp2
      go_ret
      exact ⟨by rw [HP.out]; rfl, HBW.out.trans (hB.mono (by rw [← HW0.out]; simp))⟩

theorem rright_any (ok : Nat → Prop) (n : Bw.N) : RRAns ok n :=
  Bw.N.ind (P := RRAns ok) (fun h p => rright_flat ok _ 1 h [p] rfl (by decide)) (fun h t => rright_flat ok _ 2 h t.list rfl (by decide)) (rright_branch ok) n
end Go.Proofs.YtkblhilaeecdlaaDoor
