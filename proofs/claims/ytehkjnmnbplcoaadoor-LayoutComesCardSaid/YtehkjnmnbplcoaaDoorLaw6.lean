
import Derived.Test.YtehkjnmnbplcoaaDoorAw17
import Derived.Test.YtehkjnmnbplcoaaDoorComeA
import Derived.Test.YtehkjnmnbplcoaaDoorScrap
import Derived.Test.YtehkjnmnbplcoaaDoorEqE
import Derived.Deep.QuietTactic
import Derived.BigQuiet
namespace Go.Proofs.YtehkjnmnbplcoaaDoor
open Go.RowKit Go.Bw

theorem Scrap.aside {D : Nat → Prop} {w w' : World} {v : Value} {n : Nat} (h : Scrap D w v n) (hB : Below w.heap.size w w') : Scrap D w' v n := h.below hB

/-- whatever their bytes are now -/
def AllScrap (D : Nat → Prop) (w3 : World) (g : Nat) (l : List Bw.En) (W : World) : Prop :=
  ∀ (j : Nat) (e : Bw.En), l[j]? = some e → ∃ u v, w3.cell? ⟨g, j * 3 + 1, none⟩ = some u ∧ w3.cell? ⟨g, j * 3 + 2, none⟩ = some v ∧ Scrap D W u e.2.1.length ∧ Scrap D W v e.2.2.length

theorem AllScrap.set {D : Nat → Prop} {w3 W : World} {g : Nat} {l : List Bw.En} {b o : Nat} {x : Int} (h : AllScrap D w3 g l W) : AllScrap D w3 g l (W.setCell ⟨b, o, none⟩ (.int .u8 x)) := fun j e hj => by
  obtain ⟨u, v, h1, h2, h3, h4⟩ := h j e hj
  exact ⟨u, v, h1, h2, h3.set, h4.set⟩
theorem AllScrap.below {D : Nat → Prop} {w3 W W' : World} {g : Nat} {l : List Bw.En} (h : AllScrap D w3 g l W) (hB : Below W.heap.size W W') : AllScrap D w3 g l W' := fun j e hj => by
  obtain ⟨u, v, h1, h2, h3, h4⟩ := h j e hj
  exact ⟨u, v, h1, h2, h3.below hB, h4.below hB⟩

theorem scrap_of_ents {ok : Nat → Prop} {w3 : World} {base g n c : Nat} {l : List Bw.En} (h : OwnAt 62 3 entO ok w3 base (.slice (some ⟨g, 0, none⟩) n c) l) : AllScrap (fun k => ok k ∧ k ≠ g) w3 g l w3 := fun j e hj => by
  obtain ⟨g', c', cs, e1, hx, hc⟩ := own_get h hj
  injection e1 with e1 _ _
  injection e1 with e1
  injection e1 with e1 _ _
  subst e1
  obtain ⟨u, v, b, b', rfl, hu, hv⟩ := entO_open hx
  have hne : ∀ k, (ok k ∧ some k ≠ (Value.slice (some ⟨g, 0, none⟩) n c).ownBlock) → ok k ∧ k ≠ g := fun k hk => ⟨hk.1, fun e => hk.2 (by rw [e]; rfl)⟩
  exact ⟨u, v, hc 1 _ rfl, hc 2 _ rfl, (scrap_of_own hu).mono hne, (scrap_of_own hv).mono hne⟩

theorem smallE_true {l : List Bw.En} {most : Nat} (h : smallE l most = true) : l.length ≤ most ∧ ∀ e ∈ l, e.2.1.length ≤ 60 ∧ e.2.2.length ≤ 60 := by
  unfold smallE at h
  rw [Bool.and_eq_true] at h
  refine ⟨of_decide_eq_true h.1, fun e he => ?_⟩
  have := List.all_eq_true.1 h.2 e he
  unfold entOk at this
  rw [Bool.and_eq_true] at this
  exact ⟨of_decide_eq_true this.1, of_decide_eq_true this.2⟩

theorem got_scrap {n2 c3 : Nat} {A3 : Option Addr} {w3 : World} {m : List Bw.En} (h : OwnAt 62 3 entO (fun k => n2 ≤ k) w3 n2 (.slice A3 m.length c3) m) :
    ∃ (g : Nat) (D : Nat → Prop), (m ≠ [] → A3 = some ⟨g, 0, none⟩ ∧ g < w3.heap.size) ∧ AllScrap D w3 g m w3 ∧ (∀ k, D k → n2 ≤ k ∧ k < w3.heap.size) ∧ ¬ D g := by
  by_cases hm : m = []
  · exact ⟨0, fun _ => False, fun h => absurd hm h, fun j e hj => by rw [hm] at hj; simp at hj, fun _ h => h.elim, fun h => h⟩
  · obtain ⟨g, cap, e⟩ := h.block hm
    injection e with e1 _ _
    subst e1
    have hlt := (h.lt g rfl).2
    have h2 := h.move (ok' := fun k => n2 ≤ k ∧ k < w3.heap.size) goodEntO (Moves.weaken fun k hk hl => ⟨hk, hl⟩)
    exact ⟨g, _, fun _ => ⟨rfl, hlt⟩, scrap_of_ents h2, fun k hk => hk.1, fun hg => hg.2 rfl⟩

def CmpRel (l : List Bw.En) (w : World) (i : Value) (wr : World) : Prop := ∃ k : Nat, k ≤ l.length ∧ i = .int .i64 k ∧ Below w.heap.size w wr
def GotRel (D : Nat → Prop) (w3 : World) (g : Nat) (l : List Bw.En) (i : Value) (wr : World) : Prop := ∃ k : Nat, k ≤ l.length ∧ i = .int .i64 k ∧ Aside D w3 wr ∧ AllScrap D w3 g l wr
def BumpRel (D : Nat → Prop) (w3 : World) (g : Nat) (l : List Bw.En) (W5 : World) (n : Nat) (i : Value) (wr : World) : Prop :=
  ∃ j : Nat, j ≤ n ∧ i = .int .i64 j ∧ Aside D W5 wr ∧ AllScrap D w3 g l wr

set_option maxRecDepth 100000 in
set_option maxHeartbeats 1000000 in
theorem lcomes_any {l : List Bw.En} {v : Value} {w : World} (hr : EntsAt AllB w v l) (_ : ∀ e ∈ l, e.1 < 18446744073709551616) (hT : Tab w) :
    Calls Tryd.prog 6 #[v] w fun e w' => e = .returned (.bool true) ∧ Below w.heap.size w w' := by
  have CS := Lib.hid (small17_any 40 (by decide) hr)
  obtain ⟨A, c, rfl⟩ := hr.form
  have CAW := Lib.hid (fun (W : World) (hW : Below w.heap.size w W) => awake17_any W (hT.below hT.pos hW))
  cases hsm : smallE l 40 with
  | false =>
    rw [hsm] at CS
    clear hr hT
    go_enter Tryd.func6, Tryd.ntmps6
    go_wp2_with fail
    refine CS.out.mono ?_
    rintro e w1 ⟨rfl, hb1⟩
    go_wp2_with fail
    refine (CAW.out _ hb1).mono ?_
    rintro e w2 ⟨rfl, hb2⟩
    go_wp2
    go_ret
    exact ⟨rfl, hb1.trans (hb2.mono hb1.size)⟩
  | true =>
    rw [hsm] at CS
    obtain ⟨hl, hby⟩ := smallE_true hsm
    have hr0 : EntsAt (fun k => k < w.heap.size) w (.slice A l.length c) l := hr.move goodEnt (Moves.weaken fun k _ h => h)
    have CR := Lib.hid (fun (W : World) (hW : Below w.heap.size w W) => ref17_any (Nat.le_trans hl (by decide)) (hr0.move (ok' := fun k => k < w.heap.size) goodEnt (fun k hk _ => ⟨hk, hW.block k hk⟩)))
    have CO := Lib.hid (fun (W : World) (hW : Below w.heap.size w W) => lcomeO_any (Nat.le_trans hl (by decide)) (fun e he => ⟨Nat.le_trans (hby e he).1 (by decide), Nat.le_trans (hby e he).2 (by decide)⟩) (hr0.move (ok' := fun k => k < w.heap.size) goodEnt (fun k hk _ => ⟨hk, hW.block k hk⟩)))
    have CC := Lib.hid (fun (W : World) (q : Value) (h : SensAt AllB W q l) => rcomeE_any (Nat.le_trans hl (by decide)) h)
    have hll := lasts_len l
    have hbl : ∀ e ∈ Bw.lasts l, e.2.1.length ≤ 60 ∧ e.2.2.length ≤ 60 := fun e he => hby e (Bw.mem_lasts he)
    have CG := Lib.hid (fun (W : World) (q : Value) (h : EntsAt AllB W q (Bw.lasts l)) => ref17_any (Nat.le_trans hll (Nat.le_trans hl (by decide))) h)
    have HLM : Hid ((Bw.lasts l).length ≤ 40) := Lib.hid (Nat.le_trans hll hl)
    have HBM := Lib.hid hbl
    have HL := Lib.hid hl
    clear hr hr0 hT hsm hl hby hll hbl
    generalize Bw.lasts l = m at *
    go_enter Tryd.func6, Tryd.ntmps6
    go_wp2_with fail
    refine CS.out.mono ?_
    rintro e w0 ⟨rfl, hb0⟩
    go_wp2_with fail
    refine (CR.out _ hb0).mono ?_
    rintro e w1 ⟨q1, rfl, hq1, hb1'⟩
    have hb1 := hb0.trans (hb1'.mono hb0.size)
    obtain ⟨A1, c1, rfl⟩ := hq1.form
    have CC1 := Lib.hid (CC.out _ _ hq1)
    have HB1 := Lib.hid hb1
    have HQ1 := Lib.hid (hq1.move (ok' := fun k => k < w1.heap.size) goodSen (Moves.weaken fun k _ h => h))
    clear hq1 hb0 hb1 hb1'
    go_wp2_with fail
    refine CC1.out.mono ?_
    rintro e w2 ⟨q2, rfl, hq2, hb2⟩
    obtain ⟨A2, c2, rfl⟩ := hq2.form
    have HB12 := Lib.hid hb2
    have HB2 := Lib.hid (HB1.out.trans (hb2.mono HB1.out.size))
    have HQ2 := Lib.hid (hq2.move (ok' := fun k => k < w2.heap.size) goodSen (Moves.weaken fun k _ h => h))
    have CO2 := Lib.hid (CO.out w2 HB2.out)
    clear hq2 hb2
    go_wp2_with fail
    refine CO2.out.mono ?_
    rintro e w3 ⟨q3, rfl, hq3, hb3⟩
    obtain ⟨A3, c3, rfl⟩ := (hq3.row goodEntO).form
    have HB3 := Lib.hid hb3
    have HQ3 := Lib.hid hq3
    have CG3 := Lib.hid (CG.out w3 _ (((hq3.kind fun _ _ _ _ => entO_plain).row goodEnt).move goodEnt (Moves.weaken fun k _ _ => trivial)))
    have hnn : ((m.length : Int) != (m.length : Int)) = false := by rw [bne_eq_false_iff_eq]
    clear hq3 hb3
    go_wp2_with fail
    refine CG3.out.mono ?_
    rintro e w4 ⟨q4, rfl, hq4, hb4⟩
    obtain ⟨A4, c4, rfl⟩ := hq4.form
    have HB4 := Lib.hid hb4
    have HQ4 := Lib.hid (hq4.move (ok' := fun k => k < w4.heap.size) goodSen (Moves.weaken fun k _ h => h))
    have H0 : Hid (CmpRel m w4 (.int .i64 0) w4) := Lib.hid ⟨0, Nat.zero_le _, rfl, Below.refl _ _⟩
    clear hq4 hb4
    go_wp2_with fail
    go_loopw [32] (CmpRel m w4) (fun i _ => m.length - (intOf i).toNat)
    case atStart => exact H0.out
    case round =>
      obtain ⟨k, hk, rfl, hB⟩ := hrel
      by_cases hlt : k < m.length
      · obtain ⟨b4, o4, e4, hb4, c0, c1, c2⟩ := sen_get HQ4.out (List.getElem?_eq_getElem hlt)
        cases e4
        obtain ⟨b2, o2, e2, hb2, k0, k1, k2⟩ := sen_get HQ2.out (List.getElem?_eq_getElem hlt)
        cases e2
        have hBk := (HB3.out.trans (HB4.out.mono HB3.out.size)).trans (hB.mono (Nat.le_trans HB3.out.size HB4.out.size))
        have d0 := (hB.cell (p := ⟨b4, o4 + k * 3, none⟩) hb4).trans c0
        have d1 := (hB.cell (p := ⟨b4, o4 + k * 3 + 1, none⟩) hb4).trans c1
        have d2 := (hB.cell (p := ⟨b4, o4 + k * 3 + 2, none⟩) hb4).trans c2
        have f0 := (hBk.cell (p := ⟨b2, o2 + k * 3, none⟩) hb2).trans k0
        have f1 := (hBk.cell (p := ⟨b2, o2 + k * 3 + 1, none⟩) hb2).trans k1
        have f2 := (hBk.cell (p := ⟨b2, o2 + k * 3 + 2, none⟩) hb2).trans k2
        have hx4 : b4 < wr.heap.size := Nat.lt_of_lt_of_le hb4 hB.size
        have hx2 : b2 < wr.heap.size := Nat.lt_of_lt_of_le hb2 hBk.size
        have h0 : (0 : Int) ≤ (k : Int) := by omega
        have h1 : (k : Int) < (m.length : Int) := by omega
        have HLT := Lib.hid hlt; have HBW := Lib.hid hB
        generalize m[k] = q at *
        obtain ⟨qh, qx, qy⟩ := q
        simp only [str] at d1 d2 f1 f2
        have heq := eqSen qh ⟨qx.toArray⟩ ⟨qy.toArray⟩
        clear c0 c1 c2 k0 k1 k2 hB hBk hb4 hb2
        go_wp2_with fail
        go_quiet (fail)
        rename_i nq
        go_wp2
        exact ⟨⟨k + 1, HLT.out, int_succ HLT.out (Nat.le_trans HLM.out (by decide)), by first | exact b_drewN ((HBW.out).alloc HBW.out.size _) _ | exact b_drewN (HBW.out.alloc (by have := HBW.out.size; omega) _) _⟩, less_succ HLT.out (Nat.le_trans HLM.out (by decide))⟩
      · obtain rfl : k = m.length := by omega
        have HBL := Lib.hid hB
        clear hlt hB hk
        obtain ⟨g, D, hgA, hAll3, hD, hDg⟩ := got_scrap HQ3.out
        have H1 : Hid (GotRel D w3 g m (.int .i64 0) wr) := Lib.hid ⟨0, Nat.zero_le _, rfl, (Aside.of_below HB4.out).trans (.of_below (HBL.out.mono (Nat.le_refl _))), (hAll3.below HB4.out).below HBL.out⟩
        have HGA := Lib.hid hgA; have HD := Lib.hid hD; have HDG := Lib.hid hDg
        clear hgA hAll3 hD hDg HBL
        go_wp2_with fail
        go_loopw [46] (GotRel D w3 g m) (fun i _ => m.length - (intOf i).toNat)
        case atStart => exact H1.out
        case round =>
          obtain ⟨k, hk, rfl, hA3, hAll⟩ := hrel
          by_cases hlt : k < m.length
          · obtain ⟨rfl, hgl⟩ := HGA.out (fun e => by rw [e] at hlt; simp at hlt)
            obtain ⟨g', c', cs, e1, hx, hc⟩ := own_get HQ3.out (List.getElem?_eq_getElem hlt)
            injection e1 with e1 _ e3
            injection e1 with e1
            injection e1 with e1 _ _
            subst e1
            subst e3
            obtain ⟨u, v, _, _, rfl, hu, hv⟩ := entO_open hx
            obtain ⟨U1, cu1, rfl⟩ := (hu.row goodByte).form
            obtain ⟨U2, cu2, rfl⟩ := (hv.row goodByte).form
            have a0 := hc 0 _ rfl; have a1 := hc 1 _ rfl; have a2 := hc 2 _ rfl
            have hgb := hA3.block g hgl HDG.out
            have d0 := (World.cell?_of_block (w := w3) (a := ⟨g, k * 3 + 0, none⟩) hgb).trans a0
            have d1 := (World.cell?_of_block (w := w3) (a := ⟨g, k * 3 + 1, none⟩) hgb).trans a1
            have d2 := (World.cell?_of_block (w := w3) (a := ⟨g, k * 3 + 2, none⟩) hgb).trans a2
            rw [Nat.add_zero] at d0
            have hgl2 : g < wr.heap.size := Nat.lt_of_lt_of_le hgl hA3.size
            have h0 : (0 : Int) ≤ (k : Int) := by omega
            have h1 : (k : Int) < (m.length : Int) := by omega
            have hbm := HBM.out m[k] (List.getElem_mem hlt)
            have HMK := Lib.hid (List.getElem?_eq_getElem hlt)
            generalize m[k] = q at *
            obtain ⟨qh, qx, qy⟩ := q
            dsimp only at a0 a1 a2 d0 d1 d2 hbm
            obtain ⟨WX, hWX⟩ : ∃ WX, wr.alloc (.cells #[.int .u64 (qh : Nat), .slice U1 qx.length cu1, .slice U2 qy.length cu2] 62) = WX := ⟨_, rfl⟩
            have hwx : Below wr.heap.size wr WX := by rw [← hWX]; (repeat (first | exact Below.refl _ _ | with_reducible assumption | refine Below.drew ?_ | refine b_drewN ?_ _ | (refine Below.alloc ?_ (by first | omega | (simp <;> omega)) _)))
            have hbx : WX.heap[wr.heap.size]? = some (.cells #[.int .u64 (qh : Nat), .slice U1 qx.length cu1, .slice U2 qy.length cu2] 62 (0, 0)) := by rw [← hWX]; exact heap_alloc_new wr _
            have hbl : wr.heap.size < WX.heap.size := (Array.getElem?_eq_some_iff.1 hbx).1
            have HBX : Hid (∀ W, Aside D WX W → W.cell? ⟨wr.heap.size, 0, none⟩ = some (.int .u64 (qh : Nat)) ∧ W.cell? ⟨wr.heap.size, 1, none⟩ = some (.slice U1 qx.length cu1) ∧ W.cell? ⟨wr.heap.size, 2, none⟩ = some (.slice U2 qy.length cu2)) := Lib.hid fun W hW => by
              have := (hW.block wr.heap.size hbl (fun hd => by have := (HD.out _ hd).2; have := hA3.size; omega)).trans hbx
              refine ⟨?_, ?_, ?_⟩ <;> simp [World.cell?, this]
            obtain ⟨z0, z1, z2⟩ := HBX.out WX (Aside.refl _ _)
            have HA3 := Lib.hid (hA3.trans (Aside.of_below hwx))
            have H2 : Hid (BumpRel D w3 g m WX qx.length (.int .i64 0) WX) := Lib.hid ⟨0, Nat.zero_le _, rfl, Aside.refl _ _, hAll.below hwx⟩
            have HG1 := Lib.hid a1; have HG2 := Lib.hid a2; have HLT := Lib.hid hlt
            have HN1 : Hid (qx.length ≤ 1048576) := Lib.hid (Nat.le_trans hbm.1 (by decide)); have HN2 : Hid (qy.length ≤ 1048576) := Lib.hid (Nat.le_trans hbm.2 (by decide))
            have HWX := Lib.hid hWX
            clear hc hx hu hv a0 a1 a2 hgb hA3 hAll hbm hwx hbx hWX hlt hgl
            go_wp2_with (rw [HWX.out])
            go_loopw [54] (BumpRel D w3 g m WX qx.length) (fun i _ => qx.length - (intOf i).toNat)
            case atStart => exact H2.out
            case round =>
              obtain ⟨i, hi, rfl, hA, hAll⟩ := hrel
              obtain ⟨z0, z1, z2⟩ := HBX.out wr hA
              by_cases hil : i < qx.length
              · obtain ⟨u', v', x1, x2, sc1, sc2⟩ := hAll k (qh, (qx, qy)) HMK.out
                have y1 := Option.some.inj (HG1.out.symm.trans x1)
                have y2 := Option.some.inj (HG2.out.symm.trans x2)
                rw [← y1] at sc1
                rw [← y2] at sc2
                clear x1 x2 y1 y2
                obtain ⟨A', c', e', hc⟩ := sc1
                cases e'
                obtain ⟨bb, ob, x, rfl, hEb, hc0, hf0⟩ := hc i hil
                have g0 : (0 : Int) ≤ (i : Int) := by omega
                have g1 : (i : Int) < (qx.length : Int) := by omega
                have HI1 := Lib.hid (int_succ hil HN1.out)
                have HI2 := Lib.hid (less_succ hil HN1.out)
                have HA := Lib.hid hA; have HALL := Lib.hid hAll; have HEB := Lib.hid hEb; have HIL := Lib.hid hil
                clear hc hA hAll hEb hil sc2
                go_wp2
                exact ⟨⟨i + 1, HIL.out, HI1.out, HA.out.trans (Aside.set _ _ _ HEB.out), HALL.out.set⟩, HI2.out⟩
              · obtain rfl : i = qx.length := by omega
                have H3 : Hid (BumpRel D w3 g m WX qy.length (.int .i64 0) wr) := Lib.hid ⟨0, Nat.zero_le _, rfl, hA, hAll⟩
                clear hA hAll hil hi
                go_wp2_with fail
                go_loopw [70] (BumpRel D w3 g m WX qy.length) (fun i _ => qy.length - (intOf i).toNat)
                case atStart => exact H3.out
                case round =>
                  obtain ⟨i, hi, rfl, hA, hAll⟩ := hrel
                  obtain ⟨z0, z1, z2⟩ := HBX.out wr hA
                  by_cases hil : i < qy.length
                  · obtain ⟨u', v', x1, x2, sc1, sc2⟩ := hAll k (qh, (qx, qy)) HMK.out
                    have y1 := Option.some.inj (HG1.out.symm.trans x1)
                    have y2 := Option.some.inj (HG2.out.symm.trans x2)
                    rw [← y1] at sc1
                    rw [← y2] at sc2
                    clear x1 x2 y1 y2
                    obtain ⟨A', c', e', hc⟩ := sc2
                    cases e'
                    obtain ⟨bb, ob, x, rfl, hEb, hc0, hf0⟩ := hc i hil
                    have g0 : (0 : Int) ≤ (i : Int) := by omega
                    have g1 : (i : Int) < (qy.length : Int) := by omega
                    have HI1 := Lib.hid (int_succ hil HN2.out)
                    have HI2 := Lib.hid (less_succ hil HN2.out)
                    have HA := Lib.hid hA; have HALL := Lib.hid hAll; have HEB := Lib.hid hEb; have HIL := Lib.hid hil
                    clear hc hA hAll hEb hil sc1
                    go_wp2
                    exact ⟨⟨i + 1, HIL.out, HI1.out, HA.out.trans (Aside.set _ _ _ HEB.out), HALL.out.set⟩, HI2.out⟩
                  · obtain rfl : i = qy.length := by omega
                    have HA := Lib.hid hA; have HALL := Lib.hid hAll
                    clear hA hAll hil hi
                    go_wp2
                    exact ⟨⟨k + 1, HLT.out, int_succ HLT.out (Nat.le_trans HLM.out (by decide)), HA3.out.trans HA.out, HALL.out⟩, less_succ HLT.out (Nat.le_trans HLM.out (by decide))⟩
          · obtain rfl : k = m.length := by omega
            have hE2 : Below w2.heap.size w2 wr := HB3.out.trans (hA3.below HB3.out.size fun k hk => (HD.out k hk).1)
            have HE2 := Lib.hid hE2
            have HEW := Lib.hid (HB2.out.trans (hE2.mono HB2.out.size))
            have CR5 := Lib.hid (CR.out wr HEW.out)
            clear hA3 hAll hE2 hlt hk
            go_wp2_with fail
            refine CR5.out.mono ?_
            rintro e w5 ⟨q5, rfl, hq5, hb5⟩
            obtain ⟨A5, c5, rfl⟩ := hq5.form
            have HB5 := Lib.hid hb5
            have HQ5 := Lib.hid (hq5.move (ok' := fun k => k < w5.heap.size) goodSen (Moves.weaken fun k _ h => h))
            have H0 : Hid (CmpRel l w5 (.int .i64 0) w5) := Lib.hid ⟨0, Nat.zero_le _, rfl, Below.refl _ _⟩
            have HE1 : Hid (Below w1.heap.size w1 w5) := Lib.hid ((HB12.out.trans (HE2.out.mono HB12.out.size)).trans (hb5.mono (Nat.le_trans HB12.out.size HE2.out.size)))
            have HEW5 := Lib.hid (HEW.out.trans (hb5.mono HEW.out.size))
            clear hq5 hb5
            go_wp2_with fail
            go_loopw [86] (CmpRel l w5) (fun i _ => l.length - (intOf i).toNat)
            case atStart => exact H0.out
            case round =>
              obtain ⟨k, hk, rfl, hB⟩ := hrel
              by_cases hlt : k < l.length
              · obtain ⟨b4, o4, e4, hb4, c0, c1, c2⟩ := sen_get HQ5.out (List.getElem?_eq_getElem hlt)
                cases e4
                obtain ⟨b2, o2, e2, hb2, k0, k1, k2⟩ := sen_get HQ1.out (List.getElem?_eq_getElem hlt)
                cases e2
                have hBk := HE1.out.trans (hB.mono HE1.out.size)
                have d0 := (hB.cell (p := ⟨b4, o4 + k * 3, none⟩) hb4).trans c0
                have d1 := (hB.cell (p := ⟨b4, o4 + k * 3 + 1, none⟩) hb4).trans c1
                have d2 := (hB.cell (p := ⟨b4, o4 + k * 3 + 2, none⟩) hb4).trans c2
                have f0 := (hBk.cell (p := ⟨b2, o2 + k * 3, none⟩) hb2).trans k0
                have f1 := (hBk.cell (p := ⟨b2, o2 + k * 3 + 1, none⟩) hb2).trans k1
                have f2 := (hBk.cell (p := ⟨b2, o2 + k * 3 + 2, none⟩) hb2).trans k2
                have hx4 : b4 < wr.heap.size := Nat.lt_of_lt_of_le hb4 hB.size
                have hx2 : b2 < wr.heap.size := Nat.lt_of_lt_of_le hb2 hBk.size
                have h0 : (0 : Int) ≤ (k : Int) := by omega
                have h1 : (k : Int) < (l.length : Int) := by omega
                have HLT := Lib.hid hlt; have HBW := Lib.hid hB
                generalize l[k] = q at *
                obtain ⟨qh, qx, qy⟩ := q
                simp only [str] at d1 d2 f1 f2
                have heq := eqSen qh ⟨qx.toArray⟩ ⟨qy.toArray⟩
                clear c0 c1 c2 k0 k1 k2 hB hBk hb4 hb2
                go_wp2_with fail
                go_quiet (fail)
                rename_i nq
                go_wp2
                exact ⟨⟨k + 1, HLT.out, int_succ HLT.out (Nat.le_trans HL.out (by decide)), b_drewN ((HBW.out).alloc HBW.out.size _) _⟩, less_succ HLT.out (Nat.le_trans HL.out (by decide))⟩
              · obtain rfl : k = l.length := by omega
                have HBL := Lib.hid hB
                clear hlt hB hk
                have hbl5 := HEW5.out.trans (HBL.out.mono HEW5.out.size)
                have CA := Lib.hid (CAW.out _ hbl5)
                have HF := Lib.hid hbl5
                clear hbl5
                go_wp2_with fail
                refine CA.out.mono ?_
                rintro e w6 ⟨rfl, hb6⟩
                have HF6 := Lib.hid (HF.out.trans (hb6.mono HF.out.size))
                clear hb6
                go_wp2
                go_ret
                exact ⟨rfl, HF6.out⟩
end Go.Proofs.YtehkjnmnbplcoaaDoor
