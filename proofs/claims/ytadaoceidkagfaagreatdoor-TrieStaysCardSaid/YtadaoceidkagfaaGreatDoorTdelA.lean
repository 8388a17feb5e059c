
import Derived.Test.YtadaoceidkagfaaGreatDoorTput
import Derived.Test.YtadaoceidkagfaaGreatDoorBwT
import Derived.Deep.AppendLies
/- tree.first, join, Pair, Delete. -/
namespace Go.Proofs.YtadaoceidkagfaaGreatDoor
open Go.RowKit Go.Bw
theorem Turns.after {w w1 w' : World} {mb : Option Nat} (h : Turns w w1 mb) (hb : Below w.heap.size w1 w') : Turns w w' mb :=
  ⟨hb.os.trans h.os, hb.tape.trans h.tape, hb.output.trans h.output, Nat.le_trans h.size hb.size, fun k hk hn => (hb.block k hk).trans (h.block k hk hn)⟩
theorem MeterAt.belowN {w w' : World} {mv : Value} {c : Nat × Nat} {mb : Option Nat} {n : Nat} (h : MeterAt w mv c mb) (hn : ∀ k, mb = some k -> k < n) (hB : Below n w w') : MeterAt w' mv c mb := by
  cases mb with
  | none => exact h
  | some b =>
    have hl := hn b rfl
    exact ⟨h.1, (hB.cell (p := ⟨b, 0, none⟩) hl).trans h.2.1, (hB.cell (p := ⟨b, 1, none⟩) hl).trans h.2.2.1, (hB.frozen (p := ⟨b, 0, none⟩) hl).trans h.2.2.2.1, (hB.frozen (p := ⟨b, 1, none⟩) hl).trans h.2.2.2.2⟩
def FirstEnds (ok : Nat -> Prop) (w : World) (mv : Value) (mb : Option Nat) (x : Bw.PV × Bw.T) (c : Nat × Nat) (e : Ending) (w' : World) : Prop :=
  ∃ u1 u2 q, e = .returned (.tuple #[.agg #[u1, u2], q]) /\ BytesAt ok w' u1 x.1.1 /\ BytesAt ok w' u2 x.1.2 /\ TreeAt ok w' q x.2 /\ MeterAt w' mv c mb /\ Turns w w' mb
theorem cell_aside {W : World} {b B i : Nat} {x y v : Value} (h : W.cell? ⟨b, i, none⟩ = some v) (hne : b ≠ B) : ((W.setCell ⟨B, 0, none⟩ x).setCell ⟨B, 1, none⟩ y).cell? ⟨b, i, none⟩ = some v :=
  (World.cell?_setCell_far _ _ _ _ hne.symm).trans ((World.cell?_setCell_far _ _ _ _ hne.symm).trans h)
theorem cell_asideD {W : World} {b B i : Nat} {x y v : Value} (h : W.cell? ⟨b, i, none⟩ = some v) (hne : b ≠ B) : ((W.setCell ⟨B, 0, none⟩ x).setCell ⟨B, 1, none⟩ y).drew.cell? ⟨b, i, none⟩ = some v := cell_aside h hne
theorem cell_put2 {W : World} {B : Nat} {a b x y : Value} (h0 : W.cell? ⟨B, 0, none⟩ = some a) (h1 : W.cell? ⟨B, 1, none⟩ = some b) : ((W.setCell ⟨B, 0, none⟩ x).setCell ⟨B, 1, none⟩ y).cell? ⟨B, 0, none⟩ = some x /\ ((W.setCell ⟨B, 0, none⟩ x).setCell ⟨B, 1, none⟩ y).cell? ⟨B, 1, none⟩ = some y := ⟨by go_simp, by go_simp⟩
set_option maxRecDepth 100000 in
set_option maxHeartbeats 2000000 in
theorem tfirst_any {mb : Option Nat} : ∀ (t : Bw.T) (ok : Nat -> Prop) (v mv : Value) (c : Nat × Nat) (w : World), TreeAt ok w v t -> t ≠ .nil -> t.even -> MeterAt w mv c mb -> (∀ k, ok k -> some k ≠ mb) -> (∀ k, w.heap.size <= k -> ok k) -> t.size <= 1048570 -> c.1 + t.size < 4611686018427387904 ->
    Calls Tryz.prog 148 #[v, mv] w (FirstEnds ok w mv mb t.first (c.1 + t.firstCost, c.2)) := by
  intro t
  induction t with
  | nil => intro ok v mv c w _ hne; exact absurd rfl hne
  | node l q r ihl ihr =>
    intro ok v mv c w ht _ hev hm hokm hok hsz hc1
    simp only [Bw.T.size] at hsz hc1
    obtain ⟨b, u1, u2, lv, rv, rfl, ⟨ob, h0⟩, ⟨_, h1⟩, ⟨_, h2⟩, ⟨_, h3⟩, _, k1, k2, hl, hr⟩ := treeAt_open ht
    have hbl := World.block_lt_of_cell? w _ h0
    dsimp only at hbl
    obtain ⟨A1, rfl⟩ := hl.form
    obtain ⟨A2, rfl⟩ := hr.form
    obtain ⟨U1, c1, rfl⟩ := k1.form
    obtain ⟨U2, c2, rfl⟩ := k2.form
    obtain ⟨AM, rfl⟩ := hm.form
    obtain ⟨wb, hwb⟩ : ∃ wb, w.alloc (.cells #[.slice none 0 0, .slice none 0 0] 62) = wb := ⟨_, rfl⟩
    have hB : Below w.heap.size w wb := by rw [<- hwb]; exact gB3
    have hsb : wb.heap.size = w.heap.size + 1 := by rw [<- hwb]; simp
    have p0 : wb.cell? ⟨w.heap.size, 0, none⟩ = some (.slice none 0 0) := by rw [<- hwb]; exact cell_new w 0 _ _ 0 _ rfl
    have p1 : wb.cell? ⟨w.heap.size, 1, none⟩ = some (.slice none 0 0) := by rw [<- hwb]; exact cell_new w 0 _ _ 1 _ rfl
    have f0 : wb.frozen? ⟨w.heap.size, 0, none⟩ = false := by rw [<- hwb]; simp only [World.frozen?, heap_alloc_new]; rfl
    have f1 : wb.frozen? ⟨w.heap.size, 1, none⟩ = false := by rw [<- hwb]; simp only [World.frozen?, heap_alloc_new]; rfl
    have q0 := (hB.cell (p := ⟨b, 0, none⟩) hbl).trans h0
    have q1 := (hB.cell (p := ⟨b, 1, none⟩) hbl).trans h1
    have q2 := (hB.cell (p := ⟨b, 2, none⟩) hbl).trans h2
    have q3 := (hB.cell (p := ⟨b, 3, none⟩) hbl).trans h3
    have hbm : some b ≠ mb := hokm b ob
    have hwm : some w.heap.size ≠ mb := hokm _ (hok _ (Nat.le_refl _))
    obtain ⟨okf, hokf⟩ : ∃ okf : Nat -> Prop, okf = fun k => ok k /\ k ≠ w.heap.size := ⟨_, rfl⟩
    have hTW : ∀ W, Turns wb W mb -> Moves ok okf w W := fun W hW k hk hlt => ⟨by rw [hokf]; exact ⟨hk, Nat.ne_of_lt hlt⟩, (hW.block k (by omega) (hokm k hk)).trans (hB.block k hlt)⟩
    have hsW : ∀ W, Turns wb W mb -> ∀ k, W.heap.size <= k -> okf k := fun W hW k hk => by have := hW.size; rw [hokf]; exact ⟨hok k (by omega), by omega⟩
    have hfm : ∀ k, okf k -> some k ≠ mb := fun k hk => by rw [hokf] at hk; exact hokm k hk.1
    have HF : Hid (∀ (W : World) (x y : Value), Moves okf ok W ((W.setCell ⟨w.heap.size, 0, none⟩ x).setCell ⟨w.heap.size, 1, none⟩ y)) := Lib.hid fun W x y => by
      rw [hokf]
      exact (Moves.set (p := ⟨w.heap.size, 0, none⟩) _ (fun k hk => hk.2)).trans (by simp) ((Moves.set (p := ⟨w.heap.size, 1, none⟩) _ (fun k hk => hk.2)).trans (by simp) (Moves.weaken fun k hk _ => hk.1))
    have SK : Hid (∀ W, Turns wb W mb -> W.cell? ⟨b, 0, none⟩ = some (.slice U1 q.1.length c1) /\ W.cell? ⟨b, 1, none⟩ = some (.slice U2 q.2.length c2) /\ W.cell? ⟨b, 2, none⟩ = some (.pointer A1) /\ W.cell? ⟨b, 3, none⟩ = some (.pointer A2)) :=
      Lib.hid fun W hW => ⟨hW.cell q0 hbm, hW.cell q1 hbm, hW.cell q2 hbm, hW.cell q3 hbm⟩
    have SP : Hid (∀ W, Turns wb W mb -> W.cell? ⟨w.heap.size, 0, none⟩ = some (.slice none 0 0) /\ W.cell? ⟨w.heap.size, 1, none⟩ = some (.slice none 0 0) /\ W.frozen? ⟨w.heap.size, 0, none⟩ = false /\ W.frozen? ⟨w.heap.size, 1, none⟩ = false) :=
      Lib.hid fun W hW => ⟨hW.cell p0 hwm, hW.cell p1 hwm, (hW.frozen_far ⟨w.heap.size, 0, none⟩ (by rw [hsb]; exact Nat.lt_succ_self _) hwm).trans f0, (hW.frozen_far ⟨w.heap.size, 1, none⟩ (by rw [hsb]; exact Nat.lt_succ_self _) hwm).trans f1⟩
    have CV := Lib.hid (visit_any (hm.below hB) (by omega))
    have HWB := Lib.hid hwb
    have HB := Lib.hid hB
    have HML : Hid (∀ k, mb = some k -> k < w.heap.size) := Lib.hid fun k e => by subst e; exact hm.lt
    have HTA : Hid (∀ W W', Turns wb W mb -> Below w.heap.size W W' -> Turns w W' mb) := Lib.hid fun W W' hW hW' => Turns.after ((Turns.of_below mb HB.out).trans hW) hW'
    have hbn : b ≠ w.heap.size := Nat.ne_of_lt hbl
    obtain ⟨el, er, en⟩ := hev
    cases l with
    | nil =>
      simp only [TreeAt, Value.pointer.injEq] at hl
      subst hl
      have HE : Hid (∀ W, Turns wb W mb -> BytesAt okf W (.slice U1 q.1.length c1) q.1 /\ BytesAt okf W (.slice U2 q.2.length c2) q.2 /\ TreeAt okf W (.pointer A2) r) := Lib.hid fun W hW => ⟨k1.move goodByte (hTW W hW), k2.move goodByte (hTW W hW), hr.move (hTW W hW)⟩
      show Calls _ _ _ _ (FirstEnds ok w _ mb (q, r) (c.1 + 1, c.2))
      clear ihl ihr ht hm hokm hok hB h0 h1 h2 h3 k1 k2 hr hTW hsW hsz hc1 el er en hsb p0 p1 f0 f1 q0 q1 q2 q3 hwb hfm hokf
      go_enter Tryz.func148, Tryz.ntmps148
      go_wp2_with fail
      rw [HWB.out]
      go_wp2_with fail
      refine CV.out.mono ?_
      rintro e w1 ⟨rfl, hm1, hT1⟩
      have hlt1 : w.heap.size < w1.heap.size := World.block_lt_of_cell? w1 _ (SP.out w1 hT1).1
      obtain ⟨y0, y1, y2, y3⟩ := SK.out w1 hT1
      obtain ⟨z0, z1, g0, g1⟩ := SP.out w1 hT1
      go_wp2_with fail
      go_region_held3 (fun W => W.cell? ⟨b, 0, none⟩ = some (.slice U1 q.1.length c1) /\ W.cell? ⟨b, 1, none⟩ = some (.slice U2 q.2.length c2) /\ W.cell? ⟨b, 2, none⟩ = some (.pointer none) /\ W.cell? ⟨b, 3, none⟩ = some (.pointer A2))
        (first | with_reducible exact ⟨cell_asideD y0 hbn, cell_asideD y1 hbn, cell_asideD y2 hbn, cell_asideD y3 hbn⟩ | with_reducible exact SK.out _ (hT1.trans (Turns.of_below _ (by exact gB3))))
        (fail "no call")
      go_wp2
      obtain ⟨WX, hWX⟩ : ∃ WX, (w1.setCell ⟨w.heap.size, 0, none⟩ (.slice U1 q.1.length c1)).setCell ⟨w.heap.size, 1, none⟩ (.slice U2 q.2.length c2) = WX := ⟨_, rfl⟩
      obtain ⟨k0, k1⟩ := cell_put2 (x := .slice U1 q.1.length c1) (y := .slice U2 q.2.length c2) z0 z1
      have hbX : Below w.heap.size w1 WX := by rw [<- hWX]; exact gB4
      have hmv0 := HF.out w1 (.slice U1 q.1.length c1) (.slice U2 q.2.length c2)
      rw [hWX] at hmv0 k0 k1 ⊢
      have hmv : Moves okf ok w1 WX.drew := hmv0
      have hbX := hbX.drew
      obtain ⟨e1, e2, e3⟩ := HE.out w1 hT1
      exact bodyPost_ret (v := .tuple #[.agg #[.slice U1 q.1.length c1, .slice U2 q.2.length c2], .pointer A2]) (by simp [results, Tryz.results148, go_sem, k0, k1]) rfl ⟨_, _, _, rfl, e1.move goodByte hmv, e2.move goodByte hmv, e3.move hmv, hm1.belowN HML.out hbX, HTA.out w1 _ hT1 hbX⟩
    | node la lq lc =>
      obtain ⟨bl, hA1⟩ := treeAt_some hl (by intro e; cases e)
      simp only [Value.pointer.injEq] at hA1
      subst hA1
      have CF := Lib.hid (fun (W : World) (hW : Turns wb W mb) (h : MeterAt W (.pointer AM) (c.1 + 1, c.2) mb) => ihl okf _ _ _ W (hl.move (hTW W hW)) (by intro e; cases e) el h hfm (hsW W hW) (by omega) (by simp only; omega))
      have hfs := Bw.T.first_size (t := .node la lq lc) (by intro e; cases e)
      have hfe := Bw.T.first_even (.node la lq lc) el
      have hfl : (Bw.T.node (.node la lq lc) q r).first = ((Bw.T.node la lq lc).first.1, Bw.T.evened (Bw.T.node la lq lc).first.2 q r) := rfl
      have hfc : (Bw.T.node (.node la lq lc) q r).firstCost = 1 + (Bw.T.node la lq lc).firstCost := rfl
      have CE := Lib.hid (fun (w2 W : World) (x : Value) (hx : TreeAt okf W x (Bw.T.node la lq lc).first.2) (hW2 : Turns wb w2 mb) (hW : Below w2.heap.size w2 W) => even_any hx ((hr.move (hTW w2 hW2)).move (Moves.below hW)) ((k1.move goodByte (hTW w2 hW2)).move goodByte (Moves.below hW)) ((k2.move goodByte (hTW w2 hW2)).move goodByte (Moves.below hW)) (fun k hk => hsW w2 hW2 k (Nat.le_trans hW.size hk)) (Bw.fair_less_left hfe er en hfs) (by omega))
      have HC : Hid (c.1 + 1 + (Bw.T.node la lq lc).firstCost = c.1 + (1 + (Bw.T.node la lq lc).firstCost)) := Lib.hid (by omega)
      rw [hfl, hfc]
      generalize (Bw.T.node la lq lc).first = x at *
      generalize (Bw.T.node la lq lc).firstCost = xc at *
      obtain ⟨⟨xk, xv⟩, xt⟩ := x
      clear ihl ihr ht hm hokm hok hB h0 h1 h2 h3 k1 k2 hl hr hTW hsW hsz hc1 el er en hsb p0 p1 f0 f1 q0 q1 q2 q3 hwb hfs hfe hfl hfc hfm hokf
      go_enter Tryz.func148, Tryz.ntmps148
      go_wp2_with fail
      rw [HWB.out]
      go_wp2_with fail
      refine CV.out.mono ?_
      rintro e w1 ⟨rfl, hm1, hT1⟩
      obtain ⟨y0, y1, y2, y3⟩ := SK.out w1 hT1
      obtain ⟨z0, z1, g0, g1⟩ := SP.out w1 hT1
      go_wp2_with fail
      refine (CF.out w1 hT1 hm1).mono ?_
      rintro e w2 ⟨v1, v2, q2, rfl, hx1, hx2, hx3, hm2, hT12⟩
      obtain ⟨V1, cv1, rfl⟩ := hx1.form
      obtain ⟨V2, cv2, rfl⟩ := hx2.form
      obtain ⟨Q2, rfl⟩ := hx3.form
      have hT2 := hT1.trans hT12
      have hlt2 : w.heap.size < w2.heap.size := World.block_lt_of_cell? w2 _ (SP.out w2 hT2).1
      obtain ⟨WP, hWP⟩ : ∃ WP, w2.alloc (.cells #[.slice V1 xk.length cv1, .slice V2 xv.length cv2] 62) = WP := ⟨_, rfl⟩
      have hbP : Below w2.heap.size w2 WP := by rw [<- hWP]; exact gB4
      have p0 : WP.cell? ⟨w2.heap.size, 0, none⟩ = some (.slice V1 xk.length cv1) := by rw [<- hWP]; exact cell_new w2 0 _ _ 0 _ rfl
      have p1 : WP.cell? ⟨w2.heap.size, 1, none⟩ = some (.slice V2 xv.length cv2) := by rw [<- hWP]; exact cell_new w2 0 _ _ 1 _ rfl
      have hltP : w2.heap.size < WP.heap.size := World.block_lt_of_cell? WP _ p0
      have HWP := Lib.hid hWP
      have hTP : Turns wb WP mb := hT2.trans (Turns.of_below _ hbP)
      have SX : Hid (∀ W, Below WP.heap.size WP W -> W.cell? ⟨w2.heap.size, 0, none⟩ = some (.slice V1 xk.length cv1) /\ W.cell? ⟨w2.heap.size, 1, none⟩ = some (.slice V2 xv.length cv2) /\ W.cell? ⟨b, 0, none⟩ = some (.slice U1 q.1.length c1) /\ W.cell? ⟨b, 1, none⟩ = some (.slice U2 q.2.length c2) /\ W.cell? ⟨b, 2, none⟩ = some (.pointer (some ⟨bl, 0, none⟩)) /\ W.cell? ⟨b, 3, none⟩ = some (.pointer A2)) :=
        Lib.hid fun W hW => ⟨(hW.cell (p := ⟨w2.heap.size, 0, none⟩) hltP).trans p0, (hW.cell (p := ⟨w2.heap.size, 1, none⟩) hltP).trans p1, SK.out W (hTP.trans (Turns.of_below _ hW))⟩
      have CE2 := Lib.hid (fun (W : World) (hW : Below WP.heap.size WP W) => CE.out w2 W _ (hx3.move (Moves.below (hbP.trans (hW.mono hbP.size)))) hT2 (hbP.trans (hW.mono hbP.size)))
      have hr0 := Below.refl WP.heap.size WP
      have hbn2 : w2.heap.size ≠ w.heap.size := (Nat.ne_of_lt hlt2).symm
      have HBP := Lib.hid hbP
      clear y0 y1 y2 y3 z0 z1 g0 g1 p0 p1 hWP hbP
      obtain ⟨p0, p1, y0, y1, y2, y3⟩ := SX.out WP hr0
      obtain ⟨z0, z1, g0, g1⟩ := SP.out WP hTP
      clear y2
      have y2 := (SK.out w2 hT2).2.2.1
      go_wp2_with fail
      rw [HWP.out]
      clear y2
      have y2 := (SX.out WP hr0).2.2.2.2.1
      go_wp2_with fail
      go_region_held3 (fun W => W.cell? ⟨w2.heap.size, 0, none⟩ = some (.slice V1 xk.length cv1) /\ W.cell? ⟨w2.heap.size, 1, none⟩ = some (.slice V2 xv.length cv2) /\ W.cell? ⟨b, 0, none⟩ = some (.slice U1 q.1.length c1) /\ W.cell? ⟨b, 1, none⟩ = some (.slice U2 q.2.length c2) /\ W.cell? ⟨b, 2, none⟩ = some (.pointer (some ⟨bl, 0, none⟩)) /\ W.cell? ⟨b, 3, none⟩ = some (.pointer A2))
        (first | with_reducible exact ⟨cell_aside (SX.out _ hb4).1 hbn2, cell_aside (SX.out _ hb4).2.1 hbn2, cell_aside (SX.out _ hb4).2.2.1 hbn, cell_aside (SX.out _ hb4).2.2.2.1 hbn, cell_aside (SX.out _ hb4).2.2.2.2.1 hbn, cell_aside (SX.out _ hb4).2.2.2.2.2 hbn⟩ | with_reducible exact SX.out _ hb4 | with_reducible exact SX.out _ (by exact gB3))
        ((go_at_call 123; (with_reducible refine (CE2.out _ (by exact gB3)).mono ?_); rintro e w4 ⟨y4, rfl, hy4, hb4'⟩; obtain ⟨Y4, rfl⟩ := hy4.form; have hb4 : Below WP.heap.size WP w4 := Below.trans (by exact gB3) (hb4'.mono (by simp)); obtain ⟨z0, z1, g0, g1⟩ := SP.out w4 (hTP.trans (Turns.of_below _ hb4))))
      go_wp2
      have hb24 := HBP.out.trans (hb4.mono HBP.out.size)
      have hlt4 : w.heap.size < w4.heap.size := World.block_lt_of_cell? w4 _ z0
      obtain ⟨WX, hWX⟩ : ∃ WX, (w4.setCell ⟨w.heap.size, 0, none⟩ (.slice V1 xk.length cv1)).setCell ⟨w.heap.size, 1, none⟩ (.slice V2 xv.length cv2) = WX := ⟨_, rfl⟩
      obtain ⟨k0, k1⟩ := cell_put2 (x := .slice V1 xk.length cv1) (y := .slice V2 xv.length cv2) z0 z1
      have hbX : Below w.heap.size w4 WX := by rw [<- hWX]; exact gB4
      have hmv0 := HF.out w4 (.slice V1 xk.length cv1) (.slice V2 xv.length cv2)
      rw [hWX] at hmv0 k0 k1 ⊢
      have hmv := hmv0
      exact bodyPost_ret (v := .tuple #[.agg #[.slice V1 xk.length cv1, .slice V2 xv.length cv2], .pointer Y4]) (by simp [results, Tryz.results148, go_sem, k0, k1]) rfl ⟨_, _, _, rfl, (hx1.move goodByte (Moves.below hb24)).move goodByte hmv, (hx2.move goodByte (Moves.below hb24)).move goodByte hmv, hy4.move hmv, ((hm2.below hb24).belowN HML.out hbX).cast (Prod.ext (by simp only [HC.out]) rfl), HTA.out w4 _ (hT2.trans (Turns.of_below _ hb24)) hbX⟩
theorem tjoin_even {f : Nat} {l r : Bw.T} {p : Bw.PV} (he : Bw.evenB l.size r.size = true) : Bw.T.joinF f l p r = .node l p r := by
  cases f with
  | zero => rfl
  | succ f => simp only [Bw.T.joinF]; rw [if_pos he]
set_option maxRecDepth 100000 in
set_option maxHeartbeats 2000000 in
theorem tjoin_flat {ok : Nat -> Prop} {l r : Bw.T} {p : Bw.PV} {lv rv u v : Value} {w : World} (hl : TreeAt ok w lv l) (hr : TreeAt ok w rv r) (hu : BytesAt ok w u p.1) (hv : BytesAt ok w v p.2) (hok : ∀ k, w.heap.size <= k -> ok k) (hn : l.size + r.size <= 1048570) (he : Bw.evenB l.size r.size = true) :
    Calls Tryz.prog 149 #[lv, .agg #[u, v], rv] w (Gives w fun q w' => TreeAt ok w' q (.node l p r)) := by
  obtain ⟨A1, rfl⟩ := hl.form
  obtain ⟨A2, rfl⟩ := hr.form
  obtain ⟨U, cu, rfl⟩ := hu.form
  obtain ⟨V, cv, rfl⟩ := hv.form
  obtain ⟨wb, hwb⟩ : ∃ wb, w.alloc (.cells #[.slice U p.1.length cu, .slice V p.2.length cv] 62) = wb := ⟨_, rfl⟩
  have hB : Below w.heap.size w wb := by rw [<- hwb]; exact gB1
  have hBW : ∀ W, Below wb.heap.size wb W -> Below w.heap.size w W := fun W hW => hB.trans (hW.mono hB.size)
  have p0 : wb.cell? ⟨w.heap.size, 0, none⟩ = some (.slice U p.1.length cu) := by rw [<- hwb]; exact cell_new w 0 _ _ 0 _ rfl
  have p1 : wb.cell? ⟨w.heap.size, 1, none⟩ = some (.slice V p.2.length cv) := by rw [<- hwb]; exact cell_new w 0 _ _ 1 _ rfl
  have CL := Lib.hid (fun (W : World) (hW : Below wb.heap.size wb W) => size_any (hl.move (Moves.below (hBW W hW))))
  have CR := Lib.hid (fun (W : World) (hW : Below wb.heap.size wb W) => size_any (hr.move (Moves.below (hBW W hW))))
  have CE := Lib.hid (fun (W : World) => weven_b l.size r.size W (by omega) (by omega))
  have HWB := Lib.hid hwb
  have HB := Lib.hid hB
  rw [he] at CE
  have CN := Lib.hid (fun (W : World) (hW : Below wb.heap.size wb W) => node_any (hl.move (Moves.below (hBW W hW))) (hr.move (Moves.below (hBW W hW))) (hu.move goodByte (Moves.below (hBW W hW))) (hv.move goodByte (Moves.below (hBW W hW))) (fun k hk => hok k (Nat.le_trans (hBW W hW).size hk)) (by omega))
  generalize l.size = sl at *
  generalize r.size = sr at *
  clear hl hr hu hv hok hn hwb hB hBW he
  go_enter Tryz.func149, Tryz.ntmps149
  go_wp2_with fail
  rw [HWB.out]
  go_wp2_with (first
    | (go_at_call 56; first | ((with_reducible refine (CL.out _ (by exact gB2)).mono ?_); rintro e w' ⟨rfl, rfl⟩) | ((with_reducible refine (CR.out _ (by exact gB2)).mono ?_); rintro e w' ⟨rfl, rfl⟩))
    | (go_at_call 57; (with_reducible refine (CE.out _).mono ?_); rintro e w' ⟨rfl, rfl⟩)
    | (go_at_call 129; (with_reducible refine (CN.out _ (by exact gB2)).mono ?_); rintro e w1 ⟨y1, rfl, hy1, hb1⟩; obtain ⟨Y1, rfl⟩ := hy1.form; have HY := Lib.hid hy1; have HB1 := Lib.hid hb1; clear hy1 hb1))
  go_ret
  exact ⟨_, rfl, HY.out, HB.out.trans (HB1.out.mono HB.out.size)⟩
set_option maxRecDepth 100000 in
set_option maxHeartbeats 2000000 in
theorem tjoin_any {ok : Nat -> Prop} : ∀ (f : Nat) (l r : Bw.T) (p : Bw.PV) (lv rv u v : Value) (w : World), TreeAt ok w lv l -> TreeAt ok w rv r -> BytesAt ok w u p.1 -> BytesAt ok w v p.2 -> (∀ k, w.heap.size <= k -> ok k) -> l.size + r.size <= f -> l.even -> r.even -> l.size + r.size <= 1048570 ->
    Calls Tryz.prog 149 #[lv, .agg #[u, v], rv] w (Gives w fun q w' => TreeAt ok w' q (Bw.T.joinF f l p r)) := by
  intro f
  induction f with
  | zero =>
    intro l r p lv rv u v w hl hr hu hv hok hf _ _ hn
    have h1 : l.size = 0 := by omega
    have h2 : r.size = 0 := by omega
    have he : Bw.evenB l.size r.size = true := by rw [h1, h2]; rfl
    rw [tjoin_even he]
    exact tjoin_flat hl hr hu hv hok hn he
  | succ f ih =>
    intro l r p lv rv u v w hl0 hr0 hu hv hok hf hel her hn
    cases he : Bw.evenB l.size r.size with
    | true =>
      rw [tjoin_even he]
      exact tjoin_flat hl0 hr0 hu hv hok hn he
    | false =>
      have hne : ¬ Bw.evenN l.size r.size := fun h => by rw [Bw.evenB_iff.2 h] at he; cases he
      obtain ⟨U, cu, rfl⟩ := hu.form
      obtain ⟨V, cv, rfl⟩ := hv.form
      by_cases hlt : r.size < l.size
      · cases l with
        | nil => simp only [Bw.T.size] at hlt; omega
        | node ll q lr =>
          have ht := hl0
          obtain ⟨b, u1, u2, lv, rv', rfl, ⟨ob, h0⟩, ⟨_, h1⟩, ⟨_, h2⟩, ⟨_, h3⟩, _, k1, k2, hl, hr⟩ := treeAt_open ht
          have hbl := World.block_lt_of_cell? w _ h0
          dsimp only at hbl
          obtain ⟨A1, rfl⟩ := hl.form
          obtain ⟨A2, rfl⟩ := hr.form
          obtain ⟨U1, c1, rfl⟩ := k1.form
          obtain ⟨U2, c2, rfl⟩ := k2.form
          obtain ⟨AR, rfl⟩ := hr0.form
          obtain ⟨wb, hwb⟩ : ∃ wb, w.alloc (.cells #[.slice U p.1.length cu, .slice V p.2.length cv] 62) = wb := ⟨_, rfl⟩
          have hB : Below w.heap.size w wb := by rw [<- hwb]; exact gB1
          have hBW : ∀ W, Below wb.heap.size wb W -> Below w.heap.size w W := fun W hW => hB.trans (hW.mono hB.size)
          have hs0 : w.heap.size < wb.heap.size := by rw [<- hwb]; simp
          have p0 : wb.cell? ⟨w.heap.size, 0, none⟩ = some (.slice U p.1.length cu) := by rw [<- hwb]; exact cell_new w 0 _ _ 0 _ rfl
          have p1 : wb.cell? ⟨w.heap.size, 1, none⟩ = some (.slice V p.2.length cv) := by rw [<- hwb]; exact cell_new w 0 _ _ 1 _ rfl
          have q0 := (hB.cell (p := ⟨b, 0, none⟩) hbl).trans h0
          have q1 := (hB.cell (p := ⟨b, 1, none⟩) hbl).trans h1
          have q2 := (hB.cell (p := ⟨b, 2, none⟩) hbl).trans h2
          have q3 := (hB.cell (p := ⟨b, 3, none⟩) hbl).trans h3
          have hb0 : b < wb.heap.size := Nat.lt_of_lt_of_le hbl hB.size
          have SK : Hid (∀ W, Below wb.heap.size wb W -> W.cell? ⟨w.heap.size, 0, none⟩ = some (.slice U p.1.length cu) /\ W.cell? ⟨w.heap.size, 1, none⟩ = some (.slice V p.2.length cv) /\ W.cell? ⟨b, 0, none⟩ = some (.slice U1 q.1.length c1) /\ W.cell? ⟨b, 1, none⟩ = some (.slice U2 q.2.length c2) /\ W.cell? ⟨b, 2, none⟩ = some (.pointer A1) /\ W.cell? ⟨b, 3, none⟩ = some (.pointer A2)) :=
            Lib.hid fun W hW => ⟨(hW.cell (p := ⟨w.heap.size, 0, none⟩) hs0).trans p0, (hW.cell (p := ⟨w.heap.size, 1, none⟩) hs0).trans p1, (hW.cell (p := ⟨b, 0, none⟩) hb0).trans q0, (hW.cell (p := ⟨b, 1, none⟩) hb0).trans q1, (hW.cell (p := ⟨b, 2, none⟩) hb0).trans q2, (hW.cell (p := ⟨b, 3, none⟩) hb0).trans q3⟩
          obtain ⟨el, er, en⟩ := hel
          have hsz : (Bw.T.node ll q lr).size = ll.size + 1 + lr.size := rfl
          have hjf : Bw.T.joinF (f + 1) (.node ll q lr) p r = Bw.T.evened ll q (Bw.T.joinF f lr p r) := by simp only [Bw.T.joinF]; rw [he, if_neg (by simp), if_pos hlt]
          rw [hjf]
          have hjs := Bw.T.joinF_size f lr p r
          have hgt : ((r.size : Int) < ((Bw.T.node ll q lr).size : Int)) := by omega
          have CL := Lib.hid (fun (W : World) (hW : Below wb.heap.size wb W) => size_any (hl0.move (Moves.below (hBW W hW))))
          have CR := Lib.hid (fun (W : World) (hW : Below wb.heap.size wb W) => size_any (hr0.move (Moves.below (hBW W hW))))
          have CE0 := Lib.hid (fun (W : World) => weven_b (Bw.T.node ll q lr).size r.size W (by omega) (by omega))
          rw [he] at CE0
          have CJ := Lib.hid (fun (W : World) (hW : Below wb.heap.size wb W) => ih lr r p _ _ _ _ W (hr.move (Moves.below (hBW W hW))) (hr0.move (Moves.below (hBW W hW))) (hu.move goodByte (Moves.below (hBW W hW))) (hv.move goodByte (Moves.below (hBW W hW))) (fun k hk => hok k (Nat.le_trans (hBW W hW).size hk)) (by omega) er her (by omega))
          have CE := Lib.hid (fun (W : World) (x : Value) (hx : TreeAt ok W x (Bw.T.joinF f lr p r)) (hW : Below wb.heap.size wb W) => even_any (hl.move (Moves.below (hBW W hW))) hx (k1.move goodByte (Moves.below (hBW W hW))) (k2.move goodByte (Moves.below (hBW W hW))) (fun k hk => hok k (Nat.le_trans (hBW W hW).size hk)) (Bw.fair_join_right el er her (by omega) en hne (by omega)) (by omega))
          have HWB := Lib.hid hwb
          have HB := Lib.hid hB
          generalize (Bw.T.node ll q lr).size = sl at *
          generalize r.size = sr at *
          generalize Bw.T.joinF f lr p r = jt at *
          clear hl hr hu hv hok hn hwb hB hBW he ih ht hl0 hr0 hf her h0 h1 h2 h3 k1 k2 p0 p1 q0 q1 q2 q3 hb0 hs0 el er en hsz hjf hjs hne
          go_enter Tryz.func149, Tryz.ntmps149
          go_wp2_with fail
          rw [HWB.out]
          have hr0 := Below.refl wb.heap.size wb
          obtain ⟨y0, y1, y2, y3, y4, y5⟩ := SK.out wb hr0
          go_wp2_with (first
            | (go_at_call 56; first | ((with_reducible refine (CL.out _ (by exact gB2)).mono ?_); rintro e w' ⟨rfl, rfl⟩) | ((with_reducible refine (CR.out _ (by exact gB2)).mono ?_); rintro e w' ⟨rfl, rfl⟩))
            | (go_at_call 57; (with_reducible refine (CE0.out _).mono ?_); rintro e w' ⟨rfl, rfl⟩))
          go_region_held3 (fun W => W.cell? ⟨w.heap.size, 0, none⟩ = some (.slice U p.1.length cu) /\ W.cell? ⟨w.heap.size, 1, none⟩ = some (.slice V p.2.length cv) /\ W.cell? ⟨b, 0, none⟩ = some (.slice U1 q.1.length c1) /\ W.cell? ⟨b, 1, none⟩ = some (.slice U2 q.2.length c2) /\ W.cell? ⟨b, 2, none⟩ = some (.pointer A1) /\ W.cell? ⟨b, 3, none⟩ = some (.pointer A2))
            (first | with_reducible exact SK.out _ hW2 | with_reducible exact SK.out _ hW1 | with_reducible exact SK.out _ (by exact gB2))
            (first
              | (go_at_call 149; (with_reducible refine (CJ.out _ (by exact gB2)).mono ?_); rintro e w1 ⟨y1', rfl, hy1, hb1⟩; obtain ⟨Y1, rfl⟩ := hy1.form; have hW1 : Below wb.heap.size wb w1 := Below.trans (by exact gB2) (hb1.mono (by simp)))
              | (go_at_call 123; (with_reducible refine (CE.out _ _ hy1 hW1).mono ?_); rintro e w2 ⟨y2', rfl, hy2, hb2⟩; obtain ⟨Y2, rfl⟩ := hy2.form; have hW2 : Below wb.heap.size wb w2 := hW1.trans (hb2.mono hW1.size)))
          go_wp2
          go_ret
          exact ⟨_, rfl, hy2, HB.out.trans (hW2.mono HB.out.size)⟩
      · have hle : l.size <= r.size := by omega
        cases r with
        | nil =>
          simp only [Bw.T.size] at hle
          have h1 : l.size = 0 := by omega
          rw [h1] at he
          cases he
        | node rl q rr =>
          have ht := hr0
          obtain ⟨b, u1, u2, lv', rv, rfl, ⟨ob, h0⟩, ⟨_, h1⟩, ⟨_, h2⟩, ⟨_, h3⟩, _, k1, k2, hl, hr⟩ := treeAt_open ht
          have hbl := World.block_lt_of_cell? w _ h0
          dsimp only at hbl
          obtain ⟨A1, rfl⟩ := hl.form
          obtain ⟨A2, rfl⟩ := hr.form
          obtain ⟨U1, c1, rfl⟩ := k1.form
          obtain ⟨U2, c2, rfl⟩ := k2.form
          obtain ⟨AR, rfl⟩ := hl0.form
          obtain ⟨wb, hwb⟩ : ∃ wb, w.alloc (.cells #[.slice U p.1.length cu, .slice V p.2.length cv] 62) = wb := ⟨_, rfl⟩
          have hB : Below w.heap.size w wb := by rw [<- hwb]; exact gB1
          have hBW : ∀ W, Below wb.heap.size wb W -> Below w.heap.size w W := fun W hW => hB.trans (hW.mono hB.size)
          have hs0 : w.heap.size < wb.heap.size := by rw [<- hwb]; simp
          have p0 : wb.cell? ⟨w.heap.size, 0, none⟩ = some (.slice U p.1.length cu) := by rw [<- hwb]; exact cell_new w 0 _ _ 0 _ rfl
          have p1 : wb.cell? ⟨w.heap.size, 1, none⟩ = some (.slice V p.2.length cv) := by rw [<- hwb]; exact cell_new w 0 _ _ 1 _ rfl
          have q0 := (hB.cell (p := ⟨b, 0, none⟩) hbl).trans h0
          have q1 := (hB.cell (p := ⟨b, 1, none⟩) hbl).trans h1
          have q2 := (hB.cell (p := ⟨b, 2, none⟩) hbl).trans h2
          have q3 := (hB.cell (p := ⟨b, 3, none⟩) hbl).trans h3
          have hb0 : b < wb.heap.size := Nat.lt_of_lt_of_le hbl hB.size
          have SK : Hid (∀ W, Below wb.heap.size wb W -> W.cell? ⟨w.heap.size, 0, none⟩ = some (.slice U p.1.length cu) /\ W.cell? ⟨w.heap.size, 1, none⟩ = some (.slice V p.2.length cv) /\ W.cell? ⟨b, 0, none⟩ = some (.slice U1 q.1.length c1) /\ W.cell? ⟨b, 1, none⟩ = some (.slice U2 q.2.length c2) /\ W.cell? ⟨b, 2, none⟩ = some (.pointer A1) /\ W.cell? ⟨b, 3, none⟩ = some (.pointer A2)) :=
            Lib.hid fun W hW => ⟨(hW.cell (p := ⟨w.heap.size, 0, none⟩) hs0).trans p0, (hW.cell (p := ⟨w.heap.size, 1, none⟩) hs0).trans p1, (hW.cell (p := ⟨b, 0, none⟩) hb0).trans q0, (hW.cell (p := ⟨b, 1, none⟩) hb0).trans q1, (hW.cell (p := ⟨b, 2, none⟩) hb0).trans q2, (hW.cell (p := ⟨b, 3, none⟩) hb0).trans q3⟩
          obtain ⟨el, er, en⟩ := her
          have hsz : (Bw.T.node rl q rr).size = rl.size + 1 + rr.size := rfl
          have hjf : Bw.T.joinF (f + 1) l p (.node rl q rr) = Bw.T.evened (Bw.T.joinF f l p rl) q rr := by simp only [Bw.T.joinF]; rw [he, if_neg (by simp), if_neg hlt]
          rw [hjf]
          have hjs := Bw.T.joinF_size f l p rl
          have hgt : ¬ (((Bw.T.node rl q rr).size : Int) < (l.size : Int)) := by omega
          have CL := Lib.hid (fun (W : World) (hW : Below wb.heap.size wb W) => size_any (hl0.move (Moves.below (hBW W hW))))
          have CR := Lib.hid (fun (W : World) (hW : Below wb.heap.size wb W) => size_any (hr0.move (Moves.below (hBW W hW))))
          have CE0 := Lib.hid (fun (W : World) => weven_b l.size (Bw.T.node rl q rr).size W (by omega) (by omega))
          rw [he] at CE0
          have CJ := Lib.hid (fun (W : World) (hW : Below wb.heap.size wb W) => ih l rl p _ _ _ _ W (hl0.move (Moves.below (hBW W hW))) (hl.move (Moves.below (hBW W hW))) (hu.move goodByte (Moves.below (hBW W hW))) (hv.move goodByte (Moves.below (hBW W hW))) (fun k hk => hok k (Nat.le_trans (hBW W hW).size hk)) (by omega) hel el (by omega))
          have CE := Lib.hid (fun (W : World) (x : Value) (hx : TreeAt ok W x (Bw.T.joinF f l p rl)) (hW : Below wb.heap.size wb W) => even_any hx (hr.move (Moves.below (hBW W hW))) (k1.move goodByte (Moves.below (hBW W hW))) (k2.move goodByte (Moves.below (hBW W hW))) (fun k hk => hok k (Nat.le_trans (hBW W hW).size hk)) (Bw.fair_join_left hel el er (by omega) en hne (by omega)) (by omega))
          have HWB := Lib.hid hwb
          have HB := Lib.hid hB
          generalize (Bw.T.node rl q rr).size = sr at *
          generalize l.size = sl at *
          generalize Bw.T.joinF f l p rl = jt at *
          clear hl hr hu hv hok hn hwb hB hBW he ih ht hl0 hr0 hf hel h0 h1 h2 h3 k1 k2 p0 p1 q0 q1 q2 q3 hb0 hs0 el er en hsz hjf hjs hne hle
          go_enter Tryz.func149, Tryz.ntmps149
          go_wp2_with fail
          rw [HWB.out]
          have hr0 := Below.refl wb.heap.size wb
          obtain ⟨y0, y1, y2, y3, y4, y5⟩ := SK.out wb hr0
          go_wp2_with (first
            | (go_at_call 56; first | ((with_reducible refine (CL.out _ (by exact gB2)).mono ?_); rintro e w' ⟨rfl, rfl⟩) | ((with_reducible refine (CR.out _ (by exact gB2)).mono ?_); rintro e w' ⟨rfl, rfl⟩))
            | (go_at_call 57; (with_reducible refine (CE0.out _).mono ?_); rintro e w' ⟨rfl, rfl⟩))
          go_region_held3 (fun W => W.cell? ⟨w.heap.size, 0, none⟩ = some (.slice U p.1.length cu) /\ W.cell? ⟨w.heap.size, 1, none⟩ = some (.slice V p.2.length cv) /\ W.cell? ⟨b, 0, none⟩ = some (.slice U1 q.1.length c1) /\ W.cell? ⟨b, 1, none⟩ = some (.slice U2 q.2.length c2) /\ W.cell? ⟨b, 2, none⟩ = some (.pointer A1) /\ W.cell? ⟨b, 3, none⟩ = some (.pointer A2))
            (first | with_reducible exact SK.out _ hW2 | with_reducible exact SK.out _ hW1 | with_reducible exact SK.out _ (by exact gB2))
            (first
              | (go_at_call 149; (with_reducible refine (CJ.out _ (by exact gB2)).mono ?_); rintro e w1 ⟨y1', rfl, hy1, hb1⟩; obtain ⟨Y1, rfl⟩ := hy1.form; have hW1 : Below wb.heap.size wb w1 := Below.trans (by exact gB2) (hb1.mono (by simp)))
              | (go_at_call 123; (with_reducible refine (CE.out _ _ hy1 hW1).mono ?_); rintro e w2 ⟨y2', rfl, hy2, hb2⟩; obtain ⟨Y2, rfl⟩ := hy2.form; have hW2 : Below wb.heap.size wb w2 := hW1.trans (hb2.mono hW1.size)))
          go_wp2
          go_ret
          exact ⟨_, rfl, hy2, HB.out.trans (hW2.mono HB.out.size)⟩
end Go.Proofs.YtadaoceidkagfaaGreatDoor
/- tree.Pair, Delete. -/
namespace Go.Proofs.YtadaoceidkagfaaGreatDoor
open Go.RowKit Go.Bw
set_option maxRecDepth 100000 in
set_option maxHeartbeats 2000000 in
theorem tpair_any {ok : Nat -> Prop} {mb : Option Nat} {l r : Bw.T} {lv rv mv : Value} {c : Nat × Nat} {w : World} (hl : TreeAt ok w lv l) (hr : TreeAt ok w rv r) (hel : l.even) (her : r.even) (hm : MeterAt w mv c mb) (hokm : ∀ k, ok k -> some k ≠ mb) (hok : ∀ k, w.heap.size <= k -> ok k) (hn : l.size + r.size <= 1048570) (hc1 : c.1 + r.size < 4611686018427387904) :
    Calls Tryz.prog 122 #[lv, rv, mv] w (PutEnds ok w mv mb (Bw.T.pair l r) (c.1 + Bw.T.pairCost l r, c.2)) := by
  obtain ⟨AM, rfl⟩ := hm.form
  cases l with
  | nil =>
    simp only [TreeAt] at hl
    subst hl
    obtain ⟨A2, rfl⟩ := hr.form
    have e1 : Bw.T.pair .nil r = r := by cases r <;> rfl
    have e2 : Bw.T.pairCost .nil r = 0 := by cases r <;> rfl
    rw [e1, e2]
    have HR := Lib.hid hr; have HM := Lib.hid hm
    clear hr hm hokm hok
    go_enter Tryz.func122, Tryz.ntmps122
    go_wp2
    go_ret
    exact ⟨_, rfl, HR.out, HM.out, Turns.refl _ _⟩
  | node a b d =>
    obtain ⟨bl, rfl⟩ := treeAt_some hl (by intro e; cases e)
    cases r with
    | nil =>
      simp only [TreeAt] at hr
      subst hr
      have HL := Lib.hid hl; have HM := Lib.hid hm
      show Calls _ _ _ _ (PutEnds ok w _ mb (.node a b d) (c.1 + 0, c.2))
      clear hl hm hokm hok
      go_enter Tryz.func122, Tryz.ntmps122
      go_wp2
      go_ret
      exact ⟨_, rfl, HL.out, HM.out, Turns.refl _ _⟩
    | node a' b' d' =>
      obtain ⟨br, rfl⟩ := treeAt_some hr (by intro e; cases e)
      have e1 : Bw.T.pair (.node a b d) (.node a' b' d') = Bw.T.joinF ((Bw.T.node a b d).size + (Bw.T.node a' b' d').first.2.size) (.node a b d) (Bw.T.node a' b' d').first.1 (Bw.T.node a' b' d').first.2 := rfl
      have e2 : Bw.T.pairCost (.node a b d) (.node a' b' d') = (Bw.T.node a' b' d').firstCost := rfl
      rw [e1, e2]
      have CF := Lib.hid (tfirst_any (mb := mb) _ ok _ _ c w hr (by intro e; cases e) her hm hokm hok (by omega) hc1)
      have hfs := Bw.T.first_size (t := .node a' b' d') (by intro e; cases e)
      have hfe := Bw.T.first_even (.node a' b' d') her
      have CJ := Lib.hid (fun (w1 W : World) (x u v : Value) (hW1 : Turns w w1 mb) (hW : Below w1.heap.size w1 W) (hx : TreeAt ok W x (Bw.T.node a' b' d').first.2) (hu : BytesAt ok W u (Bw.T.node a' b' d').first.1.1) (hv : BytesAt ok W v (Bw.T.node a' b' d').first.1.2) => tjoin_any ((Bw.T.node a b d).size + (Bw.T.node a' b' d').first.2.size) (.node a b d) _ _ _ _ _ _ W ((hl.move (hW1.moves hokm)).move (Moves.below hW)) hx hu hv (fun k hk => hok k (Nat.le_trans (Nat.le_trans hW1.size hW.size) hk)) (Nat.le_refl _) hel hfe (by omega))
      generalize (Bw.T.node a' b' d').first = x at *
      generalize (Bw.T.node a' b' d').firstCost = xc at *
      generalize Bw.T.joinF ((Bw.T.node a b d).size + x.2.size) (.node a b d) x.1 x.2 = jt at *
      obtain ⟨⟨xk, xv⟩, xt⟩ := x
      clear hl hr hm hokm hok hel her hn hc1 hfs hfe e1 e2
      go_enter Tryz.func122, Tryz.ntmps122
      go_wp2_with fail
      refine CF.out.mono ?_
      rintro e w1 ⟨v1, v2, q1, rfl, hx1, hx2, hx3, hm1, hT1⟩
      obtain ⟨V1, cv1, rfl⟩ := hx1.form
      obtain ⟨V2, cv2, rfl⟩ := hx2.form
      obtain ⟨Q1, rfl⟩ := hx3.form
      go_wp2_with fail
      refine (CJ.out w1 _ _ _ _ hT1 (by exact gB4) (hx3.move (Moves.below (by exact gB4))) (hx1.move goodByte (Moves.below (by exact gB4))) (hx2.move goodByte (Moves.below (by exact gB4)))).mono ?_
      rintro e w2 ⟨y2, rfl, hy2, hb2⟩
      obtain ⟨Y2, rfl⟩ := hy2.form
      have hb12 : Below w1.heap.size w1 w2 := Below.trans (by exact gB4) (hb2.mono (by simp))
      go_wp2
      go_ret
      exact ⟨_, rfl, hy2, hm1.below hb12, hT1.trans (Turns.of_below _ hb12)⟩
def DelTold (ok : Nat -> Prop) (w' : World) (v q : Value) : Option Bw.T -> Prop
  | none => q = v
  | some t => TreeAt ok w' q t
def DelEnds (ok : Nat -> Prop) (w : World) (v mv : Value) (mb : Option Nat) (o : Option Bw.T) (c : Nat × Nat) (e : Ending) (w' : World) : Prop :=
  ∃ q, e = .returned (.tuple #[q, .bool o.isSome]) /\ DelTold ok w' v q o /\ MeterAt w' mv c mb /\ Turns w w' mb
theorem DelTold.form {ok : Nat -> Prop} {w' : World} {v q : Value} {o : Option Bw.T} (h : DelTold ok w' v q o) (hv : ∃ A, v = .pointer A) : ∃ A, q = .pointer A := by
  cases o with
  | none => cases h; exact hv
  | some t => exact TreeAt.form h
set_option maxRecDepth 100000 in
set_option maxHeartbeats 2000000 in
theorem tdelete_any {ok okb : Nat -> Prop} {mb : Option Nat} (k : Bw.Bytes) : ∀ (t : Bw.T) (v kv mv : Value) (c : Nat × Nat) (w : World), TreeAt ok w v t -> t.even -> BytesAt okb w kv k -> MeterAt w mv c mb -> (∀ k, ok k -> some k ≠ mb) -> (∀ k, okb k -> some k ≠ mb) -> (∀ k, w.heap.size <= k -> ok k) -> t.size <= 1048570 -> c.1 + t.size < 4611686018427387904 -> c.2 + t.size < 4611686018427387904 ->
    Calls Tryz.prog 95 #[v, kv, mv] w (DelEnds ok w v mv mb (Bw.T.del k t) (c.1 + (Bw.T.delCost k t).1, c.2 + (Bw.T.delCost k t).2)) := by
  intro t
  induction t with
  | nil =>
    intro v kv mv c w ht _ hk hm _ _ _ _ _ _
    simp only [TreeAt] at ht
    subst ht
    obtain ⟨AM, rfl⟩ := hm.form
    obtain ⟨K, ck, rfl⟩ := hk.form
    have HM := Lib.hid hm
    show Calls _ _ _ _ (DelEnds ok w _ _ mb none (c.1 + 0, c.2 + 0))
    clear hk hm
    go_enter Tryz.func95, Tryz.ntmps95
    go_wp2
    go_ret2
    exact ⟨_, rfl, rfl, HM.out, Turns.refl _ _⟩
  | node l q r ihl ihr =>
    intro v kv mv c w ht hev hk hm hokm hokb hok hsz hc1 hc2
    simp only [Bw.T.size] at hsz hc1 hc2
    obtain ⟨b, u1, u2, lv, rv, rfl, ⟨ob, h0⟩, ⟨_, h1⟩, ⟨_, h2⟩, ⟨_, h3⟩, _, k1, k2, hl, hr⟩ := treeAt_open ht
    obtain ⟨A1, rfl⟩ := hl.form
    obtain ⟨A2, rfl⟩ := hr.form
    obtain ⟨U1, c1, rfl⟩ := k1.form
    obtain ⟨U2, c2, rfl⟩ := k2.form
    obtain ⟨AM, rfl⟩ := hm.form
    obtain ⟨K, ck, rfl⟩ := hk.form
    have hbm : some b ≠ mb := hokm b ob
    have hTW : ∀ W, Turns w W mb -> Moves ok ok w W := fun W hW => hW.moves hokm
    have hTB : ∀ W, Turns w W mb -> Moves okb okb w W := fun W hW => hW.moves hokb
    have hsW : ∀ W, Turns w W mb -> ∀ k, W.heap.size <= k -> ok k := fun W hW k hk => hok k (Nat.le_trans hW.size hk)
    have SK : Hid (∀ W, Turns w W mb -> W.cell? ⟨b, 0, none⟩ = some (.slice U1 q.1.length c1) /\ W.cell? ⟨b, 1, none⟩ = some (.slice U2 q.2.length c2) /\ W.cell? ⟨b, 2, none⟩ = some (.pointer A1) /\ W.cell? ⟨b, 3, none⟩ = some (.pointer A2)) :=
      Lib.hid fun W hW => ⟨hW.cell h0 hbm, hW.cell h1 hbm, hW.cell h2 hbm, hW.cell h3 hbm⟩
    have CV := Lib.hid (visit_any hm (by omega))
    have CC := Lib.hid (fun (W : World) (hW : Turns w W mb) (h : MeterAt W (.pointer AM) (c.1 + 1, c.2) mb) => mcmp_any h (by simp only; omega) (hk.move goodByte (hTB W hW)) (k1.move goodByte (hTW W hW)) hokb hokm)
    obtain ⟨el, er, en⟩ := hev
    by_cases e0 : k = q.1
    · have hc0 : Lib.compareBytes k q.1 = 0 := (Bw.cmp_eq_zero _ _).2 e0
      rw [hc0] at CC
      have hd : Bw.T.del k (.node l q r) = some (Bw.T.pair l r) := by simp only [Bw.T.del]; rw [if_pos e0]
      have hdc : Bw.T.delCost k (.node l q r) = (1 + Bw.T.pairCost l r, 1) := by simp only [Bw.T.delCost]; rw [if_pos e0]
      rw [hd, hdc]
      have CP := Lib.hid (fun (W : World) (hW : Turns w W mb) (h : MeterAt W (.pointer AM) (c.1 + 1, c.2 + 1) mb) => tpair_any (hl.move (hTW W hW)) (hr.move (hTW W hW)) el er h hokm (hsW W hW) (by omega) (by simp only; omega))
      have HC1 : Hid (c.1 + 1 + Bw.T.pairCost l r = c.1 + (1 + Bw.T.pairCost l r)) := Lib.hid (by omega)
      clear ihl ihr ht hk hm hokm hokb hok h0 h1 h2 h3 k1 k2 hl hr hTW hTB hsW hsz hc1 hc2 el er en e0 hc0 hd hdc
      generalize Bw.T.pair l r = pt at *
      generalize Bw.T.pairCost l r = pc at *
      go_enter Tryz.func95, Tryz.ntmps95
      go_wp2_with fail
      refine CV.out.mono ?_
      rintro e w1 ⟨rfl, hm1, hT1⟩
      obtain ⟨y0, y1, y2, y3⟩ := SK.out w1 hT1
      go_wp2_with fail
      refine (CC.out _ hT1 hm1).mono ?_
      rintro e w2 ⟨rfl, hm2, hT12⟩
      have hT2 : Turns w w2 mb := hT1.trans hT12
      clear y0 y1 y2 y3
      obtain ⟨y0, y1, y2, y3⟩ := SK.out w2 hT2
      go_wp2_with fail
      go_region_held3 (fun W => W.cell? ⟨b, 0, none⟩ = some (.slice U1 q.1.length c1) /\ W.cell? ⟨b, 1, none⟩ = some (.slice U2 q.2.length c2) /\ W.cell? ⟨b, 2, none⟩ = some (.pointer A1) /\ W.cell? ⟨b, 3, none⟩ = some (.pointer A2))
        (first | with_reducible exact SK.out _ hT3 | with_reducible exact SK.out _ (hT2.trans (Turns.of_below _ (by exact gB3))))
        ((go_at_call 122; (with_reducible refine (CP.out _ (hT2.trans (Turns.of_below _ (by exact gB3))) (hm2.below (by exact gB3))).mono ?_); rintro e w3 ⟨y3, rfl, hy3, hm3, ht3⟩; obtain ⟨Y3, rfl⟩ := hy3.form; have hT3 : Turns w w3 mb := hT2.trans ((Turns.of_below _ (by exact gB3)).trans ht3)))
      go_wp2
      go_ret2
      exact ⟨_, rfl, hy3, hm3.cast (Prod.ext (by simp only [HC1.out]) rfl), hT3⟩
    · have hc0 : ¬ Lib.compareBytes k q.1 = 0 := fun h => e0 ((Bw.cmp_eq_zero _ _).1 h)
      by_cases e1 : Bw.lt q.1 k
      · have hcm : Lib.compareBytes k q.1 = 1 := Bw.cmp_one.2 e1
        rw [hcm] at CC
        have hd : Bw.T.del k (.node l q r) = (Bw.T.del k r).map fun r' => Bw.T.evened l q r' := by simp only [Bw.T.del]; rw [if_neg e0, if_pos e1]
        have hdc : Bw.T.delCost k (.node l q r) = (1 + (Bw.T.delCost k r).1, 1 + (Bw.T.delCost k r).2) := by simp only [Bw.T.delCost]; rw [if_neg e0, if_pos e1]
        rw [hd, hdc]
        have CD := Lib.hid (fun (W : World) (hW : Turns w W mb) (h : MeterAt W (.pointer AM) (c.1 + 1, c.2 + 1) mb) => ihr _ _ _ _ W (hr.move (hTW W hW)) er (hk.move goodByte (hTB W hW)) h hokm hokb (hsW W hW) (by omega) (by simp only; omega) (by simp only; omega))
        have HC1 : Hid (c.1 + 1 + (Bw.T.delCost k r).1 = c.1 + (1 + (Bw.T.delCost k r).1)) := Lib.hid (by omega)
        have HC2 : Hid (c.2 + 1 + (Bw.T.delCost k r).2 = c.2 + (1 + (Bw.T.delCost k r).2)) := Lib.hid (by omega)
        generalize Bw.T.delCost k r = dc at *
        cases hdr : Bw.T.del k r with
        | none =>
          rw [hdr] at CD
          clear ihl ihr ht hk hm hokm hokb hok h0 h1 h2 h3 k1 k2 hl hr hTW hTB hsW hsz hc1 hc2 el er en e0 e1 hc0 hcm hd hdc hdr
          go_enter Tryz.func95, Tryz.ntmps95
          go_wp2_with fail
          refine CV.out.mono ?_
          rintro e w1 ⟨rfl, hm1, hT1⟩
          obtain ⟨y0, y1, y2, y3⟩ := SK.out w1 hT1
          go_wp2_with fail
          refine (CC.out _ hT1 hm1).mono ?_
          rintro e w2 ⟨rfl, hm2, hT12⟩
          have hT2 : Turns w w2 mb := hT1.trans hT12
          clear y0 y1 y2 y3
          obtain ⟨y0, y1, y2, y3⟩ := SK.out w2 hT2
          go_wp2_with fail
          refine (CD.out _ hT2 hm2).mono ?_
          rintro e w3 ⟨q3, rfl, rfl, hm3, hT23⟩
          have hT3 := hT2.trans hT23
          go_wp2
          go_ret2
          exact ⟨_, rfl, rfl, hm3.cast (Prod.ext (by simp only [HC1.out]) (by simp only [HC2.out])), hT3⟩
        | some r' =>
          rw [hdr] at CD
          have hds := Bw.T.del_size k r r' hdr
          have hde := Bw.T.del_even k r r' er hdr
          have CE := Lib.hid (fun (W : World) (hW : Turns w W mb) (x : Value) (hx : TreeAt ok W x r') => even_any (hl.move (hTW W hW)) hx (k1.move goodByte (hTW W hW)) (k2.move goodByte (hTW W hW)) (hsW W hW) (Bw.fair_less_right el hde en hds) (by omega))
          clear ihl ihr ht hk hm hokm hokb hok h0 h1 h2 h3 k1 k2 hl hr hTW hTB hsW hsz hc1 hc2 el er en e0 e1 hc0 hcm hd hdc hdr hds hde
          go_enter Tryz.func95, Tryz.ntmps95
          go_wp2_with fail
          refine CV.out.mono ?_
          rintro e w1 ⟨rfl, hm1, hT1⟩
          obtain ⟨y0, y1, y2, y3⟩ := SK.out w1 hT1
          go_wp2_with fail
          refine (CC.out _ hT1 hm1).mono ?_
          rintro e w2 ⟨rfl, hm2, hT12⟩
          have hT2 : Turns w w2 mb := hT1.trans hT12
          clear y0 y1 y2 y3
          obtain ⟨y0, y1, y2, y3⟩ := SK.out w2 hT2
          go_wp2_with fail
          refine (CD.out _ hT2 hm2).mono ?_
          rintro e w3 ⟨q3, rfl, hq3, hm3, hT23⟩
          have hT3 := hT2.trans hT23
          have hq3 : TreeAt ok w3 q3 r' := hq3
          obtain ⟨Q3, rfl⟩ := hq3.form
          clear y0 y1 y2 y3
          obtain ⟨y0, y1, y2, y3⟩ := SK.out w3 hT3
          go_wp2_with fail
          go_region_held3 (fun W => W.cell? ⟨b, 0, none⟩ = some (.slice U1 q.1.length c1) /\ W.cell? ⟨b, 1, none⟩ = some (.slice U2 q.2.length c2) /\ W.cell? ⟨b, 2, none⟩ = some (.pointer A1) /\ W.cell? ⟨b, 3, none⟩ = some (.pointer A2))
            (first | with_reducible exact SK.out _ hT4 | with_reducible exact SK.out _ (hT3.trans (Turns.of_below _ (by exact gB3))))
            ((go_at_call 123; (with_reducible refine (CE.out _ (hT3.trans (Turns.of_below _ (by exact gB3))) _ (hq3.move (Moves.below (by exact gB3)))).mono ?_); rintro e w4 ⟨y4, rfl, hy4, hb4⟩; obtain ⟨Y4, rfl⟩ := hy4.form; have hb34 : Below w3.heap.size w3 w4 := Below.trans (by exact gB3) (hb4.mono (by simp)); have hT4 : Turns w w4 mb := hT3.trans (Turns.of_below _ hb34)))
          go_wp2
          go_ret2
          exact ⟨_, rfl, hy4, (hm3.below hb34).cast (Prod.ext (by simp only [HC1.out]) (by simp only [HC2.out])), hT4⟩
      · have hcm : Lib.compareBytes k q.1 = -1 := by
          rcases cmp_cases k q.1 with h | h | h
          · exact absurd h hc0
          · exact absurd (Bw.cmp_one.1 h) e1
          · exact h
        rw [hcm] at CC
        have hd : Bw.T.del k (.node l q r) = (Bw.T.del k l).map fun l' => Bw.T.evened l' q r := by simp only [Bw.T.del]; rw [if_neg e0, if_neg e1]
        have hdc : Bw.T.delCost k (.node l q r) = (1 + (Bw.T.delCost k l).1, 1 + (Bw.T.delCost k l).2) := by simp only [Bw.T.delCost]; rw [if_neg e0, if_neg e1]
        rw [hd, hdc]
        have CD := Lib.hid (fun (W : World) (hW : Turns w W mb) (h : MeterAt W (.pointer AM) (c.1 + 1, c.2 + 1) mb) => ihl _ _ _ _ W (hl.move (hTW W hW)) el (hk.move goodByte (hTB W hW)) h hokm hokb (hsW W hW) (by omega) (by simp only; omega) (by simp only; omega))
        have HC1 : Hid (c.1 + 1 + (Bw.T.delCost k l).1 = c.1 + (1 + (Bw.T.delCost k l).1)) := Lib.hid (by omega)
        have HC2 : Hid (c.2 + 1 + (Bw.T.delCost k l).2 = c.2 + (1 + (Bw.T.delCost k l).2)) := Lib.hid (by omega)
        generalize Bw.T.delCost k l = dc at *
        cases hdr : Bw.T.del k l with
        | none =>
          rw [hdr] at CD
          clear ihl ihr ht hk hm hokm hokb hok h0 h1 h2 h3 k1 k2 hl hr hTW hTB hsW hsz hc1 hc2 el er en e0 e1 hc0 hcm hd hdc hdr
          go_enter Tryz.func95, Tryz.ntmps95
          go_wp2_with fail
          refine CV.out.mono ?_
          rintro e w1 ⟨rfl, hm1, hT1⟩
          obtain ⟨y0, y1, y2, y3⟩ := SK.out w1 hT1
          go_wp2_with fail
          refine (CC.out _ hT1 hm1).mono ?_
          rintro e w2 ⟨rfl, hm2, hT12⟩
          have hT2 : Turns w w2 mb := hT1.trans hT12
          clear y0 y1 y2 y3
          obtain ⟨y0, y1, y2, y3⟩ := SK.out w2 hT2
          go_wp2_with fail
          refine (CD.out _ hT2 hm2).mono ?_
          rintro e w3 ⟨q3, rfl, rfl, hm3, hT23⟩
          have hT3 := hT2.trans hT23
          go_wp2
          go_ret2
          exact ⟨_, rfl, rfl, hm3.cast (Prod.ext (by simp only [HC1.out]) (by simp only [HC2.out])), hT3⟩
        | some l' =>
          rw [hdr] at CD
          have hds := Bw.T.del_size k l l' hdr
          have hde := Bw.T.del_even k l l' el hdr
          have CE := Lib.hid (fun (W : World) (hW : Turns w W mb) (x : Value) (hx : TreeAt ok W x l') => even_any hx (hr.move (hTW W hW)) (k1.move goodByte (hTW W hW)) (k2.move goodByte (hTW W hW)) (hsW W hW) (Bw.fair_less_left hde er en hds) (by omega))
          clear ihl ihr ht hk hm hokm hokb hok h0 h1 h2 h3 k1 k2 hl hr hTW hTB hsW hsz hc1 hc2 el er en e0 e1 hc0 hcm hd hdc hdr hds hde
          go_enter Tryz.func95, Tryz.ntmps95
          go_wp2_with fail
          refine CV.out.mono ?_
          rintro e w1 ⟨rfl, hm1, hT1⟩
          obtain ⟨y0, y1, y2, y3⟩ := SK.out w1 hT1
          go_wp2_with fail
          refine (CC.out _ hT1 hm1).mono ?_
          rintro e w2 ⟨rfl, hm2, hT12⟩
          have hT2 : Turns w w2 mb := hT1.trans hT12
          clear y0 y1 y2 y3
          obtain ⟨y0, y1, y2, y3⟩ := SK.out w2 hT2
          go_wp2_with fail
          refine (CD.out _ hT2 hm2).mono ?_
          rintro e w3 ⟨q3, rfl, hq3, hm3, hT23⟩
          have hT3 := hT2.trans hT23
          have hq3 : TreeAt ok w3 q3 l' := hq3
          obtain ⟨Q3, rfl⟩ := hq3.form
          clear y0 y1 y2 y3
          obtain ⟨y0, y1, y2, y3⟩ := SK.out w3 hT3
          go_wp2_with fail
          go_region_held3 (fun W => W.cell? ⟨b, 0, none⟩ = some (.slice U1 q.1.length c1) /\ W.cell? ⟨b, 1, none⟩ = some (.slice U2 q.2.length c2) /\ W.cell? ⟨b, 2, none⟩ = some (.pointer A1) /\ W.cell? ⟨b, 3, none⟩ = some (.pointer A2))
            (first | with_reducible exact SK.out _ hT4 | with_reducible exact SK.out _ (hT3.trans (Turns.of_below _ (by exact gB3))))
            ((go_at_call 123; (with_reducible refine (CE.out _ (hT3.trans (Turns.of_below _ (by exact gB3))) _ (hq3.move (Moves.below (by exact gB3)))).mono ?_); rintro e w4 ⟨y4, rfl, hy4, hb4⟩; obtain ⟨Y4, rfl⟩ := hy4.form; have hb34 : Below w3.heap.size w3 w4 := Below.trans (by exact gB3) (hb4.mono (by simp)); have hT4 : Turns w w4 mb := hT3.trans (Turns.of_below _ hb34)))
          go_wp2
          go_ret2
          exact ⟨_, rfl, hy4, (hm3.below hb34).cast (Prod.ext (by simp only [HC1.out]) (by simp only [HC2.out])), hT4⟩
end Go.Proofs.YtadaoceidkagfaaGreatDoor
