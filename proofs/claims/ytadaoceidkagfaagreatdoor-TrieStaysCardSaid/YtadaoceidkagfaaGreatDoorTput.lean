
import Derived.Test.YtadaoceidkagfaaGreatDoorPut
namespace Go.Proofs.YtadaoceidkagfaaGreatDoor
open Go.RowKit Go.Bw
def PutEnds (ok : Nat -> Prop) (w : World) (mv : Value) (mb : Option Nat) (t : Bw.T) (c : Nat × Nat) (e : Ending) (w' : World) : Prop :=
  ∃ q, e = .returned q /\ TreeAt ok w' q t /\ MeterAt w' mv c mb /\ Turns w w' mb
theorem MeterAt.cast {w : World} {mv : Value} {c c' : Nat × Nat} {mb : Option Nat} (h : MeterAt w mv c mb) (e : c = c') : MeterAt w mv c' mb := e ▸ h
theorem cmp_cases (a b : Bw.Bytes) : Lib.compareBytes a b = 0 \/ Lib.compareBytes a b = 1 \/ Lib.compareBytes a b = -1 := Bw.cmp_range a b
set_option maxRecDepth 100000 in
set_option maxHeartbeats 2000000 in
theorem tput_any {ok : Nat -> Prop} {mb : Option Nat} (p : Bw.PV) : ∀ (t : Bw.T) (v u1' u2' mv : Value) (c : Nat × Nat) (w : World), TreeAt ok w v t -> t.even -> BytesAt ok w u1' p.1 -> BytesAt ok w u2' p.2 -> MeterAt w mv c mb -> (∀ k, ok k -> some k ≠ mb) -> (∀ k, w.heap.size <= k -> ok k) -> t.size <= 1048570 -> c.1 + t.size < 4611686018427387904 -> c.2 + t.size < 4611686018427387904 ->
    Calls Tryz.prog 130 #[v, .agg #[u1', u2'], mv] w (PutEnds ok w mv mb (t.put p) (c.1 + t.steps p.1, c.2 + t.steps p.1)) := by
  intro t
  induction t with
  | nil =>
    intro v u1' u2' mv c w ht _ hu hv hm hokm hok _ _ _
    simp only [TreeAt] at ht
    subst ht
    obtain ⟨AM, rfl⟩ := hm.form
    obtain ⟨U, cu, rfl⟩ := hu.form
    obtain ⟨V, cv, rfl⟩ := hv.form
    obtain ⟨wb, hwb⟩ : ∃ wb, w.alloc (.cells #[.slice U p.1.length cu, .slice V p.2.length cv] 62) = wb := ⟨_, rfl⟩
    have hB : Below w.heap.size w wb := by rw [<- hwb]; exact gB1
    have p0 : wb.cell? ⟨w.heap.size, 0, none⟩ = some (.slice U p.1.length cu) := by rw [<- hwb]; exact cell_new w 0 _ _ 0 _ rfl
    have p1 : wb.cell? ⟨w.heap.size, 1, none⟩ = some (.slice V p.2.length cv) := by rw [<- hwb]; exact cell_new w 0 _ _ 1 _ rfl
    have CN := Lib.hid (node_any (ok := ok) (l := .nil) (r := .nil) (lv := .pointer none) (rv := .pointer none) (p := p) (w := wb) rfl rfl (hu.move goodByte (Moves.below hB)) (hv.move goodByte (Moves.below hB)) (fun k hk => hok k (Nat.le_trans hB.size hk)) (by simp [Bw.T.size]))
    have HB := Lib.hid hB
    have HWB := Lib.hid hwb
    have HM := Lib.hid hm
    clear hu hv hm hokm hok hwb hB
    go_enter Tryz.func130, Tryz.ntmps130
    go_wp2_with fail
    rw [HWB.out]
    go_wp2_with fail
    refine CN.out.mono ?_
    rintro e w1 ⟨y1, rfl, hy1, hb1⟩
    obtain ⟨Y1, rfl⟩ := hy1.form
    have HY := Lib.hid hy1; have HB1 := Lib.hid (HB.out.trans (hb1.mono HB.out.size))
    clear hy1 hb1
    go_wp2
    go_ret
    exact ⟨_, rfl, HY.out, HM.out.below HB1.out, Turns.of_below mb HB1.out⟩
  | node l q r ihl ihr =>
    intro v u1' u2' mv c w ht hev hu hv hm hokm hok hsz hc1 hc2
    simp only [Bw.T.size] at hsz hc1 hc2
    have hst : (Bw.T.node l q r).steps p.1 = if Lib.compareBytes p.1 q.1 = 0 then 1 else if Lib.compareBytes p.1 q.1 = 1 then r.steps p.1 + 1 else l.steps p.1 + 1 := rfl
    have hpt : (Bw.T.node l q r).put p = if Lib.compareBytes p.1 q.1 = 0 then .node l p r else if Lib.compareBytes p.1 q.1 = 1 then Bw.T.evened l q (r.put p) else Bw.T.evened (l.put p) q r := rfl
    rw [hst, hpt]
    clear hst hpt
    obtain ⟨b, u1, u2, lv, rv, rfl, ⟨ob, h0⟩, ⟨_, h1⟩, ⟨_, h2⟩, ⟨_, h3⟩, _, k1, k2, hl, hr⟩ := treeAt_open ht
    have hbl := World.block_lt_of_cell? w _ h0
    dsimp only at hbl
    obtain ⟨A1, rfl⟩ := hl.form
    obtain ⟨A2, rfl⟩ := hr.form
    obtain ⟨AM, rfl⟩ := hm.form
    obtain ⟨U, cu, rfl⟩ := hu.form
    obtain ⟨V, cv, rfl⟩ := hv.form
    obtain ⟨U1, c1, rfl⟩ := k1.form
    obtain ⟨U2, c2, rfl⟩ := k2.form
    obtain ⟨wb, hwb⟩ : ∃ wb, w.alloc (.cells #[.slice U p.1.length cu, .slice V p.2.length cv] 62) = wb := ⟨_, rfl⟩
    have hB : Below w.heap.size w wb := by rw [<- hwb]; exact gB1
    have hsb : wb.heap.size = w.heap.size + 1 := by rw [<- hwb]; simp
    have p0 : wb.cell? ⟨w.heap.size, 0, none⟩ = some (.slice U p.1.length cu) := by rw [<- hwb]; exact cell_new w 0 _ _ 0 _ rfl
    have p1 : wb.cell? ⟨w.heap.size, 1, none⟩ = some (.slice V p.2.length cv) := by rw [<- hwb]; exact cell_new w 0 _ _ 1 _ rfl
    have q0 := (hB.cell (p := ⟨b, 0, none⟩) hbl).trans h0
    have q1 := (hB.cell (p := ⟨b, 1, none⟩) hbl).trans h1
    have q2 := (hB.cell (p := ⟨b, 2, none⟩) hbl).trans h2
    have q3 := (hB.cell (p := ⟨b, 3, none⟩) hbl).trans h3
    have hbm : some b ≠ mb := hokm b ob
    have hwm : some w.heap.size ≠ mb := hokm _ (hok _ (Nat.le_refl _))
    have hTW : ∀ W, Turns wb W mb -> Moves ok ok w W := fun W hW => (Moves.below hB).trans hB.size (hW.moves hokm)
    have hsW : ∀ W, Turns wb W mb -> ∀ k, W.heap.size <= k -> ok k := fun W hW k hk => hok k (Nat.le_trans (Nat.le_trans hB.size hW.size) hk)
    have SK : Hid (∀ W, Turns wb W mb -> W.cell? ⟨w.heap.size, 0, none⟩ = some (.slice U p.1.length cu) /\ W.cell? ⟨w.heap.size, 1, none⟩ = some (.slice V p.2.length cv) /\ W.cell? ⟨b, 0, none⟩ = some (.slice U1 q.1.length c1) /\ W.cell? ⟨b, 1, none⟩ = some (.slice U2 q.2.length c2) /\ W.cell? ⟨b, 2, none⟩ = some (.pointer A1) /\ W.cell? ⟨b, 3, none⟩ = some (.pointer A2)) :=
      Lib.hid fun W hW => ⟨hW.cell p0 hwm, hW.cell p1 hwm, hW.cell q0 hbm, hW.cell q1 hbm, hW.cell q2 hbm, hW.cell q3 hbm⟩
    have CV := Lib.hid (visit_any (hm.below hB) (by omega))
    have CC := Lib.hid (fun (W : World) (hW : Turns wb W mb) (h : MeterAt W (.pointer AM) (c.1 + 1, c.2) mb) => mcmp_any h (by simp only; omega) (hu.move goodByte (hTW W hW)) (k1.move goodByte (hTW W hW)) hokm hokm)
    have HWB := Lib.hid hwb
    have HB := Lib.hid hB
    obtain ⟨el, er, en⟩ := hev
    by_cases e0 : Lib.compareBytes p.1 q.1 = 0
    · have CN := Lib.hid (fun (W : World) (hW : Turns wb W mb) => node_any (hl.move (hTW W hW)) (hr.move (hTW W hW)) (hu.move goodByte (hTW W hW)) (hv.move goodByte (hTW W hW)) (hsW W hW) (by omega))
      rw [if_pos e0, if_pos e0]
      rw [e0] at CC
      clear ihl ihr ht hu hv hm hokm hok hwb hB h0 h1 h2 h3 k1 k2 hl hr hTW hsW hsz hc1 hc2 el er en hsb e0 p0 p1 q0 q1 q2 q3
      go_enter Tryz.func130, Tryz.ntmps130
      go_wp2_with fail
      rw [HWB.out]
      go_wp2_with fail
      refine CV.out.mono ?_
      rintro e w1 ⟨rfl, hm1, hT1⟩
      go_wp2_with fail
      go_region_held3 (fun W => W.cell? ⟨w.heap.size, 0, none⟩ = some (.slice U p.1.length cu) /\ W.cell? ⟨w.heap.size, 1, none⟩ = some (.slice V p.2.length cv) /\ W.cell? ⟨b, 0, none⟩ = some (.slice U1 q.1.length c1) /\ W.cell? ⟨b, 1, none⟩ = some (.slice U2 q.2.length c2) /\ W.cell? ⟨b, 2, none⟩ = some (.pointer A1) /\ W.cell? ⟨b, 3, none⟩ = some (.pointer A2))
        (first | with_reducible exact SK.out _ hT4 | with_reducible exact SK.out _ hT3 | with_reducible exact SK.out _ hT2 | with_reducible exact SK.out _ hT1 | with_reducible exact SK.out _ (hT2.trans (Turns.of_below _ (by exact gB2))) | with_reducible exact SK.out _ (hT1.trans (Turns.of_below _ (by exact gB2))))
        ((go_at_call 82; ((with_reducible refine (CC.out _ (hT1.trans (Turns.of_below _ (by exact gB2))) (hm1.below (by exact gB2))).mono ?_); rintro e w2 ⟨rfl, hm2, ht2⟩; have hT2 : Turns wb w2 mb := hT1.trans ((Turns.of_below _ (by exact gB2)).trans ht2))))
      go_wp2_with fail
      go_region_held3 (fun W => W.cell? ⟨w.heap.size, 0, none⟩ = some (.slice U p.1.length cu) /\ W.cell? ⟨w.heap.size, 1, none⟩ = some (.slice V p.2.length cv) /\ W.cell? ⟨b, 0, none⟩ = some (.slice U1 q.1.length c1) /\ W.cell? ⟨b, 1, none⟩ = some (.slice U2 q.2.length c2) /\ W.cell? ⟨b, 2, none⟩ = some (.pointer A1) /\ W.cell? ⟨b, 3, none⟩ = some (.pointer A2))
        (first | with_reducible exact SK.out _ hT4 | with_reducible exact SK.out _ hT3 | with_reducible exact SK.out _ hT2 | with_reducible exact SK.out _ hT1 | with_reducible exact SK.out _ (hT2.trans (Turns.of_below _ (by exact gB2))) | with_reducible exact SK.out _ (hT1.trans (Turns.of_below _ (by exact gB2))))
        ((go_at_call 129; ((with_reducible refine (CN.out _ (hT2.trans (Turns.of_below _ (by exact gB2)))).mono ?_); rintro e w3 ⟨y3, rfl, hy3, hb3⟩; obtain ⟨Y3, rfl⟩ := hy3.form; have hb23 : Below w2.heap.size w2 w3 := Below.trans (by exact gB2) (hb3.mono (by simp)); have hT3 : Turns wb w3 mb := hT2.trans (Turns.of_below _ hb23))))
      go_wp2
      go_ret
      exact ⟨_, rfl, hy3, hm2.below hb23, (Turns.of_below mb HB.out).trans hT3⟩
    · by_cases e1 : Lib.compareBytes p.1 q.1 = 1
      · have CP := Lib.hid (fun (W : World) (hW : Turns wb W mb) (h : MeterAt W (.pointer AM) (c.1 + 1, c.2 + 1) mb) => ihr _ _ _ _ _ W (hr.move (hTW W hW)) er (hu.move goodByte (hTW W hW)) (hv.move goodByte (hTW W hW)) h hokm (hsW W hW) (by omega) (by simp only; omega) (by simp only; omega))
        have hsp := Bw.T.size_put_le p r
        have CE := Lib.hid (fun (W : World) (x : Value) (hx : TreeAt ok W x (r.put p)) (hW : Turns wb W mb) => even_any (hl.move (hTW W hW)) hx (k1.move goodByte (hTW W hW)) (k2.move goodByte (hTW W hW)) (hsW W hW) (Bw.fair_put_right p el er en) (by omega))
        rw [if_neg e0, if_pos e1, if_neg e0, if_pos e1]
        rw [e1] at CC
        clear ihl ihr ht hu hv hm hokm hok hwb hB h0 h1 h2 h3 k1 k2 hl hr hTW hsW hsz hc1 hc2 el er en hsb e0 e1 hsp p0 p1 q0 q1 q2 q3
        go_enter Tryz.func130, Tryz.ntmps130
        go_wp2_with fail
        rw [HWB.out]
        go_wp2_with fail
        refine CV.out.mono ?_
        rintro e w1 ⟨rfl, hm1, hT1⟩
        go_wp2_with fail
        go_region_held3 (fun W => W.cell? ⟨w.heap.size, 0, none⟩ = some (.slice U p.1.length cu) /\ W.cell? ⟨w.heap.size, 1, none⟩ = some (.slice V p.2.length cv) /\ W.cell? ⟨b, 0, none⟩ = some (.slice U1 q.1.length c1) /\ W.cell? ⟨b, 1, none⟩ = some (.slice U2 q.2.length c2) /\ W.cell? ⟨b, 2, none⟩ = some (.pointer A1) /\ W.cell? ⟨b, 3, none⟩ = some (.pointer A2))
          (first | with_reducible exact SK.out _ hT4 | with_reducible exact SK.out _ hT3 | with_reducible exact SK.out _ hT2 | with_reducible exact SK.out _ hT1 | with_reducible exact SK.out _ (hT2.trans (Turns.of_below _ (by exact gB2))) | with_reducible exact SK.out _ (hT1.trans (Turns.of_below _ (by exact gB2))))
          ((go_at_call 82; ((with_reducible refine (CC.out _ (hT1.trans (Turns.of_below _ (by exact gB2))) (hm1.below (by exact gB2))).mono ?_); rintro e w2 ⟨rfl, hm2, ht2⟩; have hT2 : Turns wb w2 mb := hT1.trans ((Turns.of_below _ (by exact gB2)).trans ht2))))
        go_wp2_with fail
        go_region_held3 (fun W => W.cell? ⟨w.heap.size, 0, none⟩ = some (.slice U p.1.length cu) /\ W.cell? ⟨w.heap.size, 1, none⟩ = some (.slice V p.2.length cv) /\ W.cell? ⟨b, 0, none⟩ = some (.slice U1 q.1.length c1) /\ W.cell? ⟨b, 1, none⟩ = some (.slice U2 q.2.length c2) /\ W.cell? ⟨b, 2, none⟩ = some (.pointer A1) /\ W.cell? ⟨b, 3, none⟩ = some (.pointer A2))
          (first | with_reducible exact SK.out _ hT4 | with_reducible exact SK.out _ hT3 | with_reducible exact SK.out _ hT2 | with_reducible exact SK.out _ hT1 | with_reducible exact SK.out _ (hT2.trans (Turns.of_below _ (by exact gB2))) | with_reducible exact SK.out _ (hT1.trans (Turns.of_below _ (by exact gB2))))
          ((first
            | (go_at_call 130; ((with_reducible refine (CP.out _ (hT2.trans (Turns.of_below _ (by exact gB2))) (hm2.below (by exact gB2))).mono ?_); rintro e w3 ⟨y3, rfl, hy3, hm3, ht3⟩; obtain ⟨Y3, rfl⟩ := hy3.form; have hT3 : Turns wb w3 mb := hT2.trans ((Turns.of_below _ (by exact gB2)).trans ht3)))
            | (go_at_call 123; ((with_reducible refine (CE.out _ _ hy3 hT3).mono ?_); rintro e w4 ⟨y4, rfl, hy4, hb4⟩; obtain ⟨Y4, rfl⟩ := hy4.form; have hT4 : Turns wb w4 mb := hT3.trans (Turns.of_below _ hb4)))))
        go_wp2
        go_ret
        exact ⟨_, rfl, hy4, (hm3.below hb4).cast (Prod.ext (by simp only; omega) (by simp only; omega)), (Turns.of_below mb HB.out).trans hT4⟩
      · have e2 : Lib.compareBytes p.1 q.1 = -1 := by
          rcases cmp_cases p.1 q.1 with h | h | h
          · exact absurd h e0
          · exact absurd h e1
          · exact h
        have CP := Lib.hid (fun (W : World) (hW : Turns wb W mb) (h : MeterAt W (.pointer AM) (c.1 + 1, c.2 + 1) mb) => ihl _ _ _ _ _ W (hl.move (hTW W hW)) el (hu.move goodByte (hTW W hW)) (hv.move goodByte (hTW W hW)) h hokm (hsW W hW) (by omega) (by simp only; omega) (by simp only; omega))
        have hsp := Bw.T.size_put_le p l
        have CE := Lib.hid (fun (W : World) (x : Value) (hx : TreeAt ok W x (l.put p)) (hW : Turns wb W mb) => even_any hx (hr.move (hTW W hW)) (k1.move goodByte (hTW W hW)) (k2.move goodByte (hTW W hW)) (hsW W hW) (Bw.fair_put_left p el er en) (by omega))
        rw [if_neg e0, if_neg e1, if_neg e0, if_neg e1]
        rw [e2] at CC
        clear ihl ihr ht hu hv hm hokm hok hwb hB h0 h1 h2 h3 k1 k2 hl hr hTW hsW hsz hc1 hc2 el er en hsb e0 e1 e2 hsp p0 p1 q0 q1 q2 q3
        go_enter Tryz.func130, Tryz.ntmps130
        go_wp2_with fail
        rw [HWB.out]
        go_wp2_with fail
        refine CV.out.mono ?_
        rintro e w1 ⟨rfl, hm1, hT1⟩
        go_wp2_with fail
        go_region_held3 (fun W => W.cell? ⟨w.heap.size, 0, none⟩ = some (.slice U p.1.length cu) /\ W.cell? ⟨w.heap.size, 1, none⟩ = some (.slice V p.2.length cv) /\ W.cell? ⟨b, 0, none⟩ = some (.slice U1 q.1.length c1) /\ W.cell? ⟨b, 1, none⟩ = some (.slice U2 q.2.length c2) /\ W.cell? ⟨b, 2, none⟩ = some (.pointer A1) /\ W.cell? ⟨b, 3, none⟩ = some (.pointer A2))
          (first | with_reducible exact SK.out _ hT4 | with_reducible exact SK.out _ hT3 | with_reducible exact SK.out _ hT2 | with_reducible exact SK.out _ hT1 | with_reducible exact SK.out _ (hT2.trans (Turns.of_below _ (by exact gB2))) | with_reducible exact SK.out _ (hT1.trans (Turns.of_below _ (by exact gB2))))
          ((go_at_call 82; ((with_reducible refine (CC.out _ (hT1.trans (Turns.of_below _ (by exact gB2))) (hm1.below (by exact gB2))).mono ?_); rintro e w2 ⟨rfl, hm2, ht2⟩; have hT2 : Turns wb w2 mb := hT1.trans ((Turns.of_below _ (by exact gB2)).trans ht2))))
        go_wp2_with fail
        go_region_held3 (fun W => W.cell? ⟨w.heap.size, 0, none⟩ = some (.slice U p.1.length cu) /\ W.cell? ⟨w.heap.size, 1, none⟩ = some (.slice V p.2.length cv) /\ W.cell? ⟨b, 0, none⟩ = some (.slice U1 q.1.length c1) /\ W.cell? ⟨b, 1, none⟩ = some (.slice U2 q.2.length c2) /\ W.cell? ⟨b, 2, none⟩ = some (.pointer A1) /\ W.cell? ⟨b, 3, none⟩ = some (.pointer A2))
          (first | with_reducible exact SK.out _ hT4 | with_reducible exact SK.out _ hT3 | with_reducible exact SK.out _ hT2 | with_reducible exact SK.out _ hT1 | with_reducible exact SK.out _ (hT2.trans (Turns.of_below _ (by exact gB2))) | with_reducible exact SK.out _ (hT1.trans (Turns.of_below _ (by exact gB2))))
          ((first
            | (go_at_call 130; ((with_reducible refine (CP.out _ (hT2.trans (Turns.of_below _ (by exact gB2))) (hm2.below (by exact gB2))).mono ?_); rintro e w3 ⟨y3, rfl, hy3, hm3, ht3⟩; obtain ⟨Y3, rfl⟩ := hy3.form; have hT3 : Turns wb w3 mb := hT2.trans ((Turns.of_below _ (by exact gB2)).trans ht3)))
            | (go_at_call 123; ((with_reducible refine (CE.out _ _ hy3 hT3).mono ?_); rintro e w4 ⟨y4, rfl, hy4, hb4⟩; obtain ⟨Y4, rfl⟩ := hy4.form; have hT4 : Turns wb w4 mb := hT3.trans (Turns.of_below _ hb4)))))
        go_wp2
        go_ret
        exact ⟨_, rfl, hy4, (hm3.below hb4).cast (Prod.ext (by simp only; omega) (by simp only; omega)), (Turns.of_below mb HB.out).trans hT4⟩
set_option maxRecDepth 100000 in
set_option maxHeartbeats 400000 in
theorem tPut_any {ok okb : Nat -> Prop} {mb : Option Nat} {p : Bw.PV} {t : Bw.T} {v u1' u2' mv : Value} {c : Nat × Nat} {w : World} (ht : TreeAt ok w v t) (hev : t.even) (hu : BytesAt okb w u1' p.1) (hv : BytesAt okb w u2' p.2) (hp1 : p.1.length <= 1048576) (hp2 : p.2.length <= 1048576) (hm : MeterAt w mv c mb) (hokm : ∀ k, ok k -> some k ≠ mb) (hok : ∀ k, w.heap.size <= k -> ok k) (hsz : t.size <= 1048570) (hc1 : c.1 + t.size < 4611686018427387904) (hc2 : c.2 + t.size < 4611686018427387904) :
    Calls Tryz.prog 102 #[v, .agg #[u1', u2'], mv] w (PutEnds ok w mv mb (t.put p) (c.1 + t.steps p.1, c.2 + t.steps p.1)) := by
  obtain ⟨AT, rfl⟩ := ht.form
  obtain ⟨AM, rfl⟩ := hm.form
  obtain ⟨U, cu, rfl⟩ := hu.form
  obtain ⟨V, cv, rfl⟩ := hv.form
  obtain ⟨wb, hwb⟩ : ∃ wb, w.alloc (.cells #[.slice U p.1.length cu, .slice V p.2.length cv] 62) = wb := ⟨_, rfl⟩
  have hB : Below w.heap.size w wb := by rw [<- hwb]; exact gB1
  have p0 : wb.cell? ⟨w.heap.size, 0, none⟩ = some (.slice U p.1.length cu) := by rw [<- hwb]; exact cell_new w 0 _ _ 0 _ rfl
  have p1 : wb.cell? ⟨w.heap.size, 1, none⟩ = some (.slice V p.2.length cv) := by rw [<- hwb]; exact cell_new w 0 _ _ 1 _ rfl
  have CO := Lib.hid (own_any _ _ p wb (hu.move goodByte (Moves.below hB)) (hv.move goodByte (Moves.below hB)) hp1 hp2)
  have CP := Lib.hid (fun (W : World) (x y : Value) (hW : Below w.heap.size w W) (hx : BytesAt ok W x p.1) (hy : BytesAt ok W y p.2) => tput_any (mb := mb) p t _ x y _ c W (ht.move (Moves.below hW)) hev hx hy (hm.below hW) hokm (fun k hk => hok k (Nat.le_trans hW.size hk)) hsz hc1 hc2)
  have HOK := Lib.hid hok
  have HB := Lib.hid hB
  have HWB := Lib.hid hwb
  clear ht hu hv hm hok hwb hB hev hp1 hp2 hsz hc1 hc2
  go_enter Tryz.func102, Tryz.ntmps102
  go_wp2_with fail
  rw [HWB.out]
  go_wp2_with fail
  refine CO.out.mono ?_
  rintro e w1 ⟨y1, rfl, ⟨x1, x2, rfl, hx1, hx2⟩, hb1⟩
  obtain ⟨X1, cx1, rfl⟩ := hx1.form
  obtain ⟨X2, cx2, rfl⟩ := hx2.form
  have hB1 := HB.out.trans (hb1.mono HB.out.size)
  have CP1 := Lib.hid (CP.out w1 _ _ hB1 (hx1.move goodByte (Moves.weaken fun k hk _ => HOK.out k (Nat.le_trans HB.out.size hk))) (hx2.move goodByte (Moves.weaken fun k hk _ => HOK.out k (Nat.le_trans HB.out.size hk))))
  have HB1 := Lib.hid hB1
  clear hx1 hx2 hb1 hB1
  go_wp2_with fail
  refine CP1.out.mono ?_
  rintro e w2 ⟨y2, rfl, hy2, hm2, ht2⟩
  obtain ⟨Y2, rfl⟩ := hy2.form
  have HY := Lib.hid hy2; have HM := Lib.hid hm2; have HT := Lib.hid ht2
  clear hy2 hm2 ht2
  go_wp2
  go_ret
  exact ⟨_, rfl, HY.out, HM.out, (Turns.of_below mb HB1.out).trans HT.out⟩
end Go.Proofs.YtadaoceidkagfaaGreatDoor
