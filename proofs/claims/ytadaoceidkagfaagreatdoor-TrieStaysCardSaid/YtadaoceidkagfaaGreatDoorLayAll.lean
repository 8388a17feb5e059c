
import Derived.Test.YtadaoceidkagfaaGreatDoorRef19
import Derived.Test.YtadaoceidkagfaaGreatDoorWay
import Derived.Test.YtadaoceidkagfaaGreatDoorRefA
import Derived.Deep.AppendLies
namespace Go.Proofs.YtadaoceidkagfaaGreatDoor
open Go.RowKit Go.Bw
def LayRel1 (l : List Bw.En) (g0 : Nat) (W0 : World) (s m i : Value) (wr : World) : Prop :=
  ∃ k : Nat, k <= l.length /\ i = .int .i64 k /\ s = .bool ((l.take k).all fun x => x.1 == g0) /\ SPairsAt (fun k => W0.heap.size <= k) wr m (Bw.come ((l.take k).map (·.2))) /\ Below W0.heap.size W0 wr
def LayTold (w : World) (x : Bw.X) (r : Value) (w' : World) : Prop := ∃ cs, r = .agg cs.toArray /\ xK (fun k => w.heap.size <= k) w' x cs
theorem xK_flat {ok : Nat -> Prop} {w : World} {k h : Nat} {ps : List Bw.PV} {vp : Value} (hp : SPairsAt ok w vp ps) : xK ok w (.mk k h ps [] []) [.int .i64 (k : Nat), .int .u64 (h : Nat), vp, .slice none 0 0, .slice none 0 0] :=
  xK_iff.2 ⟨_, _, _, rfl, hp, RowAt.nil, RowAt.nil⟩
theorem moves_set5' {n : Nat} {W : World} (a b c d e : Value) : Moves (fun k => n < k) (fun k => n <= k) W (((((W.setCell ⟨n, 0, none⟩ a).setCell ⟨n, 1, none⟩ b).setCell ⟨n, 2, none⟩ c).setCell ⟨n, 3, none⟩ d).setCell ⟨n, 4, none⟩ e) := by
  intro k hk hl
  refine ⟨Nat.le_of_lt hk, ?_⟩
  have hne : k ≠ n := by omega
  rw [Below.heap_setCell _ _ _ _ hne, Below.heap_setCell _ _ _ _ hne, Below.heap_setCell _ _ _ _ hne, Below.heap_setCell _ _ _ _ hne, Below.heap_setCell _ _ _ _ hne]
theorem below_set5' {n : Nat} {w W : World} (h : Below n w W) (a b c d e : Value) : Below n w (((((W.setCell ⟨n, 0, none⟩ a).setCell ⟨n, 1, none⟩ b).setCell ⟨n, 2, none⟩ c).setCell ⟨n, 3, none⟩ d).setCell ⟨n, 4, none⟩ e) :=
  ((((h.setCell (Nat.le_refl _) a).setCell (Nat.le_refl _) b).setCell (Nat.le_refl _) c).setCell (Nat.le_refl _) d).setCell (Nat.le_refl _) e
theorem five_cells' {W : World} {b : Nat} {t : TypeId} {a0 a1 a2 a3 a4 : Value} (h : W.heap[b]? = some (.cells #[a0, a1, a2, a3, a4] t (0, 0))) :
    (W.cell? ⟨b, 0, none⟩ = some a0 /\ W.cell? ⟨b, 1, none⟩ = some a1 /\ W.cell? ⟨b, 2, none⟩ = some a2 /\ W.cell? ⟨b, 3, none⟩ = some a3 /\ W.cell? ⟨b, 4, none⟩ = some a4) /\
    (W.frozen? ⟨b, 0, none⟩ = false /\ W.frozen? ⟨b, 1, none⟩ = false /\ W.frozen? ⟨b, 2, none⟩ = false /\ W.frozen? ⟨b, 3, none⟩ = false /\ W.frozen? ⟨b, 4, none⟩ = false) := by
  simp [World.cell?, World.frozen?, h]
theorem set5_block {W : World} {n : Nat} {t : TypeId} {b0 b1 b2 b3 b4 : Value} (h : W.heap[n]? = some (.cells #[b0, b1, b2, b3, b4] t (0, 0))) (u0 u1 u2 u3 u4 : Value) :
    (((((W.setCell ⟨n, 0, none⟩ u0).setCell ⟨n, 1, none⟩ u1).setCell ⟨n, 2, none⟩ u2).setCell ⟨n, 3, none⟩ u3).setCell ⟨n, 4, none⟩ u4).heap[n]? = some (.cells #[u0, u1, u2, u3, u4] t (0, 0)) := by
  have := Joins.block_setCell (Joins.block_setCell (Joins.block_setCell (Joins.block_setCell (Joins.block_setCell h (i := 0) u0) (i := 1) u1) (i := 2) u2) (i := 3) u3) (i := 4) u4
  simpa using this
set_option maxRecDepth 100000 in
set_option maxHeartbeats 4000000 in
theorem lay_flat {ok : Nat -> Prop} {l : List Bw.En} {v : Value} {w : World} {f level : Nat} (hne : l ≠ []) (hl : l.length <= 1048576) (hby : ∀ e ∈ l, e.2.1.length <= 1048576 /\ e.2.2.length <= 1048576) (hhb : ∀ e ∈ l, e.1 < 18446744073709551616) (hr : SensAt ok w v l) (hs : ∀ x ∈ l, x.1 = (l[0]'(List.length_pos_iff.2 hne)).1) :
    Calls Tryz.prog 38 #[v, .int .i64 (level : Nat)] w (Gives w (LayTold w (Bw.layX f level l))) := by
  obtain ⟨A, cap, rfl⟩ := hr.form
  have hlen0 : ((l.length : Int) == 0) = false := by rw [beq_eq_false_iff_ne]; have := List.length_pos_iff.2 hne; omega
  have hpos : 0 < l.length := List.length_pos_iff.2 hne
  obtain ⟨b, o, rfl, hob, e0, e1, e2⟩ := sen_get hr (List.getElem?_eq_getElem hpos)
  have hbl := World.block_lt_of_cell? w _ e0
  dsimp only at hbl
  simp only [Nat.zero_mul, Nat.add_zero] at e0
  obtain ⟨W0, hW0⟩ : ∃ W0, w.alloc (.cells #[.int .i64 0, .int .u64 0, .slice none 0 0, .slice none 0 0, .slice none 0 0] 51) = W0 := ⟨_, rfl⟩
  have hB0 : Below w.heap.size w W0 := by rw [<- hW0]; exact gB3
  have hs0 : W0.heap.size = w.heap.size + 1 := by rw [<- hW0]; simp
  have hrb : W0.heap[w.heap.size]? = some (.cells #[.int .i64 0, .int .u64 0, .slice none 0 0, .slice none 0 0, .slice none 0 0] 51 (0, 0)) := by rw [<- hW0]; exact heap_alloc_new _ _
  have HW0 := Lib.hid hW0
  have HB0 := Lib.hid hB0
  have HRB := Lib.hid hrb
  have HR := Lib.hid hr
  have HL := Lib.hid hl
  have HBY := Lib.hid hby
  have HPOS := Lib.hid hpos
  have HHB := Lib.hid hhb
  have H0 : Hid (LayRel1 l (l[0]'hpos).1 W0 (.bool true) (.slice none 0 0) (.int .i64 0) W0) := Lib.hid ⟨0, Nat.zero_le _, rfl, by simp, by simp only [List.take_zero, List.map_nil]; exact RowAt.nil, Below.refl _ _⟩
  have hxl := Bw.layX_same (f := f) (level := level) (List.getElem_mem hpos) hs
  have hfin : l.all (fun x => x.1 == (l[0]'hpos).1) = true := by rw [List.all_eq_true]; intro x hx; rw [beq_iff_eq]; exact hs x hx
  have HXL := Lib.hid hxl
  have HFIN := Lib.hid hfin
  clear hr hl hby hhb hW0 hB0 hrb hs hxl hfin hne hob e1 e2
  generalize (l[0]'hpos).1 = g0 at *
  go_enter Tryz.func38, Tryz.ntmps38
  go_wp2_with fail
  rw [HW0.out]
  go_loopw [5, 6, 21] (LayRel1 l g0 W0) (fun _ _ i _ => l.length - (intOf i).toNat)
  case atStart => exact H0.out
  case round =>
    obtain ⟨k, hk, rfl, rfl, hm, hB⟩ := hrel
    by_cases hlt : k < l.length
    · obtain ⟨b', o', hA', hob', c0, c1, c2⟩ := sen_get HR.out (List.getElem?_eq_getElem hlt)
      cases hA'
      have hbl' := World.block_lt_of_cell? w _ c0
      dsimp only at hbl'
      have hBw := HB0.out.trans (hB.mono HB0.out.size)
      have d0 := (hBw.cell (p := ⟨b, o + k * 3, none⟩) hbl').trans c0
      have d1 := (hBw.cell (p := ⟨b, o + k * 3 + 1, none⟩) hbl').trans c1
      have d2 := (hBw.cell (p := ⟨b, o + k * 3 + 2, none⟩) hbl').trans c2
      have dd0 := (hBw.cell (p := ⟨b, o, none⟩) hbl').trans e0
      have hbl2 : b < wr.heap.size := Nat.lt_of_lt_of_le hbl' hBw.size
      have h0 : (0 : Int) <= (k : Int) := by omega
      have h1 : (k : Int) < (l.length : Int) := by omega
      have h2 : (0 : Int) < (l.length : Int) := by omega
      have hall : (l.take (k + 1)).all (fun x => x.1 == g0) = ((l.take k).all (fun x => x.1 == g0) && (l[k].1 == g0)) := by rw [take_succ_snoc hlt, List.all_append]; simp
      have hput : Bw.come ((l.take (k + 1)).map (·.2)) = Bw.put (Bw.come ((l.take k).map (·.2))) l[k].2 := by rw [take_succ_snoc hlt, List.map_append]; simp [Bw.come]
      have hmem := HBY.out l[k] (List.getElem_mem hlt)
      have hbm : ∀ q ∈ Bw.come ((l.take k).map (·.2)), q.1.length <= 1048576 := fun q hq => by
        have := Bw.mem_come hq
        rw [List.mem_map] at this
        obtain ⟨e, he, rfl⟩ := this
        exact (HBY.out e (List.mem_of_mem_take he)).1
      have hlm : (Bw.come ((l.take k).map (·.2))).length <= 1048576 := by
        have := Bw.length_come ((l.take k).map (·.2))
        rw [List.length_map, List.length_take] at this
        have := HL.out
        omega
      have hri := Bw.rises_come ((l.take k).map (·.2))
      have h64 := HHB.out l[k] (List.getElem_mem hlt)
      obtain ⟨ek, hek⟩ : ∃ ek, ek = l[k] := ⟨_, rfl⟩
      rw [<- hek] at d0 d1 d2 hall hput hmem h64
      obtain ⟨g, qx, qy⟩ := ek
      simp only [str] at d1 d2
      dsimp only at d0 hall hput hmem h64
      generalize Bw.come ((l.take k).map (·.2)) = mm at *
      have CP := Lib.hid (fun (W : World) (hW : Below W0.heap.size W0 W) (x : Value) (hx : SPairsAt (fun k => W0.heap.size <= k) W x mm) => rput_any (px := qx) (py := qy) hlm hmem.1 hbm hx hri)
      have HALL := Lib.hid hall
      have HPUT := Lib.hid hput
      have HBW := Lib.hid hB
      have HM := Lib.hid (fun (W : World) (hW : Below wr.heap.size wr W) => hm.move goodSp (Moves.below hW))
      obtain ⟨AM, cm, rfl⟩ := hm.form
      have HEK := Lib.hid hek
      clear hall hput hmem hbm hlm hri hm hB c0 c1 c2 hBw h64 hek
      generalize (l.take k).all (fun x => x.1 == g0) = bb at *
      cases hq : (g == g0) with
      | true =>
        have hqi : ((g : Int) == (g0 : Int)) = true := by rw [beq_iff_eq] at hq ⊢; omega
        cases bb with
        | true =>
          go_wp2_with fail
          go_quiet (fail)
          rename_i nq
          go_wp2_with fail
          have hq1 : Below wr.heap.size wr ((wr.alloc (.cells #[.int .u64 (g : Nat), .string ⟨qx.toArray⟩, .string ⟨qy.toArray⟩] 94)).drewN nq) := by exact gB3
          refine (CP.out _ (HBW.out.trans (hq1.mono HBW.out.size)) _ (HM.out _ hq1)).mono ?_
          rintro e w2 ⟨q2, rfl, hq2, hb2⟩
          obtain ⟨A2, cc2, rfl⟩ := hq2.form
          have HQ2 := Lib.hid (hq2.weaken goodSp (ok' := fun k => W0.heap.size <= k) (fun k hk => Nat.le_trans HBW.out.size (Nat.le_trans hq1.size hk)))
          have HB2 := Lib.hid ((HBW.out.trans (hq1.mono HBW.out.size)).trans (hb2.mono (Nat.le_trans HBW.out.size hq1.size)))
          clear hq2 hb2 hq1
          go_wp2
          exact ⟨⟨k + 1, hlt, int_succ hlt HL.out, by rw [HALL.out, hq]; rfl, by rw [HPUT.out]; exact HQ2.out, HB2.out⟩, less_succ hlt HL.out⟩
        | false =>
          go_wp2_with fail
          go_quiet (fail)
          rename_i nq
          go_wp2_with fail
          have hq1 : Below wr.heap.size wr ((wr.alloc (.cells #[.int .u64 (g : Nat), .string ⟨qx.toArray⟩, .string ⟨qy.toArray⟩] 94)).drewN nq) := by exact gB3
          refine (CP.out _ (HBW.out.trans (hq1.mono HBW.out.size)) _ (HM.out _ hq1)).mono ?_
          rintro e w2 ⟨q2, rfl, hq2, hb2⟩
          obtain ⟨A2, cc2, rfl⟩ := hq2.form
          have HQ2 := Lib.hid (hq2.weaken goodSp (ok' := fun k => W0.heap.size <= k) (fun k hk => Nat.le_trans HBW.out.size (Nat.le_trans hq1.size hk)))
          have HB2 := Lib.hid ((HBW.out.trans (hq1.mono HBW.out.size)).trans (hb2.mono (Nat.le_trans HBW.out.size hq1.size)))
          clear hq2 hb2 hq1
          go_wp2
          exact ⟨⟨k + 1, hlt, int_succ hlt HL.out, by rw [HALL.out, hq]; rfl, by rw [HPUT.out]; exact HQ2.out, HB2.out⟩, less_succ hlt HL.out⟩
      | false =>
        have hqi : ((g : Int) == (g0 : Int)) = false := by rw [beq_eq_false_iff_ne] at hq ⊢; omega
        cases bb with
        | true =>
          go_wp2_with fail
          go_quiet (fail)
          rename_i nq
          go_wp2_with fail
          have hq1 : Below wr.heap.size wr ((wr.alloc (.cells #[.int .u64 (g : Nat), .string ⟨qx.toArray⟩, .string ⟨qy.toArray⟩] 94)).drewN nq) := by exact gB3
          refine (CP.out _ (HBW.out.trans (hq1.mono HBW.out.size)) _ (HM.out _ hq1)).mono ?_
          rintro e w2 ⟨q2, rfl, hq2, hb2⟩
          obtain ⟨A2, cc2, rfl⟩ := hq2.form
          have HQ2 := Lib.hid (hq2.weaken goodSp (ok' := fun k => W0.heap.size <= k) (fun k hk => Nat.le_trans HBW.out.size (Nat.le_trans hq1.size hk)))
          have HB2 := Lib.hid ((HBW.out.trans (hq1.mono HBW.out.size)).trans (hb2.mono (Nat.le_trans HBW.out.size hq1.size)))
          clear hq2 hb2 hq1
          go_wp2
          exact ⟨⟨k + 1, hlt, int_succ hlt HL.out, by rw [HALL.out, hq]; rfl, by rw [HPUT.out]; exact HQ2.out, HB2.out⟩, less_succ hlt HL.out⟩
        | false =>
          go_wp2_with fail
          go_quiet (fail)
          rename_i nq
          go_wp2_with fail
          have hq1 : Below wr.heap.size wr ((wr.alloc (.cells #[.int .u64 (g : Nat), .string ⟨qx.toArray⟩, .string ⟨qy.toArray⟩] 94)).drewN nq) := by exact gB3
          refine (CP.out _ (HBW.out.trans (hq1.mono HBW.out.size)) _ (HM.out _ hq1)).mono ?_
          rintro e w2 ⟨q2, rfl, hq2, hb2⟩
          obtain ⟨A2, cc2, rfl⟩ := hq2.form
          have HQ2 := Lib.hid (hq2.weaken goodSp (ok' := fun k => W0.heap.size <= k) (fun k hk => Nat.le_trans HBW.out.size (Nat.le_trans hq1.size hk)))
          have HB2 := Lib.hid ((HBW.out.trans (hq1.mono HBW.out.size)).trans (hb2.mono (Nat.le_trans HBW.out.size hq1.size)))
          clear hq2 hb2 hq1
          go_wp2
          exact ⟨⟨k + 1, hlt, int_succ hlt HL.out, by rw [HALL.out, hq]; rfl, by rw [HPUT.out]; exact HQ2.out, HB2.out⟩, less_succ hlt HL.out⟩
    · obtain rfl : k = l.length := by omega
      rw [List.take_length] at hm ⊢
      rw [HFIN.out]
      obtain ⟨AM, cm, rfl⟩ := hm.form
      have hBw := HB0.out.trans (hB.mono HB0.out.size)
      have dd0 := (hBw.cell (p := ⟨b, o, none⟩) hbl).trans e0
      have hrb := (hB.block w.heap.size (by omega)).trans HRB.out
      obtain ⟨⟨z0, z1, z2, z3, z4⟩, y0, y1, y2, y3, y4⟩ := five_cells' hrb
      have h2 : (0 : Int) < (l.length : Int) := by omega
      have HM := Lib.hid (hm.weaken goodSp (ok' := fun k => w.heap.size < k) (fun k hk => by omega))
      have HBW := Lib.hid hBw
      have HRBW := Lib.hid hrb
      clear hrb hm hB hBw
      by_cases h1 : l.length = 1
      · have h1i : ((l.length : Int) == 1) = true := by rw [beq_iff_eq]; omega
        have HX2 := Lib.hid (show Bw.layX f level l = .mk 1 g0 (Bw.come (l.map (·.2))) [] [] by rw [HXL.out, if_pos h1])
        clear h1
        go_wp2
        have hb5 := set5_block HRBW.out (.int .i64 1) (.int .u64 (g0 : Nat)) (.slice AM (Bw.come (l.map (·.2))).length cm) (.slice none 0 0) (.slice none 0 0)
        have hmv := moves_set5' (n := w.heap.size) (W := wr) (.int .i64 1) (.int .u64 (g0 : Nat)) (.slice AM (Bw.come (l.map (·.2))).length cm) (.slice none 0 0) (.slice none 0 0)
        have hB5 := below_set5' HBW.out (.int .i64 1) (.int .u64 (g0 : Nat)) (.slice AM (Bw.come (l.map (·.2))).length cm) (.slice none 0 0) (.slice none 0 0)
        generalize (((((wr.setCell ⟨w.heap.size, 0, none⟩ (.int .i64 1)).setCell ⟨w.heap.size, 1, none⟩ (.int .u64 (g0 : Nat))).setCell ⟨w.heap.size, 2, none⟩ (.slice AM (Bw.come (l.map (·.2))).length cm)).setCell ⟨w.heap.size, 3, none⟩ (.slice none 0 0)).setCell ⟨w.heap.size, 4, none⟩ (.slice none 0 0)) = WF at hb5 hmv hB5 ⊢
        obtain ⟨⟨k0, k1, k2, k3, k4⟩, _⟩ := five_cells' hb5
        refine bodyPost_ret (v := .agg #[.int .i64 1, .int .u64 (g0 : Nat), .slice AM (Bw.come (l.map (·.2))).length cm, .slice none 0 0, .slice none 0 0]) (by simp [results, Tryz.results38, go_sem, k0, k1, k2, k3, k4]) rfl ⟨_, rfl, ⟨[.int .i64 1, .int .u64 (g0 : Nat), .slice AM (Bw.come (l.map (·.2))).length cm, .slice none 0 0, .slice none 0 0], rfl, ?_⟩, hB5⟩
        rw [HX2.out]
        exact xK_flat (HM.out.move goodSp hmv)
      · have h1i : ((l.length : Int) == 1) = false := by rw [beq_eq_false_iff_ne]; omega
        have HX2 := Lib.hid (show Bw.layX f level l = .mk 2 g0 (Bw.come (l.map (·.2))) [] [] by rw [HXL.out, if_neg h1])
        clear h1
        go_wp2
        have hb5 := set5_block HRBW.out (.int .i64 2) (.int .u64 (g0 : Nat)) (.slice AM (Bw.come (l.map (·.2))).length cm) (.slice none 0 0) (.slice none 0 0)
        have hmv := moves_set5' (n := w.heap.size) (W := wr) (.int .i64 2) (.int .u64 (g0 : Nat)) (.slice AM (Bw.come (l.map (·.2))).length cm) (.slice none 0 0) (.slice none 0 0)
        have hB5 := below_set5' HBW.out (.int .i64 2) (.int .u64 (g0 : Nat)) (.slice AM (Bw.come (l.map (·.2))).length cm) (.slice none 0 0) (.slice none 0 0)
        generalize (((((wr.setCell ⟨w.heap.size, 0, none⟩ (.int .i64 2)).setCell ⟨w.heap.size, 1, none⟩ (.int .u64 (g0 : Nat))).setCell ⟨w.heap.size, 2, none⟩ (.slice AM (Bw.come (l.map (·.2))).length cm)).setCell ⟨w.heap.size, 3, none⟩ (.slice none 0 0)).setCell ⟨w.heap.size, 4, none⟩ (.slice none 0 0)) = WF at hb5 hmv hB5 ⊢
        obtain ⟨⟨k0, k1, k2, k3, k4⟩, _⟩ := five_cells' hb5
        refine bodyPost_ret (v := .agg #[.int .i64 2, .int .u64 (g0 : Nat), .slice AM (Bw.come (l.map (·.2))).length cm, .slice none 0 0, .slice none 0 0]) (by simp [results, Tryz.results38, go_sem, k0, k1, k2, k3, k4]) rfl ⟨_, rfl, ⟨[.int .i64 2, .int .u64 (g0 : Nat), .slice AM (Bw.come (l.map (·.2))).length cm, .slice none 0 0, .slice none 0 0], rfl, ?_⟩, hB5⟩
        rw [HX2.out]
        exact xK_flat (HM.out.move goodSp hmv)
open Go.RowKit Go.Bw
def csOf (level : Nat) (l : List Bw.En) (c : Nat) : List Nat := (List.range c).filter fun c => l.any fun x => Bw.chunkAt x.1 level == c
theorem csOf_yes {level c : Nat} {l : List Bw.En} (h : Bw.partOf level c l ≠ []) : csOf level l (c + 1) = csOf level l c ++ [c] := by
  unfold csOf
  rw [List.range_succ, List.filter_append]
  congr 1
  obtain ⟨e, he⟩ := List.exists_mem_of_ne_nil _ h
  obtain ⟨h1, h2⟩ := Bw.mem_partOf.1 he
  have hb : (l.any fun x => Bw.chunkAt x.1 level == c) = true := List.any_eq_true.2 ⟨e, h1, beq_iff_eq.2 h2⟩
  rw [List.filter_cons, if_pos hb]
  rfl
theorem csOf_no {level c : Nat} {l : List Bw.En} (h : Bw.partOf level c l = []) : csOf level l (c + 1) = csOf level l c := by
  unfold csOf
  rw [List.range_succ, List.filter_append]
  have : ([c].filter fun c => l.any fun x => Bw.chunkAt x.1 level == c) = [] := by
    rw [List.filter_cons, if_neg]
    · rfl
    · rw [Bool.not_eq_true, List.any_eq_false]
      intro e he hx
      have hm := Bw.mem_partOf.2 ⟨he, beq_iff_eq.1 hx⟩
      rw [h] at hm
      simp at hm
  rw [this, List.append_nil]
theorem length_csOf (level : Nat) (l : List Bw.En) (c : Nat) : (csOf level l c).length <= c := by
  have := List.length_filter_le (fun c => l.any fun x => Bw.chunkAt x.1 level == c) (List.range c)
  rw [List.length_range] at this
  exact this
def Out5 (W : World) (ob : Nat) (sv kv : Value) : Prop := W.heap[ob]? = some (.cells #[.int .i64 3, .int .u64 0, .slice none 0 0, sv, kv] 51 (0, 0))
theorem Out5.below {n ob : Nat} {W W' : World} {sv kv : Value} (h : Out5 W ob sv kv) (hB : Below n W W') (hn : ob < n) : Out5 W' ob sv kv := (hB.block ob hn).trans h
theorem Out5.lt {ob : Nat} {W : World} {sv kv : Value} (h : Out5 W ob sv kv) : ob < W.heap.size := (Array.getElem?_eq_some_iff.1 h).1
abbrev SetAt (ob : Nat) (W : World) (kv sv : Value) (cs : List Nat) : Prop := OwnAt 3 1 natK (fun k => ob < k /\ some k ≠ kv.ownBlock) W (ob + 1) sv cs
abbrev KdsAt (ob : Nat) (W : World) (sv kv : Value) (xs : List Bw.X) : Prop := OwnAt 51 5 xK (fun k => ob < k /\ some k ≠ sv.ownBlock) W (ob + 1) kv xs
def LayRel2 (f level : Nat) (l : List Bw.En) (ob : Nat) (W2 : World) (i : Value) (wr : World) : Prop :=
  ∃ (c : Nat) (sv kv : Value), c <= 32 /\ i = .int .i64 c /\ Out5 wr ob sv kv /\ SetAt ob wr kv sv (csOf level l c) /\ KdsAt ob wr sv kv ((csOf level l c).map fun c => Bw.layX f (level + 1) (Bw.partOf level c l)) /\ Below ob W2 wr
def LayRel3 (level c : Nat) (l : List Bw.En) (W3 : World) (p i : Value) (wr : World) : Prop :=
  ∃ k : Nat, k <= l.length /\ i = .int .i64 k /\ OwnAt 94 3 senK (fun k => W3.heap.size <= k) wr W3.heap.size p (Bw.partOf level c (l.take k)) /\ Below W3.heap.size W3 wr
theorem row_aside' {α : Type} {e sz : Nat} {d : Knd α} (hd : _root_.Go.Bw.Good sz d) {n b0 : Nat} {vA vA' vB : Value} {ys : List α} {w w' : World}
    (hB : OwnAt e sz d (fun k => n < k /\ some k ≠ vA.ownBlock) w b0 vB ys) (hg : w.grownBy w' vA.ownBlock) (hat : vA'.ownBlock = vA.ownBlock \/ ∃ b, vA'.ownBlock = some b /\ w.heap.size <= b) :
    OwnAt e sz d (fun k => n < k /\ some k ≠ vA'.ownBlock) w' b0 vB ys := by
  refine hB.move hd fun k hk hl => ⟨⟨hk.1, fun e => ?_⟩, hg.block k hl hk.2⟩
  rcases hat with h | ⟨b, h, hb⟩
  · exact hk.2 (e.trans h)
  · have := e.trans h
    injection this with this
    omega
theorem lay_stepA {f level c ob : Nat} {l : List Bw.En} {W2 wi w4 : World} {sv kv v4 : Value} {xs : List Bw.X} {cs : List Nat} (hO : Out5 wi ob sv kv) (hS : SetAt ob wi kv sv cs) (hK : KdsAt ob wi sv kv xs) (hB : Below ob W2 wi)
    (hown : SetAt ob w4 kv v4 (cs ++ [c])) (hg : wi.grownBy w4 sv.ownBlock) (hat : v4.ownBlock = sv.ownBlock \/ ∃ b, v4.ownBlock = some b /\ wi.heap.size <= b) :
    Out5 w4 ob sv kv /\ Out5 (w4.setCell ⟨ob, 3, none⟩ v4) ob v4 kv /\ SetAt ob (w4.setCell ⟨ob, 3, none⟩ v4) kv v4 (cs ++ [c]) /\ KdsAt ob (w4.setCell ⟨ob, 3, none⟩ v4) v4 kv xs /\ Below ob W2 (w4.setCell ⟨ob, 3, none⟩ v4) /\ wi.heap.size <= (w4.setCell ⟨ob, 3, none⟩ v4).heap.size := by
  have _ := (f, level, l)
  have hne : some ob ≠ sv.ownBlock := fun e => by have := (hS.lt ob e.symm).1; omega
  have hO4 : Out5 w4 ob sv kv := (hg.block ob hO.lt hne).trans hO
  have hset : ∀ k, (ob < k /\ some k ≠ kv.ownBlock) -> k ≠ (⟨ob, 3, none⟩ : Addr).block := fun k hk => by simp only; omega
  have hset2 : ∀ k, (ob < k /\ some k ≠ v4.ownBlock) -> k ≠ (⟨ob, 3, none⟩ : Addr).block := fun k hk => by simp only; omega
  refine ⟨hO4, ?_, hown.move goodNat (Moves.set _ hset), (row_aside' goodX hK hg hat).move goodX (Moves.set _ hset2), ?_, ?_⟩
  · have := Joins.block_setCell hO4 (i := 3) v4
    simpa [Out5] using this
  · exact (hB.grown hg (Nat.le_of_lt hO.lt) (fun k hk => by have := (hS.lt k hk).1; omega)).setCell (p := ⟨ob, 3, none⟩) (Nat.le_refl _) _
  · simpa using hg.size
theorem lay_stepB {ob : Nat} {W2 W5 w6 w7 : World} {sv kv v7 : Value} {xs : List Bw.X} {y : Bw.X} {cs : List Nat} {tmp : Obj} (hO : Out5 W5 ob sv kv) (hS : SetAt ob W5 kv sv cs) (hK : KdsAt ob W5 sv kv xs) (hB : Below ob W2 W5) (hb6 : Below W5.heap.size W5 w6)
    (hown : KdsAt ob w7 sv v7 (xs ++ [y])) (hg : (w6.alloc tmp).grownBy w7 kv.ownBlock) (hat : v7.ownBlock = kv.ownBlock \/ v7.ownBlock = some (w6.alloc tmp).heap.size) :
    Out5 w7 ob sv kv /\ Out5 (w7.setCell ⟨ob, 4, none⟩ v7) ob sv v7 /\ SetAt ob (w7.setCell ⟨ob, 4, none⟩ v7) v7 sv cs /\ KdsAt ob (w7.setCell ⟨ob, 4, none⟩ v7) sv v7 (xs ++ [y]) /\ Below ob W2 (w7.setCell ⟨ob, 4, none⟩ v7) := by
  have hB6 : Below W5.heap.size W5 (w6.alloc tmp) := hb6.alloc hb6.size _
  have hne : some ob ≠ kv.ownBlock := fun e => by have := (hK.lt ob e.symm).1; omega
  have hO6 : Out5 (w6.alloc tmp) ob sv kv := hO.below hB6 hO.lt
  have hO7 : Out5 w7 ob sv kv := (hg.block ob hO6.lt hne).trans hO6
  have hset : ∀ k, (ob < k /\ some k ≠ v7.ownBlock) -> k ≠ (⟨ob, 4, none⟩ : Addr).block := fun k hk => by simp only; omega
  have hset2 : ∀ k, (ob < k /\ some k ≠ sv.ownBlock) -> k ≠ (⟨ob, 4, none⟩ : Addr).block := fun k hk => by simp only; omega
  refine ⟨hO7, ?_, (row_aside' goodNat (hS.move goodNat (Moves.below hB6)) hg (hat.elim .inl fun h => .inr ⟨_, h, Nat.le_refl _⟩)).move goodNat (Moves.set _ hset), hown.move goodX (Moves.set _ hset2), ?_⟩
  · have := Joins.block_setCell hO7 (i := 4) v7
    simpa [Out5] using this
  · exact ((hB.trans (hB6.mono (Nat.le_of_lt hO.lt))).grown hg (Nat.le_of_lt hO6.lt) (fun k hk => by have := (hK.lt k hk).1; omega)).setCell (p := ⟨ob, 4, none⟩) (Nat.le_refl _) _
theorem infoX' : (Tryz.prog.info? 51).map (fun i => (i.zero, i.size, i.bytes)) = some (some (.agg #[.int .i64 0, .int .u64 0, .slice none 0 0, .slice none 0 0, .slice none 0 0]), 5, 88) := by kernel_rfl
section
variable {a : Act} {Q : Exit -> Act -> World -> Prop} {o : Oper} {ops : Array Oper} {w : World} {ok : Nat -> Prop}
theorem st_xapp' {K : Act -> World -> Prop} {E : Prop} {xs : List Bw.X} (s x : Nat) (v : Value) (base : Nat) (hgd : o.guard = none)
    (ho : o.op = .call { callee := .builtin .append, args := #[.tmp s, .tmp x], argTypes := #[49, 49] })
    (hs : a.eval (.tmp s) = v) (hown : OwnAt 51 5 xK ok w base v xs)
    (y : Bw.X) (a0 a1 a2 a3 a4 : Value) (g : Nat) (hx : a.eval (.tmp x) = .slice (some ⟨g, 0, none⟩) 1 1)
    (hc : w.cell? ⟨g, 0, none⟩ = some a0 /\ w.cell? ⟨g, 1, none⟩ = some a1 /\ w.cell? ⟨g, 2, none⟩ = some a2 /\ w.cell? ⟨g, 3, none⟩ = some a3 /\ w.cell? ⟨g, 4, none⟩ = some a4)
    (hy : xK (fun k => ok k /\ some k ≠ v.ownBlock) w y [a0, a1, a2, a3, a4]) (hok : ∀ k, w.heap.size <= k -> ok k) (hl : xs.length <= 1048576) (hbase : base <= w.heap.size)
    (h : ∀ v' w', OwnAt 51 5 xK ok w' base v' (xs ++ [y]) -> w.grownBy w' v.ownBlock -> (v'.ownBlock = v.ownBlock \/ v'.ownBlock = some w.heap.size) -> K (a.put o.dst v') w') :
    if Region.wanted o (yielded ops a.tmps) = true then Oper.wp Tryz.prog o a w K Q else E := by
  have hw : Region.wanted o (yielded ops a.tmps) = true := by simp [Region.wanted, hgd]
  rw [if_pos hw]
  obtain ⟨i0, hi, hz0, hz1, hz2⟩ := info_parts infoX'
  obtain ⟨c0, c1, c2, c3, c4⟩ := hc
  refine wpo_app goodX (.tmp s) (.tmp x) 49 ho base 51 i0 _ 88 Tryz.underlying49 hi hz0 hz1 hz2 rfl (by decide) v xs hs hown ⟨g, 0, none⟩ 1 1 [y] [a0, a1, a2, a3, a4] hx rfl ?_ (Reps.one hy rfl) hok (by omega) (by decide) hbase h
  intro j u hj
  rw [add_none]
  match j, hj with
  | 0, hj => cases hj; exact c0
  | 1, hj => cases hj; exact c1
  | 2, hj => cases hj; exact c2
  | 3, hj => cases hj; exact c3
  | 4, hj => cases hj; exact c4
end
theorem way_index' (h level : Nat) (hl : level < 13) (w : World) : (Instr.index 142 (wayV h) (.int .i64 (level : Nat))).run Tryz.prog w = .ok (.int .i64 (Bw.chunkAt h level : Nat)) w := by
  have h1 : (0 : Int) <= (level : Int) /\ (level : Int) < 13 := by omega
  simp [Instr.index, run_underlying Tryz.underlying142, asIntOf, h1, wayV, wayA, hl, go_sem]
  clear h1
  match level, hl with
  | 0, _ => rfl
  | 1, _ => rfl
  | 2, _ => rfl
  | 3, _ => rfl
  | 4, _ => rfl
  | 5, _ => rfl
  | 6, _ => rfl
  | 7, _ => rfl
  | 8, _ => rfl
  | 9, _ => rfl
  | 10, _ => rfl
  | 11, _ => rfl
  | 12, _ => rfl
theorem xK_five {ok : Nat -> Prop} {w : World} {x : Bw.X} {cs : List Value} (h : xK ok w x cs) : ∃ k hh A1 n1 c1 A2 n2 c2 A3 n3 c3, cs = [.int .i64 (k : Nat), .int .u64 (hh : Nat), .slice A1 n1 c1, .slice A2 n2 c2, .slice A3 n3 c3] := by
  obtain ⟨k, hh, ps, s, kids⟩ := x
  rw [xK_iff] at h
  obtain ⟨vp, vs, vk, rfl, h1, h2, h3⟩ := h
  obtain ⟨A1, c1, rfl⟩ := h1.form
  obtain ⟨A2, c2, rfl⟩ := h2.form
  obtain ⟨A3, c3, rfl⟩ := h3.form
  exact ⟨_, _, _, _, _, _, _, _, _, _, _, rfl⟩
open Go.RowKit Go.Bw
def LayIH (f level : Nat) (l : List Bw.En) : Prop := ∀ (c : Nat) (ok : Nat -> Prop) (v : Value) (w : World), Bw.partOf level c l ≠ [] -> SensAt ok w v (Bw.partOf level c l) ->
  Calls Tryz.prog 38 #[v, .int .i64 ((level : Int) + 1)] w (Gives w (LayTold w (Bw.layX f (level + 1) (Bw.partOf level c l))))
set_option maxRecDepth 100000 in
set_option maxHeartbeats 8000000 in
theorem lay_split {ok : Nat -> Prop} {l : List Bw.En} {v : Value} {w : World} {f level : Nat} (hne : l ≠ []) (hl : l.length <= 1048576) (hby : ∀ e ∈ l, e.2.1.length <= 1048576 /\ e.2.2.length <= 1048576) (hhb : ∀ e ∈ l, e.1 < 18446744073709551616) (hr : SensAt ok w v l) (hlev : level <= 12)
    (hs : ∃ x ∈ l, x.1 ≠ (l[0]'(List.length_pos_iff.2 hne)).1) (ih : LayIH f level l) :
    Calls Tryz.prog 38 #[v, .int .i64 (level : Nat)] w (Gives w (LayTold w (Bw.layX (f + 1) level l))) := by
  obtain ⟨A, cap, rfl⟩ := hr.form
  have hlen0 : ((l.length : Int) == 0) = false := by rw [beq_eq_false_iff_ne]; have := List.length_pos_iff.2 hne; omega
  have hpos : 0 < l.length := List.length_pos_iff.2 hne
  obtain ⟨b, o, rfl, hob, e0, e1, e2⟩ := sen_get hr (List.getElem?_eq_getElem hpos)
  have hbl := World.block_lt_of_cell? w _ e0
  dsimp only at hbl
  simp only [Nat.zero_mul, Nat.add_zero] at e0
  obtain ⟨W0, hW0⟩ : ∃ W0, w.alloc (.cells #[.int .i64 0, .int .u64 0, .slice none 0 0, .slice none 0 0, .slice none 0 0] 51) = W0 := ⟨_, rfl⟩
  have hB0 : Below w.heap.size w W0 := by rw [<- hW0]; exact gB3
  have hs0 : W0.heap.size = w.heap.size + 1 := by rw [<- hW0]; simp
  have hrb : W0.heap[w.heap.size]? = some (.cells #[.int .i64 0, .int .u64 0, .slice none 0 0, .slice none 0 0, .slice none 0 0] 51 (0, 0)) := by rw [<- hW0]; exact heap_alloc_new _ _
  have HW0 := Lib.hid hW0
  have HB0 := Lib.hid hB0
  have HRB := Lib.hid hrb
  have HR := Lib.hid hr
  have HL := Lib.hid hl
  have HBY := Lib.hid hby
  have HPOS := Lib.hid hpos
  have HHB := Lib.hid hhb
  have H0 : Hid (LayRel1 l (l[0]'hpos).1 W0 (.bool true) (.slice none 0 0) (.int .i64 0) W0) := Lib.hid ⟨0, Nat.zero_le _, rfl, by simp, by simp only [List.take_zero, List.map_nil]; exact RowAt.nil, Below.refl _ _⟩
  obtain ⟨xx, hxm, hxn⟩ := hs
  have hxl := Bw.layX_split (f := f) (level := level) hxm (List.getElem_mem hpos) hxn
  have hfin : l.all (fun x => x.1 == (l[0]'hpos).1) = false := by rw [List.all_eq_false]; exact ⟨xx, hxm, by rw [beq_iff_eq]; exact hxn⟩
  have HXL := Lib.hid hxl
  have HFIN := Lib.hid hfin
  have HIH := Lib.hid ih
  have HLV := Lib.hid hlev
  clear hr hl hby hhb hW0 hB0 hrb hxm hxn hxl hfin hne hob e1 e2 ih hlev
  generalize (l[0]'hpos).1 = g0 at *
  go_enter Tryz.func38, Tryz.ntmps38
  go_wp2_with fail
  rw [HW0.out]
  go_loopw [5, 6, 21] (LayRel1 l g0 W0) (fun _ _ i _ => l.length - (intOf i).toNat)
  case atStart => exact H0.out
  case round =>
    obtain ⟨k, hk, rfl, rfl, hm, hB⟩ := hrel
    by_cases hlt : k < l.length
    · obtain ⟨b', o', hA', hob', c0, c1, c2⟩ := sen_get HR.out (List.getElem?_eq_getElem hlt)
      cases hA'
      have hbl' := World.block_lt_of_cell? w _ c0
      dsimp only at hbl'
      have hBw := HB0.out.trans (hB.mono HB0.out.size)
      have d0 := (hBw.cell (p := ⟨b, o + k * 3, none⟩) hbl').trans c0
      have d1 := (hBw.cell (p := ⟨b, o + k * 3 + 1, none⟩) hbl').trans c1
      have d2 := (hBw.cell (p := ⟨b, o + k * 3 + 2, none⟩) hbl').trans c2
      have dd0 := (hBw.cell (p := ⟨b, o, none⟩) hbl').trans e0
      have hbl2 : b < wr.heap.size := Nat.lt_of_lt_of_le hbl' hBw.size
      have h0 : (0 : Int) <= (k : Int) := by omega
      have h1 : (k : Int) < (l.length : Int) := by omega
      have h2 : (0 : Int) < (l.length : Int) := by omega
      have hall : (l.take (k + 1)).all (fun x => x.1 == g0) = ((l.take k).all (fun x => x.1 == g0) && (l[k].1 == g0)) := by rw [take_succ_snoc hlt, List.all_append]; simp
      have hput : Bw.come ((l.take (k + 1)).map (·.2)) = Bw.put (Bw.come ((l.take k).map (·.2))) l[k].2 := by rw [take_succ_snoc hlt, List.map_append]; simp [Bw.come]
      have hmem := HBY.out l[k] (List.getElem_mem hlt)
      have hbm : ∀ q ∈ Bw.come ((l.take k).map (·.2)), q.1.length <= 1048576 := fun q hq => by
        have := Bw.mem_come hq
        rw [List.mem_map] at this
        obtain ⟨e, he, rfl⟩ := this
        exact (HBY.out e (List.mem_of_mem_take he)).1
      have hlm : (Bw.come ((l.take k).map (·.2))).length <= 1048576 := by
        have := Bw.length_come ((l.take k).map (·.2))
        rw [List.length_map, List.length_take] at this
        have := HL.out
        omega
      have hri := Bw.rises_come ((l.take k).map (·.2))
      have h64 := HHB.out l[k] (List.getElem_mem hlt)
      obtain ⟨ek, hek⟩ : ∃ ek, ek = l[k] := ⟨_, rfl⟩
      rw [<- hek] at d0 d1 d2 hall hput hmem h64
      obtain ⟨g, qx, qy⟩ := ek
      simp only [str] at d1 d2
      dsimp only at d0 hall hput hmem h64
      generalize Bw.come ((l.take k).map (·.2)) = mm at *
      have CP := Lib.hid (fun (W : World) (hW : Below W0.heap.size W0 W) (x : Value) (hx : SPairsAt (fun k => W0.heap.size <= k) W x mm) => rput_any (px := qx) (py := qy) hlm hmem.1 hbm hx hri)
      have HALL := Lib.hid hall
      have HPUT := Lib.hid hput
      have HBW := Lib.hid hB
      have HM := Lib.hid (fun (W : World) (hW : Below wr.heap.size wr W) => hm.move goodSp (Moves.below hW))
      obtain ⟨AM, cm, rfl⟩ := hm.form
      have HEK := Lib.hid hek
      clear hall hput hmem hbm hlm hri hm hB c0 c1 c2 hBw h64 hek
      generalize (l.take k).all (fun x => x.1 == g0) = bb at *
      cases hq : (g == g0) with
      | true =>
        have hqi : ((g : Int) == (g0 : Int)) = true := by rw [beq_iff_eq] at hq ⊢; omega
        cases bb with
        | true =>
          go_wp2_with fail
          go_quiet (fail)
          rename_i nq
          go_wp2_with fail
          have hq1 : Below wr.heap.size wr ((wr.alloc (.cells #[.int .u64 (g : Nat), .string ⟨qx.toArray⟩, .string ⟨qy.toArray⟩] 94)).drewN nq) := by exact gB3
          refine (CP.out _ (HBW.out.trans (hq1.mono HBW.out.size)) _ (HM.out _ hq1)).mono ?_
          rintro e w2 ⟨q2, rfl, hq2, hb2⟩
          obtain ⟨A2, cc2, rfl⟩ := hq2.form
          have HQ2 := Lib.hid (hq2.weaken goodSp (ok' := fun k => W0.heap.size <= k) (fun k hk => Nat.le_trans HBW.out.size (Nat.le_trans hq1.size hk)))
          have HB2 := Lib.hid ((HBW.out.trans (hq1.mono HBW.out.size)).trans (hb2.mono (Nat.le_trans HBW.out.size hq1.size)))
          clear hq2 hb2 hq1
          go_wp2
          exact ⟨⟨k + 1, hlt, int_succ hlt HL.out, by rw [HALL.out, hq]; rfl, by rw [HPUT.out]; exact HQ2.out, HB2.out⟩, less_succ hlt HL.out⟩
        | false =>
          go_wp2_with fail
          go_quiet (fail)
          rename_i nq
          go_wp2_with fail
          have hq1 : Below wr.heap.size wr ((wr.alloc (.cells #[.int .u64 (g : Nat), .string ⟨qx.toArray⟩, .string ⟨qy.toArray⟩] 94)).drewN nq) := by exact gB3
          refine (CP.out _ (HBW.out.trans (hq1.mono HBW.out.size)) _ (HM.out _ hq1)).mono ?_
          rintro e w2 ⟨q2, rfl, hq2, hb2⟩
          obtain ⟨A2, cc2, rfl⟩ := hq2.form
          have HQ2 := Lib.hid (hq2.weaken goodSp (ok' := fun k => W0.heap.size <= k) (fun k hk => Nat.le_trans HBW.out.size (Nat.le_trans hq1.size hk)))
          have HB2 := Lib.hid ((HBW.out.trans (hq1.mono HBW.out.size)).trans (hb2.mono (Nat.le_trans HBW.out.size hq1.size)))
          clear hq2 hb2 hq1
          go_wp2
          exact ⟨⟨k + 1, hlt, int_succ hlt HL.out, by rw [HALL.out, hq]; rfl, by rw [HPUT.out]; exact HQ2.out, HB2.out⟩, less_succ hlt HL.out⟩
      | false =>
        have hqi : ((g : Int) == (g0 : Int)) = false := by rw [beq_eq_false_iff_ne] at hq ⊢; omega
        cases bb with
        | true =>
          go_wp2_with fail
          go_quiet (fail)
          rename_i nq
          go_wp2_with fail
          have hq1 : Below wr.heap.size wr ((wr.alloc (.cells #[.int .u64 (g : Nat), .string ⟨qx.toArray⟩, .string ⟨qy.toArray⟩] 94)).drewN nq) := by exact gB3
          refine (CP.out _ (HBW.out.trans (hq1.mono HBW.out.size)) _ (HM.out _ hq1)).mono ?_
          rintro e w2 ⟨q2, rfl, hq2, hb2⟩
          obtain ⟨A2, cc2, rfl⟩ := hq2.form
          have HQ2 := Lib.hid (hq2.weaken goodSp (ok' := fun k => W0.heap.size <= k) (fun k hk => Nat.le_trans HBW.out.size (Nat.le_trans hq1.size hk)))
          have HB2 := Lib.hid ((HBW.out.trans (hq1.mono HBW.out.size)).trans (hb2.mono (Nat.le_trans HBW.out.size hq1.size)))
          clear hq2 hb2 hq1
          go_wp2
          exact ⟨⟨k + 1, hlt, int_succ hlt HL.out, by rw [HALL.out, hq]; rfl, by rw [HPUT.out]; exact HQ2.out, HB2.out⟩, less_succ hlt HL.out⟩
        | false =>
          go_wp2_with fail
          go_quiet (fail)
          rename_i nq
          go_wp2_with fail
          have hq1 : Below wr.heap.size wr ((wr.alloc (.cells #[.int .u64 (g : Nat), .string ⟨qx.toArray⟩, .string ⟨qy.toArray⟩] 94)).drewN nq) := by exact gB3
          refine (CP.out _ (HBW.out.trans (hq1.mono HBW.out.size)) _ (HM.out _ hq1)).mono ?_
          rintro e w2 ⟨q2, rfl, hq2, hb2⟩
          obtain ⟨A2, cc2, rfl⟩ := hq2.form
          have HQ2 := Lib.hid (hq2.weaken goodSp (ok' := fun k => W0.heap.size <= k) (fun k hk => Nat.le_trans HBW.out.size (Nat.le_trans hq1.size hk)))
          have HB2 := Lib.hid ((HBW.out.trans (hq1.mono HBW.out.size)).trans (hb2.mono (Nat.le_trans HBW.out.size hq1.size)))
          clear hq2 hb2 hq1
          go_wp2
          exact ⟨⟨k + 1, hlt, int_succ hlt HL.out, by rw [HALL.out, hq]; rfl, by rw [HPUT.out]; exact HQ2.out, HB2.out⟩, less_succ hlt HL.out⟩
    · obtain rfl : k = l.length := by omega
      rw [List.take_length] at hm ⊢
      rw [HFIN.out]
      obtain ⟨W2, hW2⟩ : ∃ W2, wr.alloc (.cells #[.int .i64 3, .int .u64 0, .slice none 0 0, .slice none 0 0, .slice none 0 0] 51) = W2 := ⟨_, rfl⟩
      have hB2 : Below wr.heap.size wr W2 := by rw [<- hW2]; exact gB3
      have hs2 : W2.heap.size = wr.heap.size + 1 := by rw [<- hW2]; simp
      have hO2 : Out5 W2 wr.heap.size (.slice none 0 0) (.slice none 0 0) := by rw [<- hW2]; exact heap_alloc_new _ _
      obtain ⟨ob, hob⟩ : ∃ ob, ob = wr.heap.size := ⟨_, rfl⟩
      have hw0 : w.heap.size + 1 <= ob := by have := hB.size; omega
      have HBW2 := Lib.hid ((HB0.out.trans (hB.mono HB0.out.size)).trans (hB2.mono (by have := HB0.out.size; have := hB.size; omega)))
      have HRB2 : Hid (W2.heap[w.heap.size]? = some (.cells #[.int .i64 0, .int .u64 0, .slice none 0 0, .slice none 0 0, .slice none 0 0] 51 (0, 0))) := Lib.hid ((hB2.block _ (by omega)).trans ((hB.block _ (by omega)).trans HRB.out))
      rw [<- hob] at hO2
      have HL2 : Hid (LayRel2 f level l ob W2 (.int .i64 0) W2) := Lib.hid ⟨0, .slice none 0 0, .slice none 0 0, by omega, rfl, hO2, OwnAt.nil, OwnAt.nil, Below.refl _ _⟩
      have HW2 := Lib.hid hW2
      have HS2 : Hid (W2.heap.size = ob + 1) := Lib.hid (by omega)
      have HOB := Lib.hid hob
      clear hm hB hB2 hO2 hW2 hs2 hlt hk hob
      go_wp2_with fail
      rw [HW2.out, <- HOB.out]
      clear HOB
      obtain ⟨w1x, hw1x⟩ : ∃ x : World, x = wr := ⟨_, rfl⟩
      rw [<- hw1x] at HW2
      clear hw1x
      go_loopw [11] (LayRel2 f level l ob W2) (fun i _ => 32 - (intOf i).toNat)
      case atStart => exact HL2.out
      case round =>
        obtain ⟨c, sv, kv, hc32, rfl, hO, hS, hK, hB⟩ := hrel
        obtain ⟨wo, rfl⟩ : ∃ wo : World, wo = wr := ⟨_, rfl⟩
        by_cases hlt : c < 32
        · have hcI : (c : Int) < 32 := by omega
          have hBo := HBW2.out.trans (hB.mono (by omega))
          have H03 : Hid (LayRel3 level c l wo (.slice none 0 0) (.int .i64 0) wo) := Lib.hid ⟨0, Nat.zero_le _, rfl, by simp only [List.take_zero]; exact OwnAt.nil, Below.refl _ _⟩
          have HO := Lib.hid hO; have HS := Lib.hid hS; have HK := Lib.hid hK; have HB := Lib.hid hB; have HBO := Lib.hid hBo
          clear hO hS hK hB hBo
          go_wp2_with fail
          go_loopw [12, 58] (LayRel3 level c l wo) (fun _ i _ => l.length - (intOf i).toNat)
          case atStart => exact H03.out
          case round =>
            obtain ⟨k, hk, rfl, hpt, hB3⟩ := hrel
            by_cases hlt3 : k < l.length
            · obtain ⟨b', o', hA', hob', c0, c1, c2⟩ := sen_get HR.out (List.getElem?_eq_getElem hlt3)
              cases hA'
              have hbl' := World.block_lt_of_cell? w _ c0
              dsimp only at hbl'
              have hBw := HBO.out.trans (hB3.mono HBO.out.size)
              have d0 := (hBw.cell (p := ⟨b, o + k * 3, none⟩) hbl').trans c0
              have d1 := (hBw.cell (p := ⟨b, o + k * 3 + 1, none⟩) hbl').trans c1
              have d2 := (hBw.cell (p := ⟨b, o + k * 3 + 2, none⟩) hbl').trans c2
              have hbl2 : b < wr.heap.size := Nat.lt_of_lt_of_le hbl' hBw.size
              have h0 : (0 : Int) <= (k : Int) := by omega
              have h1 : (k : Int) < (l.length : Int) := by omega
              have hsn : Bw.partOf level c (l.take (k + 1)) = Bw.partOf level c (l.take k) ++ if Bw.chunkAt l[k].1 level = c then [l[k]] else [] := by
                rw [take_succ_snoc hlt3]
                simp only [Bw.partOf, List.filter_append, List.filter_cons, List.filter_nil, beq_iff_eq]
              have h64 := HHB.out l[k] (List.getElem_mem hlt3)
              generalize l[k] = ek at *
              obtain ⟨g, qx, qy⟩ := ek
              simp only [str] at d1 d2
              dsimp only at d0 hsn h64
              have hix := fun (W : World) => way_index' g level (by have := HLV.out; omega) W
              have CW := Lib.hid (fun (W : World) => way_any g h64 W)
              have hlp : (Bw.partOf level c (l.take k)).length <= 1048576 := by
                have := List.length_filter_le (fun x : Bw.En => Bw.chunkAt x.1 level == c) (l.take k)
                rw [List.length_take] at this
                have := HL.out
                unfold Bw.partOf
                omega
              have HSN := Lib.hid hsn
              have HPT := Lib.hid hpt
              have HB3 := Lib.hid hB3
              have HLP := Lib.hid hlp
              have hbq : Below wr.heap.size wr (wr.alloc (.cells #[.int .u64 (g : Nat), .string ⟨qx.toArray⟩, .string ⟨qy.toArray⟩] 94)) := by exact gB3
              have HBQ := Lib.hid hbq
              clear hsn hpt hB3 c0 c1 c2 hBw h64 hbq hlp H03 HL2
              by_cases hch : Bw.chunkAt g level = c
              · have heq : ((Bw.chunkAt g level : Int) == (c : Int)) = true := by rw [beq_iff_eq]; omega
                have HS2 := Lib.hid (show Bw.partOf level c (l.take (k + 1)) = Bw.partOf level c (l.take k) ++ [(g, qx, qy)] by rw [HSN.out, if_pos hch])
                obtain ⟨i0, hi, hz0, hz1, hz2⟩ := info_parts infoE
                have HI := Lib.hid hi; have HZ0 := Lib.hid hz0; have HZ1 := Lib.hid hz1; have HZ2 := Lib.hid hz2
                clear hch hi hz0 hz1 hz2
                go_wp2_with fail
                refine (CW.out _).mono ?_
                rintro e w2 ⟨rfl, hb2⟩
                have hr2 : Below wr.heap.size wr w2 := HBQ.out.trans (hb2.mono HBQ.out.size)
                have k0 : w2.cell? ⟨wr.heap.size, 0, none⟩ = some (.int .u64 (g : Nat)) := (hb2.cell (p := ⟨wr.heap.size, 0, none⟩) (by simp)).trans (by go_simp)
                have k1 : w2.cell? ⟨wr.heap.size, 1, none⟩ = some (.string ⟨qx.toArray⟩) := (hb2.cell (p := ⟨wr.heap.size, 1, none⟩) (by simp)).trans (by go_simp)
                have k2 : w2.cell? ⟨wr.heap.size, 2, none⟩ = some (.string ⟨qy.toArray⟩) := (hb2.cell (p := ⟨wr.heap.size, 2, none⟩) (by simp)).trans (by go_simp)
                have HR2 := Lib.hid hr2
                have HP2 := Lib.hid (HPT.out.move goodSen (Moves.below hr2))
                clear hb2 hr2
                go_wp2_with (at_builtin; refine wp_app1 goodSen rfl (.tmp 69) (.tmp 71) 91 rfl wo.heap.size 94 i0 _ 40 Tryz.underlying91 HI.out HZ0.out HZ1.out HZ2.out rfl (by decide) _ (Bw.partOf level c (l.take k)) rfl HP2.out (g, qx, qy) #[.int .u64 (g : Nat), .string ⟨qx.toArray⟩, .string ⟨qy.toArray⟩] 94 rfl senK_mk (fun k hk => Nat.le_trans (Nat.le_trans HB3.out.size HR2.out.size) hk) (by have := HLP.out; omega) (by decide) (Nat.le_trans HB3.out.size HR2.out.size) ?_; intro v3 w3 hown3 hb3 hat3 hg3)
                exact ⟨⟨k + 1, hlt3, int_succ hlt3 HL.out, by rw [HS2.out]; exact hown3, (HB3.out.trans (HR2.out.mono HB3.out.size)).trans hb3⟩, less_succ hlt3 HL.out⟩
              · have heq : ((Bw.chunkAt g level : Int) == (c : Int)) = false := by rw [beq_eq_false_iff_ne]; omega
                have HS2 := Lib.hid (show Bw.partOf level c (l.take (k + 1)) = Bw.partOf level c (l.take k) by rw [HSN.out, if_neg hch, List.append_nil])
                clear hch
                go_wp2_with fail
                refine (CW.out _).mono ?_
                rintro e w2 ⟨rfl, hb2⟩
                have hr2 : Below wr.heap.size wr w2 := HBQ.out.trans (hb2.mono HBQ.out.size)
                have HR2 := Lib.hid hr2
                clear hb2 hr2
                go_wp2
                exact ⟨⟨k + 1, hlt3, int_succ hlt3 HL.out, by rw [HS2.out]; exact HPT.out.move goodSen (Moves.below HR2.out), HB3.out.trans (HR2.out.mono HB3.out.size)⟩, less_succ hlt3 HL.out⟩
            · obtain rfl : k = l.length := by omega
              rw [List.take_length] at hpt
              have hO := HO.out.below hB3 HO.out.lt
              have hS := HS.out.move goodNat (Moves.below hB3)
              have hK := HK.out.move goodX (Moves.below hB3)
              have hBn := HB.out.trans (hB3.mono (Nat.le_of_lt HO.out.lt))
              have hpr := hpt.row goodSen
              obtain ⟨AP, cp, rfl⟩ := hpr.form
              have hsz := hB3.size
              have HSV := Lib.hid (fun k (h : sv.ownBlock = some k) => (HS.out.lt k h).2)
              have HBW := Lib.hid (HBO.out.trans (hB3.mono HBO.out.size))
              have HOLT := Lib.hid HO.out.lt
              have HS' := Lib.hid hS; have HK' := Lib.hid hK; have HB' := Lib.hid hBn; have HPR := Lib.hid hpr; have HO' := Lib.hid hO
              clear HO HS HK HB HBO hB3 hpt hlt3 hk hpr hBn
              have hlc := length_csOf level l c
              by_cases hp : Bw.partOf level c l = []
              · have hnp : ¬ (0 < (Bw.partOf level c l).length) := by rw [hp]; simp
                have HCS := Lib.hid (csOf_no hp)
                generalize (Bw.partOf level c l).length = np at *
                clear hp hO hS hK hlc
                go_wp2
                exact ⟨⟨c + 1, sv, kv, hlt, by rw [Int.natCast_add]; rfl, HO'.out, by rw [HCS.out]; exact HS'.out, by rw [HCS.out]; exact HK'.out, HB'.out⟩, by simp only [intOf]; omega⟩
              · have hnp : 0 < (Bw.partOf level c l).length := List.length_pos_iff.2 hp
                have HCS := Lib.hid (csOf_yes hp)
                have HLY := Lib.hid (fun (W : World) (hr : SensAt AllB W (.slice AP (Bw.partOf level c l).length cp) (Bw.partOf level c l)) => HIH.out c AllB _ W hp hr)
                obtain ⟨AS, cS, rfl⟩ := (hS.row goodNat).form
                obtain ⟨AK, cK, rfl⟩ := (hK.row goodX).form
                obtain ⟨⟨z0, z1, z2, z3, z4⟩, y0, y1, y2, y3, y4⟩ := five_cells' hO
                obtain ⟨iI, hi, hz0, hz1, hz2⟩ := info_parts infoI
                have HI := Lib.hid hi; have HZ0 := Lib.hid hz0; have HZ1 := Lib.hid hz1; have HZ2 := Lib.hid hz2
                have HLC := Lib.hid hlc
                rw [List.length_map] at z4 HK' HO' HS'
                generalize (Bw.partOf level c l).length = np at *
                obtain ⟨ns, hns⟩ : ∃ ns, (csOf level l c).length = ns := ⟨_, rfl⟩
                have HNS := Lib.hid hns
                rw [hns] at z3 z4 HS' HK' HO' HLC HSV
                clear hi hz0 hz1 hz2 hO hS hK hp hlc hns
                go_wp2_with (at_builtin; (refine wp_app1 goodNat rfl (.tmp 78) (.tmp 80) 48 rfl (ob + 1) 3 iI (.int .i64 0) 8 Tryz.underlying48 HI.out HZ0.out HZ1.out HZ2.out rfl (by decide) (.slice AS ns cS) (csOf level l c) rfl HS'.out c #[.int .i64 (c : Nat)] 3 rfl rfl (fun k hk => ⟨by have := HO'.out.lt; omega, fun e => by have := (HK'.out.lt k e.symm).2; omega⟩) (by rw [HNS.out]; have := HLC.out; omega) (by decide) HO'.out.lt ?_; intro v4 w4 hown4 hb4 hat4 hg4; obtain ⟨A4, c4, rfl⟩ : ∃ A4 c4, v4 = .slice A4 (ns + 1) c4 := (by obtain ⟨A, c', h⟩ := (hown4.row goodNat).form; exact ⟨A, c', by rw [h, List.length_append, HNS.out]; rfl⟩); obtain ⟨hO4, hO5, hS5, hK5, hB5, hz5⟩ := lay_stepA (f := f) (level := level) (l := l) HO'.out HS'.out HK'.out HB'.out hown4 hg4 hat4; obtain ⟨⟨x0, x1, x2, x3, x4⟩, q0, q1, q2, q3, q4⟩ := five_cells' hO4))
                have hmp : Moves (fun k => wo.heap.size <= k) AllB wr (w4.setCell ⟨ob, 3, none⟩ (.slice A4 (ns + 1) c4)) := fun k hk hl => ⟨trivial, by
                  rw [Below.heap_setCell _ _ _ _ (by have := HOLT.out; simp only; omega)]
                  exact hg4.block k hl (fun e => by have := HSV.out k e.symm; omega)⟩
                have HP5 := Lib.hid (HPR.out.move goodSen hmp)
                generalize w4.setCell ⟨ob, 3, none⟩ (.slice A4 (ns + 1) c4) = W5 at *
                obtain ⟨⟨t0, t1, t2, t3, t4⟩, f0, f1, f2, f3, f4⟩ := five_cells' hO5
                have hobl := hO5.lt
                have hlvI : (level : Int) <= 12 := by have := HLV.out; omega
                have hlv0 : (0 : Int) <= (level : Int) := by omega
                have hs1 : IntKind.i64.wrap ((level : Int) + 1) = (level : Int) + 1 := IntWalk.i64_in _ (by omega)
                have hw1 : wrap64 ((level : Int) + 1) = (level : Int) + 1 := by unfold wrap64; omega
                have HO5 := Lib.hid hO5; have HS5 := Lib.hid hS5; have HK5 := Lib.hid hK5; have HB5 := Lib.hid hB5
                have HLY5 := Lib.hid (fun (W : World) (hW : Below W5.heap.size W5 W) => HLY.out W (HP5.out.move goodSen (Moves.below hW)))
                clear hO5 hS5 hK5 hB5 hown4 hb4 hat4 hg4 hO4 hmp HO' HS' HK' HB' HPR HP5 HLY x0 x1 x2 x3 x4 q0 q1 q2 q3 q4 z0 z1 z2 z3 z4 y0 y1 y2 y3 y4 hz5
                go_region_law
                  ((first
                    | (go_simp; go_at_call 38; (with_reducible refine (HLY5.out _ (by exact gB3)).mono ?_); rintro e w6 ⟨r6, rfl, ⟨cs6, rfl, hx6⟩, hb6⟩; obtain ⟨xk, xh, B1, m1, g1, B2, m2, g2, B3, m3, g3, rfl⟩ := xK_five hx6; have hb56 : Below W5.heap.size W5 w6 := Below.trans (by exact gB3) (hb6.mono (by simp)); have hO6 := HO5.out.below hb56 hobl; obtain ⟨⟨s0, s1, s2, s3, s4⟩, v0, v1, v2, v3, v4⟩ := five_cells' hO6; have hobl6 := hO6.lt; have HX6 := Lib.hid hx6; clear hx6)
                    | (go_loud (refine st_xapp' 84 89 (.slice AK ns cK) (ob + 1) rfl rfl rfl (HK5.out.move goodX (Moves.below (hb56.alloc hb56.size _))) (Bw.layX f (level + 1) (Bw.partOf level c l)) (.int .i64 (xk : Nat)) (.int .u64 (xh : Nat)) (.slice B1 m1 g1) (.slice B2 m2 g2) (.slice B3 m3 g3) w6.heap.size (by go_simp) ⟨by go_simp, by go_simp, by go_simp, by go_simp, by go_simp⟩ (XAt.move (fun k hk hl => ⟨⟨⟨by have hk' : W5.heap.size <= k := hk; omega, fun e => by have hk' : W5.heap.size <= k := hk; have := (HS5.out.lt k e.symm).2; omega⟩, fun e => by have hk' : W5.heap.size <= k := hk; have := (HK5.out.lt k e.symm).2; omega⟩, Below.heap_alloc w6 _ k hl⟩) _ _ HX6.out) (fun k hk => ⟨by simp at hk; omega, fun e => by simp at hk; have := (HS5.out.lt k e.symm).2; have := hb56.size; omega⟩) (by rw [List.length_map, HNS.out]; have := HLC.out; omega) (by simp; omega) ?_; intro v7 w7 hown7 hg7 hat7; obtain ⟨A7, c7, rfl⟩ : ∃ A7 c7, v7 = .slice A7 (ns + 1) c7 := (by obtain ⟨A, c', h⟩ := (hown7.row goodX).form; exact ⟨A, c', by rw [h, List.length_append, List.length_map, HNS.out]; rfl⟩); obtain ⟨hO7, hO8, hS8, hK8, hB8⟩ := lay_stepB HO5.out HS5.out HK5.out HB5.out hb56 hown7 hg7 hat7; obtain ⟨⟨j0, j1, j2, j3, j4⟩, n0, n1, n2, n3, n4⟩ := five_cells' hO7))))
                all_goals go_wp2
                all_goals exact ⟨⟨c + 1, _, _, hlt, by rw [Int.natCast_add]; rfl, hO8, by rw [HCS.out]; exact hS8, by rw [HCS.out, List.map_append]; exact hK8, hB8⟩, by simp only [intOf]; omega⟩
        · obtain rfl : c = 32 := by omega
          obtain ⟨AS, cS, rfl⟩ := (hS.row goodNat).form
          obtain ⟨AK, cK, rfl⟩ := (hK.row goodX).form
          rw [List.length_map] at hO hS hK
          have hrb := (hB.block w.heap.size (by omega)).trans HRB2.out
          obtain ⟨⟨z0, z1, z2, z3, z4⟩, y0, y1, y2, y3, y4⟩ := five_cells' hrb
          obtain ⟨⟨t0, t1, t2, t3, t4⟩, f0, f1, f2, f3, f4⟩ := five_cells' hO
          have HNAT := Lib.hid ((hS.row goodNat).weaken goodNat (ok' := fun k => w.heap.size < k) (fun k hk => by have := hk.1; omega))
          have HKID := Lib.hid ((hK.row goodX).weaken goodX (ok' := fun k => w.heap.size < k) (fun k hk => by have := hk.1; omega))
          have HBO := Lib.hid (HBW2.out.trans (hB.mono (by omega)))
          have HRBW := Lib.hid hrb
          have hxx := HXL.out
          rw [show ((List.range 32).filter fun c => l.any fun x => Bw.chunkAt x.1 level == c) = csOf level l 32 from rfl] at hxx
          have HXX := Lib.hid hxx
          obtain ⟨cs, hcs⟩ : ∃ cs, csOf level l 32 = cs := ⟨_, rfl⟩
          rw [hcs] at HNAT HKID HXX t3 t4
          clear hO hS hK hB hrb hlt HXL hxx hcs HL2
          go_wp2
          have hb5 := set5_block HRBW.out (.int .i64 3) (.int .u64 0) (.slice none 0 0) (.slice AS cs.length cS) (.slice AK cs.length cK)
          have hmv := moves_set5' (n := w.heap.size) (W := wo) (.int .i64 3) (.int .u64 0) (.slice none 0 0) (.slice AS cs.length cS) (.slice AK cs.length cK)
          have hB5 := below_set5' HBO.out (.int .i64 3) (.int .u64 0) (.slice none 0 0) (.slice AS cs.length cS) (.slice AK cs.length cK)
          generalize (((((wo.setCell ⟨w.heap.size, 0, none⟩ (.int .i64 3)).setCell ⟨w.heap.size, 1, none⟩ (.int .u64 0)).setCell ⟨w.heap.size, 2, none⟩ (.slice none 0 0)).setCell ⟨w.heap.size, 3, none⟩ (.slice AS cs.length cS)).setCell ⟨w.heap.size, 4, none⟩ (.slice AK cs.length cK)) = WF at hb5 hmv hB5 ⊢
          obtain ⟨⟨k0, k1, k2, k3, k4⟩, _⟩ := five_cells' hb5
          refine bodyPost_ret (v := .agg #[.int .i64 3, .int .u64 0, .slice none 0 0, .slice AS cs.length cS, .slice AK cs.length cK]) (by simp [results, Tryz.results38, go_sem, k0, k1, k2, k3, k4]) rfl ⟨_, rfl, ⟨[.int .i64 3, .int .u64 0, .slice none 0 0, .slice AS cs.length cS, .slice AK cs.length cK], rfl, ?_⟩, hB5⟩
          rw [HXX.out]
          exact xK_iff.2 ⟨_, _, _, rfl, RowAt.nil, HNAT.out.move goodNat hmv, HKID.out.move goodX hmv⟩
open Go.RowKit Go.Bw
theorem _root_.Bw.layX_nil (f level : Nat) : Bw.layX f level [] = .zero := by cases f <;> rfl
set_option maxRecDepth 100000 in
set_option maxHeartbeats 1000000 in
theorem lay_nil {ok : Nat -> Prop} {v : Value} {w : World} {f level : Nat} (hr : SensAt ok w v []) :
    Calls Tryz.prog 38 #[v, .int .i64 (level : Nat)] w (Gives w (LayTold w (Bw.layX f level []))) := by
  obtain ⟨A, c, rfl⟩ := hr.form
  have HX := Lib.hid (Bw.layX_nil f level)
  obtain ⟨W0, hW0⟩ : ∃ W0, w.alloc (.cells #[.int .i64 0, .int .u64 0, .slice none 0 0, .slice none 0 0, .slice none 0 0] 51) = W0 := ⟨_, rfl⟩
  have hB0 : Below w.heap.size w W0 := by rw [<- hW0]; exact gB3
  have hrb : W0.heap[w.heap.size]? = some (.cells #[.int .i64 0, .int .u64 0, .slice none 0 0, .slice none 0 0, .slice none 0 0] 51 (0, 0)) := by rw [<- hW0]; exact heap_alloc_new _ _
  obtain ⟨⟨z0, z1, z2, z3, z4⟩, y0, y1, y2, y3, y4⟩ := five_cells' hrb
  have HRB := Lib.hid hrb
  have HB0 := Lib.hid hB0
  have HW0 := Lib.hid hW0
  clear hr hrb hB0 hW0
  simp only [List.length_nil]
  go_enter Tryz.func38, Tryz.ntmps38
  go_wp2_with fail
  rw [HW0.out]
  go_wp2
  refine bodyPost_ret (v := .agg #[.int .i64 0, .int .u64 0, .slice none 0 0, .slice none 0 0, .slice none 0 0]) (by simp [results, Tryz.results38, go_sem, z0, z1, z2, z3, z4]) rfl ⟨_, rfl, ⟨[.int .i64 0, .int .u64 0, .slice none 0 0, .slice none 0 0, .slice none 0 0], rfl, ?_⟩, HB0.out⟩
  rw [HX.out]
  exact xK_zero
theorem rlay_any : ∀ (f level : Nat) (l : List Bw.En) (ok : Nat -> Prop) (v : Value) (w : World), level + f = 13 -> l.length <= 1048576 -> (∀ e ∈ l, e.2.1.length <= 1048576 /\ e.2.2.length <= 1048576) -> (∀ e ∈ l, e.1 < 18446744073709551616) -> (∃ r, ∀ e ∈ l, e.1 % 32 ^ level = r) -> SensAt ok w v l ->
    Calls Tryz.prog 38 #[v, .int .i64 (level : Nat)] w (Gives w (LayTold w (Bw.layX f level l))) := by
  intro f
  induction f with
  | zero =>
    intro level l ok v w hf hl hby hhb hpre hr
    by_cases hne : l = []
    · subst hne; exact lay_nil hr
    · refine lay_flat hne hl hby hhb hr fun x hx => ?_
      obtain ⟨r, hpre⟩ := hpre
      have hm := List.getElem_mem (List.length_pos_iff.2 hne)
      have : level = 13 := by omega
      subst this
      exact Bw.hash_end (hhb x hx) (hhb _ hm) ((hpre x hx).trans (hpre _ hm).symm)
  | succ f ih =>
    intro level l ok v w hf hl hby hhb hpre hr
    by_cases hne : l = []
    · subst hne; exact lay_nil hr
    · by_cases hs : ∀ x ∈ l, x.1 = (l[0]'(List.length_pos_iff.2 hne)).1
      · exact lay_flat hne hl hby hhb hr hs
      · obtain ⟨r, hpre⟩ := hpre
        have hs' : ∃ x ∈ l, x.1 ≠ (l[0]'(List.length_pos_iff.2 hne)).1 := by
          simpa only [Classical.not_forall, exists_prop] using hs
        refine lay_split hne hl hby hhb hr (by omega) hs' fun c ok' v' w' _ hr' => ?_
        rw [show (level : Int) + 1 = ((level + 1 : Nat) : Int) by omega]
        have hsub : ∀ e ∈ Bw.partOf level c l, e ∈ l /\ Bw.chunkAt e.1 level = c := fun e he => Bw.mem_partOf.1 he
        exact ih (level + 1) _ ok' v' w' (by omega) (Nat.le_trans (List.length_filter_le _ _) hl) (fun e he => hby e (hsub e he).1) (fun e he => hhb e (hsub e he).1) ⟨r + 32 ^ level * c, fun e he => by rw [Bw.mod_chunk, hpre e (hsub e he).1, (hsub e he).2]⟩ hr'
end Go.Proofs.YtadaoceidkagfaaGreatDoor
