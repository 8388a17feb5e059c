
import Derived.Test.YtadaoceidkagfaaGreatDoorLawA
import Derived.Test.YtadaoceidkagfaaGreatDoorRefA
import Derived.Test.YtadaoceidkagfaaGreatDoorLSameA
import Derived.Deep.RegionLaw
import Derived.Deep.RegionHeld3
import Derived.BigQuiet
import Derived.Deep.QuietTactic
/- brushwoodref17: Count, Shape. -/
namespace Go.Proofs.YtadaoceidkagfaaGreatDoor
open Go.RowKit Go.Bw
theorem count_absN (n : Bw.N) : n.abs.count = n.count := by
  refine Bw.N.ind (P := fun n => n.abs.count = n.count) ?_ ?_ ?_ n
  · intro h p; simp [Bw.N.abs, Bw.X.count, Bw.X.countL, Bw.N.count]
  · intro h t; simp [Bw.N.abs, Bw.X.count, Bw.X.countL, Bw.N.count, Bw.T.length_list]
  · intro m kids ih
    simp only [Bw.N.abs, Bw.X.count, Bw.N.count, List.length_nil, Nat.zero_add]
    induction kids with
    | nil => rfl
    | cons k r ihr => simp only [Bw.N.absL, Bw.X.countL, Bw.N.countL]; rw [ih k (by simp), ihr fun k hk => ih k (by simp [hk])]
set_option maxRecDepth 100000 in
set_option maxHeartbeats 400000 in
theorem xcount_step {ok : Nat -> Prop} {k h : Nat} {ps : List Bw.PV} {set : List Nat} {kids : List Bw.X} {cs : List Value} {w : World} (hx : xK ok w (.mk k h ps set kids) cs) (hc : Bw.X.count (.mk k h ps set kids) <= 4611686018427387904)
    (ih : ∀ y ∈ kids, ∀ cs W, xK ok W y cs -> Calls Tryz.prog 46 #[.agg cs.toArray] W fun e w' => e = .returned (.int .i64 (y.count : Nat)) /\ Below W.heap.size W w') :
    Calls Tryz.prog 46 #[.agg cs.toArray] w fun e w' => e = .returned (.int .i64 (Bw.X.count (.mk k h ps set kids) : Nat)) /\ Below w.heap.size w w' := by
  rw [xK_iff] at hx
  obtain ⟨vp, vs, vk, rfl, hp, hs, hk⟩ := hx
  obtain ⟨A1, c1, rfl⟩ := hp.form
  obtain ⟨A2, c2, rfl⟩ := hs.form
  obtain ⟨A3, c3, rfl⟩ := hk.form
  have HK := Lib.hid hk
  have HC := Lib.hid hc
  have HIH := Lib.hid ih
  have HMX : Hid (kids.length <= maxLen) := Lib.hid (Nat.le_trans hk.cap.2.1 hk.cap.2.2)
  have hB0 : Below w.heap.size w (w.alloc (.cells #[.int .i64 (k : Nat), .int .u64 (h : Nat), .slice A1 ps.length c1, .slice A2 set.length c2, .slice A3 kids.length c3] 51)) := by exact gB2
  have H0 : Hid (CountRel ps.length kids w (.int .i64 (ps.length : Nat)) (.int .i64 0) (w.alloc (.cells #[.int .i64 (k : Nat), .int .u64 (h : Nat), .slice A1 ps.length c1, .slice A2 set.length c2, .slice A3 kids.length c3] 51))) := Lib.hid ⟨0, Nat.zero_le _, rfl, by simp [Bw.X.countL], hB0⟩
  clear hk hc ih hp hs hB0
  go_enter Tryz.func46, Tryz.ntmps46
  go_wp2_with fail
  go_loopw [3, 12] (CountRel ps.length kids w) (fun _ i _ => kids.length - (intOf i).toNat)
  case atStart => exact H0.out
  case round =>
    obtain ⟨j, hj, rfl, rfl, hB⟩ := hrel
    by_cases hlt : j < kids.length
    · obtain ⟨b, o, cs, rfl, hy, hcells⟩ := HK.out.get (List.getElem?_eq_getElem hlt)
      have hmem : kids[j] ∈ kids := List.getElem_mem hlt
      have hs : kids.take (j + 1) = kids.take j ++ [kids[j]] := take_succ_snoc hlt
      have hct := Bw.X.countL_take kids (j + 1)
      have hct2 := Bw.X.countL_mem hmem
      have CI := fun W (hW : Below w.heap.size w W) => HIH.out _ hmem cs W (XAt.move (Moves.below hW) _ _ hy)
      generalize kids[j] = y at *
      obtain ⟨yk, yh, yp, ys, yy⟩ := y
      rw [xK_iff] at hy
      obtain ⟨yvp, yvs, yvk, rfl, h1, h2, h3⟩ := hy
      obtain ⟨B1, e1, rfl⟩ := h1.form
      obtain ⟨B2, e2, rfl⟩ := h2.form
      obtain ⟨B3, e3, rfl⟩ := h3.form
      have c0 := (hcells 0 _ rfl).2; have c1 := (hcells 1 _ rfl).2; have c2 := (hcells 2 _ rfl).2; have c3 := (hcells 3 _ rfl).2; have c4 := (hcells 4 _ rfl).2
      have hbl := World.block_lt_of_cell? w _ c0
      dsimp only at hbl
      have d0 := (hB.cell (p := ⟨b, o + (j * 5 + 0), none⟩) hbl).trans c0
      have d1 := (hB.cell (p := ⟨b, o + (j * 5 + 1), none⟩) hbl).trans c1
      have d2 := (hB.cell (p := ⟨b, o + (j * 5 + 2), none⟩) hbl).trans c2
      have d3 := (hB.cell (p := ⟨b, o + (j * 5 + 3), none⟩) hbl).trans c3
      have d4 := (hB.cell (p := ⟨b, o + (j * 5 + 4), none⟩) hbl).trans c4
      simp only [Nat.add_zero, <- Nat.add_assoc] at d0 d1 d2 d3 d4
      have hbl2 : b < wr.heap.size := Nat.lt_of_lt_of_le hbl hB.size
      have h0 : (0 : Int) <= (j : Int) := by omega
      have h1' : (j : Int) < (kids.length : Int) := by omega
      have hcl : Bw.X.countL (kids.take (j + 1)) = Bw.X.countL (kids.take j) + Bw.X.count (.mk yk yh yp ys yy) := by rw [hs, Bw.X.countL_append]; simp [Bw.X.countL]
      have HCL := Lib.hid hcl
      have HCI := Lib.hid CI
      have HB := Lib.hid hB
      have hle : ps.length + Bw.X.countL (kids.take (j + 1)) <= 4611686018427387904 := by have := HC.out; simp only [Bw.X.count] at this; omega
      have hw : wrap64 (((ps.length : Nat) : Int) + ((Bw.X.countL (kids.take j) : Nat) : Int) + ((Bw.X.count (.mk yk yh yp ys yy) : Nat) : Int)) = ((ps.length + Bw.X.countL (kids.take (j + 1)) : Nat) : Int) := by unfold wrap64; omega
      have HW := Lib.hid hw
      generalize Bw.X.count (.mk yk yh yp ys yy) = yc at *
      clear h1 h2 h3 c0 c1 c2 c3 c4 hcells CI hs hct hct2 hcl hmem hle hB hw
      go_wp2_with fail
      refine (HCI.out _ (HB.out.trans (Below.mono (by exact gB2) HB.out.size))).mono ?_
      rintro e w2 ⟨rfl, hb2⟩
      have HB2 := Lib.hid (HB.out.trans (Below.mono (Below.trans (b := wr.alloc (.cells #[.int .i64 (yk : Nat), .int .u64 (yh : Nat), .slice B1 yp.length e1, .slice B2 ys.length e2, .slice B3 yy.length e3] 51)) (by exact gB2) (hb2.mono (by simp))) HB.out.size))
      clear hb2
      go_wp2
      exact ⟨⟨j + 1, hlt, int_succM hlt HMX.out, by rw [HW.out], HB2.out⟩, less_succM hlt HMX.out⟩
    · obtain rfl : j = kids.length := by omega
      have HE : Hid (ps.length + Bw.X.countL (kids.take kids.length) = Bw.X.count (.mk k h ps set kids)) := Lib.hid (by rw [List.take_length]; simp [Bw.X.count])
      clear hlt
      go_wp2
      go_ret
      exact ⟨by rw [<- HE.out]; rfl, hB⟩
theorem xcount_any {ok : Nat -> Prop} (x : Bw.X) : ∀ (cs : List Value) (w : World), xK ok w x cs -> x.count <= 4611686018427387904 ->
    Calls Tryz.prog 46 #[.agg cs.toArray] w fun e w' => e = .returned (.int .i64 (x.count : Nat)) /\ Below w.heap.size w w' := by
  refine Bw.X.ind (P := fun x => ∀ (cs : List Value) (w : World), xK ok w x cs -> x.count <= 4611686018427387904 ->
    Calls Tryz.prog 46 #[.agg cs.toArray] w fun e w' => e = .returned (.int .i64 (x.count : Nat)) /\ Below w.heap.size w w') ?_ x
  intro k h p s kids ih cs w hx hc
  refine xcount_step hx hc fun y hy cs W hyx => ih y hy cs W hyx ?_
  have := Bw.X.countL_mem hy
  simp only [Bw.X.count] at hc
  omega
theorem infoRSpot : (Tryz.prog.info? 105).map (fun i => (i.zero, i.size, i.bytes)) = some (some (.agg #[.int .i64 0, .int .i64 0, .int .u64 0, .int .u32 0, .int .i64 0]), 5, 40) := by kernel_rfl
theorem own_first {α : Type} {e sz : Nat} {d : Knd α} {ok : Nat -> Prop} {w : World} {base : Nat} {x : α} {cs : List Value} (hd : _root_.Go.Bw.Good sz d) (hok : ok w.heap.size) (hb : base <= w.heap.size)
    (hx : d (fun k => ok k /\ k ≠ w.heap.size) (w.alloc (.cells cs.toArray e)) x cs) :
    OwnAt e sz d ok (w.alloc (.cells cs.toArray e)) base (.slice (some ⟨w.heap.size, 0, none⟩) 1 1) [x] := by
  have hl := hd.len hx
  refine ⟨fun k h => by simp [Value.ownBlock] at h; exact h ▸ hok, cs, ⟨by simp [hl], .inr ⟨w.heap.size, 1, cs.toArray, rfl, hb, heap_alloc_new w _, Nat.le_refl _, by decide, by simp [hl], by simp [<- hl]⟩⟩, ?_⟩
  refine Reps.one (hd.move (Moves.weaken fun k hk _ => ⟨hk.1, fun e => hk.2 ?_⟩) hx) hl
  simp only [Value.ownBlock] at e
  injection e
theorem wp_rspapp {rest : List Oper} {a : Act} {Q : Exit -> Act -> World -> Prop} {o : Oper} {ops : Array Oper} {w0 w : World} {s x : Nat} {v : Value} {xs ys : List Bw.Spot} {base m c b o' : Nat} {ok2 : Nat -> Prop}
    (hgd : o.guard = none) (ho : o.op = .call { callee := .builtin .append, args := #[.tmp s, .tmp x], argTypes := #[67, 67] })
    (hs : a.eval (.tmp s) = v) (hown : OwnAt 105 5 spotK (fun k => w0.heap.size <= k) w base v xs)
    (hx : a.eval (.tmp x) = .slice (some ⟨b, o', none⟩) m c) (hm : ys.length = m) (hr : SpotsAt ok2 w (.slice (some ⟨b, o', none⟩) m c) ys) (hw : w0.heap.size <= w.heap.size) (hl : xs.length + m <= 1099511627776) (hbase : base <= w.heap.size)
    (h : ∀ v' w', OwnAt 105 5 spotK (fun k => w0.heap.size <= k) w' base v' (xs ++ ys) -> Below base w w' -> wpList Tryz.prog ops Q rest (a.put o.dst v') w') :
    wpList Tryz.prog ops Q (o :: rest) a w := by
  obtain ⟨i0, hi, hz0, hz1, hz2⟩ := info_parts infoRSpot
  subst hm
  obtain ⟨news, hreps, hc⟩ := RowAt.news_all goodSpot hr
  exact wp_app goodSpot hgd (.tmp s) (.tmp x) 67 ho base 105 i0 _ 40 Tryz.underlying67 hi hz0 hz1 hz2 rfl (by decide) v xs hs hown ⟨b, o', none⟩ _ c ys news hx rfl (fun j u hj => by rw [add_none]; exact (hc j u hj).2) (hreps.imp fun x c h => h) (fun k hk => Nat.le_trans hw hk) (by omega) (by decide) hbase
    fun v' w' h1 h2 _ => h v' w' h1 ((Below.refl base w).grown h2 hbase (fun k hk => (hown.lt k hk).1))
def ShRel (s0 : Bw.Spot) (lv : Nat) (kids : List Bw.N) (w : World) (v i : Value) (wr : World) : Prop :=
  ∃ j : Nat, j <= kids.length /\ i = .int .i64 (j : Nat) /\ OwnAt 105 5 spotK (fun k => w.heap.size <= k) wr w.heap.size v (s0 :: Bw.spotsOf (Bw.N.visitsL (lv + 1) (kids.take j))) /\ Below w.heap.size w wr
theorem visits_some (n : Bw.N) (lv : Nat) : 0 < (Bw.spotsOf (n.visits lv)).length := by cases n <;> simp [Bw.N.visits, Bw.spotsOf]
theorem bits_none : Bw.bitsOf 0 = [] := by decide
def ShapeAns (ok : Nat -> Prop) (n : Bw.N) : Prop := ∀ (lv : Nat) (cs : List Value) (w : World), xK ok w n.abs cs -> n.thin -> n.count <= 1099511627776 -> (Bw.spotsOf (n.visits lv)).length <= 1048576 -> lv + (Bw.spotsOf (n.visits lv)).length <= 1099511627776 ->
    Calls Tryz.prog 23 #[.agg cs.toArray, .int .i64 (lv : Nat)] w (Gives w fun r w' => SpotsAt (fun k => w.heap.size <= k) w' r (Bw.spotsOf (n.visits lv)))
set_option maxRecDepth 100000 in
set_option maxHeartbeats 1000000 in
theorem rshape_step {ok : Nat -> Prop} {k h m lv : Nat} {ps : List Bw.PV} {kids : List Bw.N} {cs : List Value} {w : World} (hk : k ≠ 0) (hm : m < 4294967296) (hth : ∀ y ∈ kids, y.thin) (hcnt : Bw.X.count (.mk k h ps (Bw.bitsOf m) (Bw.N.absL kids)) <= 1099511627776)
    (hlen : (Bw.spotsOf (Bw.N.visitsL (lv + 1) kids)).length + 1 <= 1048576) (hlv : lv + 1 + (Bw.spotsOf (Bw.N.visitsL (lv + 1) kids)).length <= 1099511627776) (hx : xK ok w (.mk k h ps (Bw.bitsOf m) (Bw.N.absL kids)) cs) (ih : ∀ y ∈ kids, ShapeAns ok y) :
    Calls Tryz.prog 23 #[.agg cs.toArray, .int .i64 (lv : Nat)] w (Gives w fun r w' => SpotsAt (fun k => w.heap.size <= k) w' r ((lv, k, h, m, Bw.X.count (.mk k h ps (Bw.bitsOf m) (Bw.N.absL kids))) :: Bw.spotsOf (Bw.N.visitsL (lv + 1) kids))) := by
  have CCN := Lib.hid (fun W (hW : Below w.heap.size w W) => xcount_any (ok := ok) _ cs W (XAt.move (Moves.below hW) _ _ hx) (Nat.le_trans hcnt (by decide)))
  rw [xK_iff] at hx
  obtain ⟨vp, vs, vk, rfl, h1, h2, h3⟩ := hx
  have CNB := Lib.hid (fun W (hW : Below w.heap.size w W) => rnumber_any hm (h2.move goodNat (Moves.below hW)))
  obtain ⟨A1, c1, rfl⟩ := h1.form
  obtain ⟨A2, c2, rfl⟩ := h2.form
  obtain ⟨A3, c3, rfl⟩ := h3.form
  have hll : (Bw.N.absL kids).length = kids.length := by rw [Bw.N.absL_eq, List.length_map]
  have HMX : Hid (kids.length <= maxLen) := Lib.hid (by rw [<- hll]; exact Nat.le_trans h3.cap.2.1 h3.cap.2.2)
  rw [hll] at h3 CCN ⊢
  have HK := Lib.hid h3
  have HIH := Lib.hid ih; have HTH := Lib.hid hth
  have HCC : Hid (∀ y ∈ kids, y.count <= 1099511627776) := Lib.hid fun y hy => by
    have h1 : y.abs ∈ Bw.N.absL kids := by rw [Bw.N.absL_eq]; exact List.mem_map_of_mem hy
    have h2 := Bw.X.countL_mem h1
    rw [count_absN] at h2
    simp only [Bw.X.count] at hcnt
    omega
  generalize Bw.X.count (.mk k h ps (Bw.bitsOf m) (Bw.N.absL kids)) = cnt at *
  generalize Bw.bitsOf m = set at *
  have hk0 : ((k : Int) == 0) = false := by rw [beq_eq_false_iff_ne]; omega
  obtain ⟨W1, hW1⟩ : ∃ W1, w.alloc (.cells #[.int .i64 (k : Nat), .int .u64 (h : Nat), .slice A1 ps.length c1, .slice A2 set.length c2, .slice A3 kids.length c3] 51) = W1 := ⟨_, rfl⟩
  have hB1 : Below w.heap.size w W1 := by rw [<- hW1]; exact gB2
  have hs1 : w.heap.size < W1.heap.size := by rw [<- hW1]; simp
  have x0 : W1.cell? ⟨w.heap.size, 0, none⟩ = some (.int .i64 (k : Nat)) := by rw [<- hW1]; exact cell_new w 0 _ _ 0 _ rfl
  have x1 : W1.cell? ⟨w.heap.size, 1, none⟩ = some (.int .u64 (h : Nat)) := by rw [<- hW1]; exact cell_new w 0 _ _ 1 _ rfl
  have x2 : W1.cell? ⟨w.heap.size, 2, none⟩ = some (.slice A1 ps.length c1) := by rw [<- hW1]; exact cell_new w 0 _ _ 2 _ rfl
  have x3 : W1.cell? ⟨w.heap.size, 3, none⟩ = some (.slice A2 set.length c2) := by rw [<- hW1]; exact cell_new w 0 _ _ 3 _ rfl
  have x4 : W1.cell? ⟨w.heap.size, 4, none⟩ = some (.slice A3 kids.length c3) := by rw [<- hW1]; exact cell_new w 0 _ _ 4 _ rfl
  have SK : Hid (∀ W, Below W1.heap.size W1 W -> W.cell? ⟨w.heap.size, 0, none⟩ = some (.int .i64 (k : Nat)) /\ W.cell? ⟨w.heap.size, 1, none⟩ = some (.int .u64 (h : Nat)) /\ W.cell? ⟨w.heap.size, 2, none⟩ = some (.slice A1 ps.length c1) /\ W.cell? ⟨w.heap.size, 3, none⟩ = some (.slice A2 set.length c2) /\ W.cell? ⟨w.heap.size, 4, none⟩ = some (.slice A3 kids.length c3)) := Lib.hid fun W hW =>
    ⟨(hW.cell (p := ⟨w.heap.size, 0, none⟩) hs1).trans x0, (hW.cell (p := ⟨w.heap.size, 1, none⟩) hs1).trans x1, (hW.cell (p := ⟨w.heap.size, 2, none⟩) hs1).trans x2, (hW.cell (p := ⟨w.heap.size, 3, none⟩) hs1).trans x3, (hW.cell (p := ⟨w.heap.size, 4, none⟩) hs1).trans x4⟩
  have HW1 := Lib.hid hW1; have HB1 := Lib.hid hB1; have HS1 := Lib.hid hs1
  clear h1 h2 h3 hm hth hcnt ih hW1 hB1 hs1 hk
  go_enter Tryz.func23, Tryz.ntmps23
  have hB1 := HB1.out
  go_wp2_with (rw [HW1.out])
  have hd1 : Below W1.heap.size W1 W1.drew := (Below.refl _ _).drew
  obtain ⟨s0, s1, s2, s3, s4⟩ := SK.out _ hd1
  go_region_held3 (fun W => W.cell? ⟨w.heap.size, 0, none⟩ = some (.int .i64 (k : Nat)) /\ W.cell? ⟨w.heap.size, 1, none⟩ = some (.int .u64 (h : Nat)) /\ W.cell? ⟨w.heap.size, 2, none⟩ = some (.slice A1 ps.length c1) /\ W.cell? ⟨w.heap.size, 3, none⟩ = some (.slice A2 set.length c2) /\ W.cell? ⟨w.heap.size, 4, none⟩ = some (.slice A3 kids.length c3))
    (first | with_reducible exact SK.out _ hw2 | with_reducible exact SK.out _ (Below.alloc hw2 hw2.size _) | with_reducible exact SK.out _ hd1)
    (first
      | (go_at_call 35; (with_reducible refine (CNB.out _ (by exact gB1)).mono ?_); rintro e w1 ⟨rfl, rfl⟩)
      | (go_at_call 46; (with_reducible refine (CCN.out _ (by exact gB1)).mono ?_); rintro e w2 ⟨rfl, hb2⟩; have hw2 : Below W1.heap.size W1 w2 := Below.trans (b := W1.drew) (by exact gB1) hb2))
  have z4 := (SK.out w2 hw2).2.2.2.2
  have hB2 := HB1.out.trans (hw2.mono HB1.out.size)
  obtain ⟨W3, hW3⟩ : ∃ W3, w2.alloc (.cells #[.int .i64 (lv : Nat), .int .i64 (k : Nat), .int .u64 (h : Nat), .int .u32 (m : Nat), .int .i64 (cnt : Nat)] 105) = W3 := ⟨_, rfl⟩
  have hb3 : Below w2.heap.size w2 W3 := by rw [<- hW3]; exact (Below.refl _ _).alloc (Nat.le_refl _) _
  have y4 : W3.cell? ⟨w.heap.size, 4, none⟩ = some (.slice A3 kids.length c3) := (hb3.cell (p := ⟨w.heap.size, 4, none⟩) (Nat.lt_of_lt_of_le HS1.out hw2.size)).trans z4
  have hB3 := hB2.trans (hb3.mono hB2.size)
  have H0 : Hid (ShRel (lv, k, h, m, cnt) lv kids w (.slice (some ⟨w2.heap.size, 0, none⟩) 1 1) (.int .i64 0) W3) := Lib.hid ⟨0, Nat.zero_le _, rfl, by
    rw [<- hW3]
    exact own_first (cs := encSpot (lv, k, h, m, cnt)) goodSpot hB2.size hB2.size rfl, hB3⟩
  have HW3 := Lib.hid hW3
  clear hb2 hw2 hb3 hB2 hB3 hW3 hd1 s0 s1 s2 s3 s4 z4
  go_wp2_with (rw [HW3.out])
  go_loopw [5, 26] (ShRel (lv, k, h, m, cnt) lv kids w) (fun _ i _ => kids.length - (intOf i).toNat)
  case atStart => exact H0.out
  case round =>
    obtain ⟨j, hj, rfl, hown, hB⟩ := hrel
    by_cases hlt : j < kids.length
    · have hxj : (Bw.N.absL kids)[j]? = some (kids[j]).abs := by rw [Bw.N.absL_eq, List.getElem?_map, List.getElem?_eq_getElem hlt]; rfl
      obtain ⟨b, o, cs, rfl, hy, hcells⟩ := HK.out.get hxj
      have hmem : kids[j] ∈ kids := List.getElem_mem hlt
      have hs : Bw.spotsOf (Bw.N.visitsL (lv + 1) (kids.take (j + 1))) = Bw.spotsOf (Bw.N.visitsL (lv + 1) (kids.take j)) ++ Bw.spotsOf ((kids[j]).visits (lv + 1)) := by
        rw [take_succ_snoc hlt, Bw.N.visitsL_append, Bw.spotsOf_append]
        simp [Bw.N.visitsL]
      have hle : (Bw.spotsOf (Bw.N.visitsL (lv + 1) (kids.take j))).length + (Bw.spotsOf ((kids[j]).visits (lv + 1))).length <= (Bw.spotsOf (Bw.N.visitsL (lv + 1) kids)).length := by
        rw [<- List.length_append, <- hs]
        conv => rhs; rw [<- List.take_append_drop (j + 1) kids, Bw.N.visitsL_append, Bw.spotsOf_append, List.length_append]
        omega
      have hne := visits_some kids[j] (lv + 1)
      have CI := fun W (hW : Below w.heap.size w W) => HIH.out _ hmem (lv + 1) cs W (XAt.move (Moves.below hW) _ _ hy) (HTH.out _ hmem) (HCC.out _ hmem) (by omega) (by omega)
      have hlw : wrap64 ((lv : Int) + 1) = ((lv + 1 : Nat) : Int) := IntWalk.wrap64_in _ (by omega)
      generalize Bw.spotsOf ((kids[j]).visits (lv + 1)) = sk at *
      generalize (kids[j]).abs = y at *
      obtain ⟨yk, yh, yp, ys, yy⟩ := y
      rw [xK_iff] at hy
      obtain ⟨yvp, yvs, yvk, rfl, h1, h2, h3⟩ := hy
      obtain ⟨B1, e1, rfl⟩ := h1.form
      obtain ⟨B2, e2, rfl⟩ := h2.form
      obtain ⟨B3, e3, rfl⟩ := h3.form
      have c0 := (hcells 0 _ rfl).2; have c1 := (hcells 1 _ rfl).2; have c2 := (hcells 2 _ rfl).2; have c3 := (hcells 3 _ rfl).2; have c4 := (hcells 4 _ rfl).2
      have hbl := World.block_lt_of_cell? w _ c0
      dsimp only at hbl
      have d0 := (hB.cell (p := ⟨b, o + (j * 5 + 0), none⟩) hbl).trans c0
      have d1 := (hB.cell (p := ⟨b, o + (j * 5 + 1), none⟩) hbl).trans c1
      have d2 := (hB.cell (p := ⟨b, o + (j * 5 + 2), none⟩) hbl).trans c2
      have d3 := (hB.cell (p := ⟨b, o + (j * 5 + 3), none⟩) hbl).trans c3
      have d4 := (hB.cell (p := ⟨b, o + (j * 5 + 4), none⟩) hbl).trans c4
      simp only [Nat.add_zero, <- Nat.add_assoc] at d0 d1 d2 d3 d4
      have hbl2 : b < wr.heap.size := Nat.lt_of_lt_of_le hbl hB.size
      have h0 : (0 : Int) <= (j : Int) := by omega
      have h1' : (j : Int) < (kids.length : Int) := by omega
      have HCI := Lib.hid CI
      have HB := Lib.hid hB
      have HOWN := Lib.hid hown
      have HS := Lib.hid hs
      have HLEN : Hid ((((lv, k, h, m, cnt) : Bw.Spot) :: Bw.spotsOf (Bw.N.visitsL (lv + 1) (kids.take j))).length + sk.length <= 1099511627776) := Lib.hid (by rw [List.length_cons]; omega)
      have HNE := Lib.hid hne
      have HLW := Lib.hid hlw
      clear h1 h2 h3 c0 c1 c2 c3 c4 hcells CI hs hmem hB hown hle hne hxj hlw
      go_wp2_with fail
      try rw [HLW.out]
      refine (HCI.out _ (HB.out.trans (Below.mono (by exact gB2) HB.out.size))).mono ?_
      rintro e w4 ⟨r, rfl, hr, hb4⟩
      have hb5 : Below wr.heap.size wr w4 := Below.trans (b := wr.alloc (.cells #[.int .i64 (yk : Nat), .int .u64 (yh : Nat), .slice B1 yp.length e1, .slice B2 ys.length e2, .slice B3 yy.length e3] 51)) (by exact gB2) (hb4.mono (by simp))
      have HB4 := Lib.hid (HB.out.trans (hb5.mono HB.out.size))
      have HO4 := Lib.hid (HOWN.out.move (ok' := fun k => w.heap.size <= k) goodSpot (Moves.below hb5))
      obtain ⟨AR, cr, rfl⟩ := hr.form
      obtain ⟨b9, o9, rfl, -⟩ := spot_get hr (List.getElem?_eq_getElem HNE.out)
      have HR := Lib.hid hr
      clear hb4 hb5 hr
      go_wp2_with (at_builtin; go_loud (refine wp_rspapp rfl rfl rfl HO4.out rfl rfl HR.out HB4.out.size HLEN.out HB4.out.size ?_; intro v3 w5 hown5 hb5))
      exact ⟨⟨j + 1, hlt, int_succM hlt HMX.out, by rw [HS.out]; exact hown5, HB4.out.trans hb5⟩, less_succM hlt HMX.out⟩
    · obtain rfl : j = kids.length := by omega
      rw [List.take_length] at hown
      have HOWN := Lib.hid hown
      clear hown
      go_wp2
      go_ret
      exact ⟨_, rfl, HOWN.out.row goodSpot, hB⟩
theorem rshape_any (ok : Nat -> Prop) (n : Bw.N) : ShapeAns ok n := by
  refine Bw.N.ind (P := ShapeAns ok) ?_ ?_ ?_ n
  · intro h p lv cs w hx _ _ _ hv
    have hx' : xK ok w (.mk 1 h [p] (Bw.bitsOf 0) (Bw.N.absL [])) cs := by rw [bits_none]; exact hx
    have := rshape_step (lv := lv) (by decide) (by decide) (fun y hy => by simp at hy) (by simp [Bw.X.count, Bw.N.absL, Bw.X.countL]) (by simp [Bw.N.visitsL, Bw.spotsOf]) (by simp [Bw.N.visitsL, Bw.spotsOf]; simp [Bw.N.visits, Bw.spotsOf] at hv; omega) hx' (fun y hy => by simp at hy)
    simpa [Bw.X.count, Bw.N.absL, Bw.X.countL, Bw.N.visitsL, Bw.spotsOf, Bw.N.visits, Bw.N.spot] using this
  · intro h t lv cs w hx _ hc _ hv
    have hx' : xK ok w (.mk 2 h t.list (Bw.bitsOf 0) (Bw.N.absL [])) cs := by rw [bits_none]; exact hx
    have := rshape_step (lv := lv) (by decide) (by decide) (fun y hy => by simp at hy) (by simp [Bw.X.count, Bw.N.absL, Bw.X.countL, Bw.T.length_list]; exact hc) (by simp [Bw.N.visitsL, Bw.spotsOf]) (by simp [Bw.N.visitsL, Bw.spotsOf]; simp [Bw.N.visits, Bw.spotsOf] at hv; omega) hx' (fun y hy => by simp at hy)
    simpa [Bw.X.count, Bw.N.absL, Bw.X.countL, Bw.N.visitsL, Bw.spotsOf, Bw.N.visits, Bw.N.spot, Bw.T.length_list] using this
  · intro m kids ih lv cs w hx hth hc hl hv
    have e : Bw.spotsOf ((Bw.N.branch m kids).visits lv) = (lv, 3, 0, m, Bw.N.countL kids) :: Bw.spotsOf (Bw.N.visitsL (lv + 1) kids) := rfl
    have ec : Bw.X.count (.mk 3 0 [] (Bw.bitsOf m) (Bw.N.absL kids)) = Bw.N.countL kids := count_absN (.branch m kids)
    rw [e] at hl hv ⊢
    rw [List.length_cons] at hl hv
    simp only [Bw.N.thin, Bw.N.thinL_iff] at hth
    have := rshape_step (lv := lv) (h := 0) (ps := []) (by decide) hth.1 hth.2 (by rw [ec]; exact hc) hl (by omega) hx ih
    rw [ec] at this
    exact this
set_option maxRecDepth 100000 in
set_option maxHeartbeats 1000000 in
theorem rshapeO_any {ok : Nat -> Prop} {o : Option Bw.N} {cs : List Value} {w : World} (hx : xK ok w (Bw.absO o) cs) (hth : ∀ n, o = some n -> n.thin /\ n.count <= 1099511627776) (hl : (Bw.spotsOf (Bw.visitsO 0 o)).length <= 1048576) :
    Calls Tryz.prog 23 #[.agg cs.toArray, .int .i64 0] w (Gives w fun r w' => SpotsAt (fun k => w.heap.size <= k) w' r (Bw.spotsOf (Bw.visitsO 0 o))) := by
  cases o with
  | some n => exact rshape_any ok n 0 cs w hx (hth n rfl).1 (hth n rfl).2 hl (by simp only [Bw.visitsO] at hl; omega)
  | none =>
    obtain ⟨vp, vs, vk, rfl, h1, h2, h3⟩ := xK_iff.1 hx
    obtain ⟨A1, c1, rfl⟩ := h1.form
    obtain ⟨A2, c2, rfl⟩ := h2.form
    obtain ⟨A3, c3, rfl⟩ := h3.form
    clear hx h1 h2 h3 hth hl
    go_enter Tryz.func23, Tryz.ntmps23
    go_wp2
    go_ret
    exact ⟨_, rfl, RowAt.nil, by exact gB2⟩
end Go.Proofs.YtadaoceidkagfaaGreatDoor
/- law17.Shaped: where a node has just the document's shape. -/
namespace Go.Proofs.YtadaoceidkagfaaGreatDoor
open Go.RowKit Go.Bw
def ShapedRel (n : Nat) (w : World) (i : Value) (wr : World) : Prop := ∃ j : Nat, j <= n /\ i = .int .i64 (j : Nat) /\ Below w.heap.size w wr
set_option maxRecDepth 100000 in
set_option maxHeartbeats 1000000 in
theorem shaped_any {ok ok' : Nat -> Prop} {nv q : Value} {o : Option Bw.N} {w : World} (hn : ONodeAt nt ok w nv o) (hS : ∀ n, o = some n -> Slim n) (hT : Tab w) (hq : SpotsAt ok' w q (Bw.spotsOf (Bw.visitsO 0 o))) :
    Calls Tryz.prog 22 #[nv, q] w fun e w' => e = .returned (.bool true) /\ Below w.heap.size w w' := by
  have CS := Lib.hid (shape_any hn hS hT)
  have hl := (slim_len hS).1
  generalize Bw.spotsOf (Bw.visitsO 0 o) = s at *
  obtain ⟨Q, cq, rfl⟩ := hq.form
  have HQ := Lib.hid hq
  have HL := Lib.hid hl
  rcases onodeL_form hn with rfl | ⟨ta, ba, rfl⟩ <;> clear hn hS hT hq hl
  all_goals go_enter Tryz.func22, Tryz.ntmps22
  all_goals go_wp2_with fail
  all_goals refine CS.out.mono ?_
  all_goals rintro e w1 ⟨q1, rfl, hq1, hb1⟩
  all_goals obtain ⟨Q1, c1, rfl⟩ := hq1.form
  all_goals have HQ1 := Lib.hid hq1
  all_goals have HB1 := Lib.hid hb1
  all_goals have H0 : Hid (ShapedRel s.length w1 (.int .i64 0) w1) := Lib.hid ⟨0, Nat.zero_le _, rfl, Below.refl _ _⟩
  all_goals clear hq1 hb1
  all_goals go_wp2_with fail
  all_goals go_loopw [17] (ShapedRel s.length w1) (fun i _ => s.length - (intOf i).toNat)
  case atStart => exact H0.out
  case atStart => exact H0.out
  all_goals obtain ⟨j, hj, rfl, hB⟩ := hrel
  all_goals by_cases hlt : j < s.length
  case pos | pos =>
    obtain ⟨b, o, rfl, c0, c1, c2, c3, c4⟩ := spot_get HQ1.out (List.getElem?_eq_getElem hlt)
    obtain ⟨b', o', rfl, y0, y1, y2, y3, y4⟩ := spot_get HQ.out (List.getElem?_eq_getElem hlt)
    generalize s[j] = x at *
    obtain ⟨xl, xk, xh, xm, xc⟩ := x
    dsimp only at *
    have hbl := World.block_lt_of_cell? _ _ c0
    have hbl' := World.block_lt_of_cell? _ _ y0
    dsimp only at hbl hbl'
    have hwr := HB1.out.trans (hB.mono HB1.out.size)
    have d0 := (hB.cell (p := ⟨b, o + j * 5, none⟩) hbl).trans c0
    have d1 := (hB.cell (p := ⟨b, o + j * 5 + 1, none⟩) hbl).trans c1
    have d2 := (hB.cell (p := ⟨b, o + j * 5 + 2, none⟩) hbl).trans c2
    have d3 := (hB.cell (p := ⟨b, o + j * 5 + 3, none⟩) hbl).trans c3
    have d4 := (hB.cell (p := ⟨b, o + j * 5 + 4, none⟩) hbl).trans c4
    have hb2 : b < wr.heap.size := Nat.lt_of_lt_of_le hbl hB.size
    have h0 : (0 : Int) <= (j : Int) := by omega
    have h1 : (j : Int) < (s.length : Int) := by omega
    obtain ⟨W2, hW2⟩ : ∃ W2, wr.alloc (.cells #[.int .i64 (xl : Nat), .int .i64 (xk : Nat), .int .u64 (xh : Nat), .int .u32 (xm : Nat), .int .i64 (xc : Nat)] 101) = W2 := ⟨_, rfl⟩
    have hb2' : Below wr.heap.size wr W2 := by rw [<- hW2]; exact (Below.refl _ _).alloc (Nat.le_refl _) _
    have n0 : W2.cell? ⟨wr.heap.size, 0, none⟩ = some (.int .i64 (xl : Nat)) := by rw [<- hW2]; exact cell_new wr 0 _ _ 0 _ rfl
    have n1 : W2.cell? ⟨wr.heap.size, 1, none⟩ = some (.int .i64 (xk : Nat)) := by rw [<- hW2]; exact cell_new wr 0 _ _ 1 _ rfl
    have n2 : W2.cell? ⟨wr.heap.size, 2, none⟩ = some (.int .u64 (xh : Nat)) := by rw [<- hW2]; exact cell_new wr 0 _ _ 2 _ rfl
    have n3 : W2.cell? ⟨wr.heap.size, 3, none⟩ = some (.int .u32 (xm : Nat)) := by rw [<- hW2]; exact cell_new wr 0 _ _ 3 _ rfl
    have n4 : W2.cell? ⟨wr.heap.size, 4, none⟩ = some (.int .i64 (xc : Nat)) := by rw [<- hW2]; exact cell_new wr 0 _ _ 4 _ rfl
    have hw2 := hwr.trans (hb2'.mono hwr.size)
    have z0 := (hw2.cell (p := ⟨b', o' + j * 5, none⟩) hbl').trans y0
    have z1 := (hw2.cell (p := ⟨b', o' + j * 5 + 1, none⟩) hbl').trans y1
    have z2 := (hw2.cell (p := ⟨b', o' + j * 5 + 2, none⟩) hbl').trans y2
    have z3 := (hw2.cell (p := ⟨b', o' + j * 5 + 3, none⟩) hbl').trans y3
    have z4 := (hw2.cell (p := ⟨b', o' + j * 5 + 4, none⟩) hbl').trans y4
    have HF := Lib.hid (hB.trans (hb2'.mono hB.size))
    have HW2 := Lib.hid hW2
    clear c0 c1 c2 c3 c4 y0 y1 y2 y3 y4 hbl hbl' hwr hw2 hB hb2' hW2
    go_wp2_with (rw [HW2.out])
    go_big_quiet (fail)
    go_wp2
    exact ⟨⟨j + 1, hlt, int_succ hlt HL.out, b_drewN HF.out _⟩, less_succ hlt HL.out⟩
  case neg | neg =>
    obtain rfl : j = s.length := by omega
    go_wp2
    go_ret
    exact ⟨rfl, HB1.out.trans (hB.mono HB1.out.size)⟩
end Go.Proofs.YtadaoceidkagfaaGreatDoor
