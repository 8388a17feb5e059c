
import Derived.Test.YtehkjnmnbplcoaaDoorHigh
import Derived.Test.YtehkjnmnbplcoaaDoorBound
import Derived.Deep.RegionHeld3
import Derived.Deep.DrawnRows
namespace Go.Proofs.YtehkjnmnbplcoaaDoor
open Go.RowKit Go.Bw

attribute [local go_sem ↓] Go.wp_at_zero Go.wp_at_succ

theorem LookTold.below {w w' : World} {u : Value} {b : Bool} {r : Option Bw.Bytes} (h : LookTold w u b r) (hB : Below w.heap.size w w') : LookTold w' u b r := by
  cases r with
  | none => exact h
  | some x => exact ⟨h.1, h.2.move goodByte (Moves.below hB)⟩

/-- what is told, as a string -/
theorem look_conv {w : World} {u : Value} {b : Bool} {r : Option Bw.Bytes} (h : LookTold w u b r) : b = r.isSome ∧ (∃ A n c, u = .slice A n c) ∧ (convert 29 9 u).run Tryd.prog w = .ok (.string ⟨(r.getD []).toArray⟩) w := by
  cases r with
  | none =>
    obtain ⟨rfl, rfl⟩ := h
    exact ⟨rfl, ⟨_, _, _, rfl⟩, run_conv (P := Tryd.prog) (l := []) (ok := AllB) 29 9 5 Tryd.underlying29 Tryd.underlying5 Tryd.underlying9 RowAt.nil⟩
  | some x =>
    obtain ⟨rfl, hx⟩ := h
    obtain ⟨A, c, rfl⟩ := hx.form
    exact ⟨rfl, ⟨_, _, _, rfl⟩, run_conv (P := Tryd.prog) 29 9 5 Tryd.underlying29 Tryd.underlying5 Tryd.underlying9 hx⟩

set_option maxRecDepth 100000 in
set_option maxHeartbeats 1000000 in
theorem findmeters_any {l : List Bw.En} {key : Bw.Bytes} {v kv : Value} {n : Nat} {w : World} (hr : EntsAt AllB w v l) (hh : ∀ e ∈ l, e.1 < 18446744073709551616) (hn : n < 18446744073709551616) (hkv : BytesAt AllB w kv key) (hT : Tab w) :
    Calls Tryd.prog 11 #[v, .int .u64 (n : Nat), kv] w fun e w' => e = .returned (.bool true) ∧ Below w.heap.size w w' := by
  have CS := Lib.hid (small17_any 60 (by decide) hr)
  obtain ⟨A, c, rfl⟩ := hr.form
  obtain ⟨KA, ck, rfl⟩ := hkv.form
  have CAW := Lib.hid (fun (W : World) (hW : Below w.heap.size w W) => awake18_any W (hT.below hT.pos hW))
  cases hsm : smallE l 60 with
  | false =>
    rw [hsm] at CS
    clear hr hT hh hkv
    go_enter Tryd.func11, Tryd.ntmps11
    go_wp2_with fail
    refine CS.out.mono ?_
    rintro e w1 ⟨rfl, hb1⟩
    go_wp2_with fail
    refine (CAW.out _ hb1).mono ?_
    rintro e w2 ⟨rfl, hb2⟩
    go_wp2
    go_ret
    exact ⟨rfl, hb1.trans (hb2.mono hb1.size)⟩
  | true =>
    rw [hsm] at CS
    by_cases hkl : key.length ≤ 60
    · have hgt : decide ((60 : Int) < (key.length : Int)) = false := by rw [decide_eq_false_iff_not]; omega
      have hgt2 : ¬ ((60 : Int) < (key.length : Int)) := by omega
      have hE := smallE_ok (by decide) hsm hh
      have hl60 := (smallE_bounds hsm).1
      have hr0 : EntsAt (fun k => k < w.heap.size) w (.slice A l.length c) l := hr.move goodEnt (Moves.weaken fun k _ h => h)
      have hk0 : BytesAt (fun k => k < w.heap.size) w (.slice KA key.length ck) key := hkv.move goodByte (Moves.weaken fun k _ h => h)
      have CO := Lib.hid (fun (W : World) (hW : Below w.heap.size w W) => lof_any hE (hr0.move (ok' := fun k => k < w.heap.size) goodEnt (fun k hk _ => ⟨hk, hW.block k hk⟩)) (hT.below hT.pos hW))
      have CCM := Lib.hid (fun (W : World) (hW : Below w.heap.size w W) => lcome_any (Nat.le_trans hE.len (by decide)) hE.bytes (hr0.move (ok' := fun k => k < w.heap.size) goodEnt (fun k hk _ => ⟨hk, hW.block k hk⟩)))
      have CR := Lib.hid (fun (W : World) (hW : Below w.heap.size w W) => ref17_any (Nat.le_trans hE.len (by decide)) (hr0.move (ok' := fun k => k < w.heap.size) goodEnt (fun k hk _ => ⟨hk, hW.block k hk⟩)))
      have CC := Lib.hid (fun (W : World) (q : Value) (h : SensAt AllB W q l) => rcomeE_any (Nat.le_trans hE.len (by decide)) h)
      have CL := Lib.hid (fun (W : World) (q : Value) (h : SensAt AllB W q (Bw.lasts l)) => rlay_any 13 0 (Bw.lasts l) AllB q W rfl hE.lay.len hE.lay.bytes hE.lay.hash hE.lay.res h)
      rw [ofO_abs hE] at CL
      have CE := Lib.hid (fun (ok : Nat → Prop) (cs : List Value) (W : World) (hx : xK ok W (Bw.absO (Bw.ofO l)) cs) => rend_any hn 13 0 (Bw.ofO l) (Bw.lasts l) ok cs W hE.lay hE.lays hx)
      unfold EndSays at CE
      have CG := Lib.hid (fun (ok : Nat → Prop) (mv : Value) (cc : Nat × Nat) (mb : Option Nat) (W : World) (u : Value) (hW : ∀ k, k < w.heap.size → W.heap[k]? = w.heap[k]?) (h1 : ONodeAt nt ok W u (Bw.ofO l)) (hm : MeterAt W mv cc mb) (h2 : ∀ k, ok k → some k ≠ mb) (h3 : ∀ k, k < w.heap.size → some k ≠ mb) (hc : cc.1 < 1000000000 ∧ cc.2 < 1000000000) => fget_any (c := cc) (mb := mb) (mv := mv) (h := n) hE.lay hE.lays h1 (hk0.move (ok' := fun k => k < w.heap.size) goodByte (fun k hk _ => ⟨hk, hW k hk⟩)) hm h2 h3 hc)
      obtain ⟨d', f', l', hL', hO', hnb⟩ := fway_lays n 13 0 (Bw.ofO l) (Bw.lasts l) hE.lay hE.lays
      have hfx : ∀ m, (Bw.wayO 13 (Bw.ofO l) n 0).1 = some m → m.fit := fun m e => hL'.fit (e ▸ hO')
      have HEC := Lib.hid (costEnd_is hO' hnb n key)
      have HD : Hid ((Bw.wayO 13 (Bw.ofO l) n 0).2 ≤ 13) := Lib.hid (wayO_le n 13 0 _)
      have hmx : manyO (Bw.wayO 13 (Bw.ofO l) n 0).1 ≤ (Bw.lasts l).length := Nat.le_trans (way_count n 13 0 _) (Nat.le_of_eq (ofO_count hE))
      have HCB : Hid (∀ L : Nat, ((Bw.lasts l).length + 1) ^ 6 < 2 ^ L → (Bw.costEnd (Bw.wayO 13 (Bw.ofO l) n 0).1 n key).1 ≤ L) := Lib.hid fun L hL => costEnd_bound hfx n key hmx hL
      have HLB : Hid ((Bw.lasts l).length ≤ 60) := Lib.hid (Nat.le_trans (lasts_len l) hl60)
      clear hr hr0 hk0 hkv hT hsm hE hh hfx hL' hO' hnb hmx hl60
      have CBD : Hid (∀ W : World, Calls Tryd.prog 38 #[.int .i64 ((Bw.lasts l).length : Nat)] W fun e w' => ∃ B : Nat, e = .returned (.int .i64 (B : Nat)) ∧ (Bw.wayO 13 (Bw.ofO l) n 0).2 + (Bw.costEnd (Bw.wayO 13 (Bw.ofO l) n 0).1 n key).1 ≤ B ∧ Below W.heap.size W w') := Lib.hid fun W =>
        (rbound_any (n := (Bw.lasts l).length) (w := W) (Nat.le_trans HLB.out (by decide))).mono fun e w' ⟨L, he, hL, _, hb⟩ => ⟨16 + L, he, by have h1 := HCB.out L hL; have h2 := HD.out; clear hL; omega, hb⟩
      clear HCB
      generalize Bw.lasts l = m at *
      generalize Bw.ofO l = o at *
      generalize hxx : (Bw.wayO 13 o n 0).1 = x at *
      generalize hDD : (Bw.wayO 13 o n 0).2 = D at *
      rcases hxm : Bw.absO x with ⟨kx, gx, px, sx, nx⟩
      rw [hxm] at CE HEC
      simp only [Bw.X.kind, Bw.X.hash] at HEC
      clear hxm hxx hDD
      generalize Bw.lookEnd x n key = r at *
      rcases hco : Bw.costEnd x n key with ⟨cv, cc⟩
      rw [hco] at HEC CG CBD
      dsimp only at HEC CG CBD
      clear hco
      go_enter Tryd.func11, Tryd.ntmps11
      go_wp2_with fail
      refine CS.out.mono ?_
      rintro e w1 ⟨rfl, hb1⟩
      have CO1 := Lib.hid (CO.out w1 hb1)
      have HB1 := Lib.hid hb1
      clear hb1
      go_wp2_with fail
      refine CO1.out.mono ?_
      rintro e w2 ⟨nv, rfl, hnv, hb2⟩
      have HB2 := Lib.hid (HB1.out.trans (hb2.mono HB1.out.size))
      have CR2 := Lib.hid (CR.out w2 HB2.out)
      have HN : Hid (ONodeAt nt (fun k => k < w2.heap.size) w2 nv o) := Lib.hid (hnv.move (Moves.weaken fun _ _ h => h))
      clear hb2 hnv
      go_wp2_with fail
      refine CR2.out.mono ?_
      rintro e w3 ⟨q3, rfl, hq3, hb3⟩
      have CC3 := Lib.hid (CC.out w3 _ hq3)
      have HB3 := Lib.hid hb3
      clear hq3 hb3
      go_wp2_with fail
      refine CC3.out.mono ?_
      rintro e w4 ⟨q4, rfl, hq4, hb4⟩
      have CL4 := Lib.hid (CL.out w4 _ hq4)
      have HB4 := Lib.hid (HB3.out.trans (hb4.mono HB3.out.size))
      clear hq4 hb4
      go_wp2_with fail
      refine CL4.out.mono ?_
      rintro e w5 ⟨r5, rfl, ⟨cs5, rfl, hx5⟩, hb5⟩
      have CE5 := Lib.hid (CE.out _ cs5 w5 hx5)
      have HB5 := Lib.hid (HB4.out.trans (hb5.mono HB4.out.size))
      clear hx5 hb5
      go_wp2_with fail
      refine CE5.out.mono ?_
      rintro e w6 ⟨cs6, rfl, hx6, hb6⟩
      obtain ⟨vp6, vs6, vk6, rfl, hp6, hs6, hk6⟩ := xK_iff.1 hx6
      obtain ⟨P6, cp6, rfl⟩ := hp6.form
      obtain ⟨S6, cs6', rfl⟩ := hs6.form
      obtain ⟨K6, ck6, rfl⟩ := hk6.form
      have hb26 : Below w2.heap.size w2 w6 := HB5.out.trans (hb6.mono HB5.out.size)
      obtain ⟨W7, hW7⟩ : ∃ W7, w6.alloc (.cells #[.int .i64 (kx : Nat), .int .u64 (gx : Nat), .slice P6 px.length cp6, .slice S6 sx.length cs6', .slice K6 nx.length ck6] 45) = W7 := ⟨_, rfl⟩
      have hb67 : Below w6.heap.size w6 W7 := by rw [← hW7]; exact (Below.refl _ _).alloc (Nat.le_refl _) _
      have hb27 := hb26.trans (hb67.mono hb26.size)
      have hs7 : w6.heap.size < W7.heap.size := by rw [← hW7]; simp
      have m0 : W7.cell? ⟨w6.heap.size, 0, none⟩ = some (.int .i64 (kx : Nat)) := by rw [← hW7]; exact cell_new w6 0 _ _ 0 _ rfl
      have m1 : W7.cell? ⟨w6.heap.size, 1, none⟩ = some (.int .u64 (gx : Nat)) := by rw [← hW7]; exact cell_new w6 0 _ _ 1 _ rfl
      obtain ⟨W8, hW8⟩ : ∃ W8, W7.alloc (.cells #[.int .i64 0, .int .i64 0] 84) = W8 := ⟨_, rfl⟩
      have hb78 : Below W7.heap.size W7 W8 := by rw [← hW8]; exact (Below.refl _ _).alloc (Nat.le_refl _) _
      have hs8 : W7.heap.size < W8.heap.size := by rw [← hW8]; simp
      have hm8 : MeterAt W8 (.pointer (some ⟨W7.heap.size, 0, none⟩)) (0, 0) (some W7.heap.size) := by
        rw [← hW8]
        exact ⟨rfl, cell_new W7 0 _ _ 0 _ rfl, cell_new W7 0 _ _ 1 _ rfl, by simp only [World.frozen?, heap_alloc_new]; rfl, by simp only [World.frozen?, heap_alloc_new]; rfl⟩
      have hb28 := hb27.trans (hb78.mono hb27.size)
      have hs27 := hb27.size
      have hsw := HB2.out.size
      have hB8 := HB2.out.trans (hb28.mono HB2.out.size)
      have CG8 := Lib.hid (CG.out (fun k => k < w2.heap.size) _ _ _ W8 nv (fun k hk => hB8.block k hk) (HN.out.move (Moves.below hb28)) hm8 (fun k hk e => by injection e with e; omega) (fun k hk e => by injection e with e; omega) ⟨by decide, by decide⟩)
      have HM := Lib.hid (And.intro m0 m1)
      have HW7 := Lib.hid hW7; have HW8 := Lib.hid hW8
      have HB28 := Lib.hid hb28; have HB8 := Lib.hid hB8; have HS78 := Lib.hid hs8; have HS67 := Lib.hid hs7; have HB78 := Lib.hid hb78; have HSW := Lib.hid hsw; have HS27 := Lib.hid hs27
      clear hx6 hb6 hp6 hs6 hk6 hb26 hb67 hb27 hW7 hW8 hb78 hb28 hB8 hm8 hs8 hs7 m0 m1 hsw hs27
      go_wp2_with (first | (rw [HW7.out]) | (rw [HW8.out]))
      refine CG8.out.mono ?_
      rintro e w9 ⟨u9, b9, rfl, hl9, hm9, hT9⟩
      have hb89 : Below W7.heap.size W7 w9 := HB78.out.grown hT9 HB78.out.size (fun k e => by injection e with e; omega)
      have hb29 : Below w2.heap.size w2 w9 := HB28.out.grown hT9 HB28.out.size (fun k e => by injection e with e; have := HS27.out; omega)
      have HB29 := Lib.hid hb29
      have HB9 := Lib.hid (HB2.out.trans (hb29.mono HB2.out.size))
      have HB79 := Lib.hid hb89
      have hm9' : MeterAt w9 (.pointer (some ⟨W7.heap.size, 0, none⟩)) (D + cv, cc) (some W7.heap.size) := by rw [Nat.zero_add, Nat.zero_add] at hm9; exact hm9
      have CG9 := Lib.hid (CG.out (fun k => k < w2.heap.size) (.pointer none) (0, 0) none w9 nv (fun k hk => HB9.out.block k hk) (HN.out.move (Moves.below hb29)) rfl (fun k hk e => by cases e) (fun k hk e => by cases e) ⟨by decide, by decide⟩)
      have HL9 := Lib.hid hl9; have HM9 := Lib.hid hm9'
      have HS98 := Lib.hid hT9.size
      clear hb89 hb29 hm9 hm9' hl9 hT9
      obtain ⟨-, ⟨U9, n9, c9, rfl⟩, -⟩ := look_conv HL9.out
      go_wp2_with fail
      refine CG9.out.mono ?_
      rintro e w10 ⟨u10, b10, rfl, hl10, -, hT10⟩
      have hb10 := hT10.below
      obtain ⟨rfl, ⟨U10, n10, c10, rfl⟩, -⟩ := look_conv hl10
      obtain ⟨rfl, -, -⟩ := look_conv HL9.out
      have HB210 := Lib.hid (HB29.out.trans (hb10.mono HB29.out.size))
      have HB10 := Lib.hid (HB2.out.trans (HB210.out.mono HB2.out.size))
      have hr10 : Below w10.heap.size w10 w10.drew := by (repeat (first | exact Below.refl _ _ | with_reducible assumption | refine Below.drew ?_ | (refine Below.alloc ?_ (by simp) _) | (refine Below.alloc ?_ (by simp; omega) _)))
      obtain ⟨V, hV⟩ : ∃ V, D + cv = V := ⟨_, rfl⟩
      rw [hV] at HM9 CBD
      have HV := Lib.hid hV
      clear hV
      have HVC : Hid (cc ≤ V) := Lib.hid (by have h1 : cc ≤ cv := HEC.out.less; have h2 := HV.out; omega)
      have g3 : ¬ ((V : Int) < (cc : Int)) := by have := HVC.out; omega
      have g4 := decide_eq_false g3
      have g6 : decide (V < cc) = false := decide_eq_false (Nat.not_lt.2 HVC.out)
      have HM10 := Lib.hid (HM9.out.below hb10)
      have HB79b := Lib.hid (HB79.out.trans (hb10.mono HB79.out.size))
      have QK : Hid (∀ W, Below w10.heap.size w10 W → W.cell? ⟨W7.heap.size, 0, none⟩ = some (.int .i64 (V : Int)) ∧ W.cell? ⟨W7.heap.size, 1, none⟩ = some (.int .i64 (cc : Int)) ∧ (convert 29 9 (.slice U9 n9 c9)).run Tryd.prog W = .ok (.string ⟨(r.getD []).toArray⟩) W ∧ (convert 29 9 (.slice U10 n10 c10)).run Tryd.prog W = .ok (.string ⟨(r.getD []).toArray⟩) W) := Lib.hid fun W hW => by
        obtain ⟨-, k0, k1, -, -⟩ := HM10.out.below hW
        exact ⟨k0, k1, (look_conv (HL9.out.below (hb10.trans (hW.mono hb10.size)))).2.2, (look_conv (hl10.below hW)).2.2⟩
      obtain ⟨k0, k1, p1, p2⟩ := QK.out _ hr10
      generalize r.getD [] = rs at *
      generalize r.isSome = rb at *
      have hs910 := hb10.size
      clear hl10 hT10 hb10
      go_wp2_with fail
      have hbb : W7.heap.size < w10.heap.size := Nat.lt_of_lt_of_le HS78.out (Nat.le_trans HS98.out hs910)
      go_region_held3 (fun w' => w'.cell? ⟨W7.heap.size, 0, none⟩ = some (.int .i64 (V : Int)) ∧ w'.cell? ⟨W7.heap.size, 1, none⟩ = some (.int .i64 (cc : Int)) ∧ (convert 29 9 (.slice U9 n9 c9)).run Tryd.prog w' = .ok (.string ⟨rs.toArray⟩) w' ∧ (convert 29 9 (.slice U10 n10 c10)).run Tryd.prog w' = .ok (.string ⟨rs.toArray⟩) w') (first | with_reducible exact QK.out _ hw12 | with_reducible exact QK.out _ hw11 | with_reducible exact QK.out _ hr10)
        (first
          | (go_at_call 27; (with_reducible refine (CCM.out _ (HB10.out.trans (Below.mono (by (repeat (first | exact Below.refl _ _ | with_reducible assumption | refine Below.drew ?_ | (refine Below.alloc ?_ (by simp) _) | (refine Below.alloc ?_ (by simp; omega) _)))) HB10.out.size))).mono ?_); rintro e w11 ⟨q11, rfl, hq11, hb11⟩; obtain ⟨A11, c11, rfl⟩ := (hq11.row goodEnt).form; have hw11 : Below w10.heap.size w10 w11 := Below.trans (b := w10.drew) (by (repeat (first | exact Below.refl _ _ | with_reducible assumption | refine Below.drew ?_ | (refine Below.alloc ?_ (by simp) _) | (refine Below.alloc ?_ (by simp; omega) _)))) hb11)
          | (go_at_call 38; (with_reducible refine (CBD.out _).mono ?_); rintro e w12 ⟨B12, rfl, hB12, hb12⟩; have hw12 : Below w10.heap.size w10 w12 := hw11.trans (hb12.mono hw11.size); obtain ⟨z0, z1, -, -⟩ := QK.out _ hw12; have g1 : ¬ ((B12 : Int) < (V : Int)) := Int.not_lt.2 (Int.ofNat_le.2 hB12); have g2 := decide_eq_false g1; have g5 : decide (B12 < V) = false := decide_eq_false (Nat.not_lt.2 hB12)))
      all_goals have hF12 : Below w.heap.size w w12 := HB10.out.trans (hw12.mono HB10.out.size)
      all_goals have h712 := HB79b.out.trans (hw12.mono HB79b.out.size)
      all_goals have x0 : w12.cell? ⟨w6.heap.size, 0, none⟩ = some (.int .i64 (kx : Nat)) := (h712.cell (p := ⟨w6.heap.size, 0, none⟩) HS67.out).trans HM.out.1
      all_goals have x1 : w12.cell? ⟨w6.heap.size, 1, none⟩ = some (.int .u64 (gx : Nat)) := (h712.cell (p := ⟨w6.heap.size, 1, none⟩) HS67.out).trans HM.out.2
      all_goals have DA := Lib.hid (CAW.out w12 hF12)
      all_goals have HF := Lib.hid hF12
      all_goals clear hF12 h712 hw12 hb12 hw11 hb11 k0 k1 HM CG8 CG9 CBD CCM CAW p1 p2 hq11 hB12 HM9 HM10 HL9
      all_goals
       (rcases HEC.out.kind with rfl | rfl | rfl
        · have x0' : w12.cell? ⟨w6.heap.size, 0, none⟩ = some (.int .i64 0) := x0
          clear x0
          have hc := HEC.out.none (by decide) (.inl rfl)
          simp only [Prod.mk.injEq] at hc
          obtain ⟨rfl, rfl⟩ := hc
          obtain rfl : V = D := by have := HV.out; omega
          have heq := fun w => eqMeter (V : Int) 0 w
          clear HEC
          go_wp2_with (go_at_call 35; refine DA.out.mono ?_; rintro e w13 ⟨rfl, hb13⟩)
          go_ret
          exact ⟨rfl, HF.out.trans (hb13.mono HF.out.size)⟩
        · have x0' : w12.cell? ⟨w6.heap.size, 0, none⟩ = some (.int .i64 1) := x0
          clear x0
          have hc := HEC.out.leaf rfl
          have wd : wrap64 ((D : Int) + 1) = (D : Int) + 1 := by have := HD.out; exact IntWalk.wrap64_in _ (by omega)
          by_cases hg : gx = n
          · subst hg
            rw [if_pos rfl] at hc
            simp only [Prod.mk.injEq] at hc
            obtain ⟨rfl, rfl⟩ := hc
            obtain rfl : V = D + 1 := HV.out.symm
            have heq := fun w => eqMeter ((D : Int) + 1) 1 w
            clear HEC
            go_wp2_with (go_at_call 35; refine DA.out.mono ?_; rintro e w13 ⟨rfl, hb13⟩)
            go_ret
            exact ⟨rfl, HF.out.trans (hb13.mono HF.out.size)⟩
          · rw [if_neg hg] at hc
            have hgn : ((gx : Int) == (n : Int)) = false := by rw [beq_eq_false_iff_ne]; omega
            simp only [Prod.mk.injEq] at hc
            obtain ⟨rfl, rfl⟩ := hc
            obtain rfl : V = D + 1 := HV.out.symm
            have heq := fun w => eqMeter ((D : Int) + 1) 0 w
            clear HEC
            go_wp2_with (go_at_call 35; refine DA.out.mono ?_; rintro e w13 ⟨rfl, hb13⟩)
            go_ret
            exact ⟨rfl, HF.out.trans (hb13.mono HF.out.size)⟩
        · have x0' : w12.cell? ⟨w6.heap.size, 0, none⟩ = some (.int .i64 2) := x0
          clear x0
          by_cases hg : gx = n
          · have hc := HEC.out.bucket rfl hg
            have hc' : 0 < cv := hc
            have g7 : D < V := by have := HV.out; omega
            have g8 : decide (D < V) = true := decide_eq_true g7
            have g9 : (D : Int) < (V : Int) := Int.ofNat_lt.2 g7
            subst hg
            clear HEC
            go_wp2_with (go_at_call 35; refine DA.out.mono ?_; rintro e w13 ⟨rfl, hb13⟩)
            go_ret
            exact ⟨rfl, HF.out.trans (hb13.mono HF.out.size)⟩
          · have hgn : ((gx : Int) != (n : Int)) = true := by rw [bne_iff_ne]; omega
            have hc := HEC.out.none (by decide) (.inr hg)
            simp only [Prod.mk.injEq] at hc
            obtain ⟨rfl, rfl⟩ := hc
            obtain rfl : V = D := by have := HV.out; omega
            have heq := fun w => eqMeter (V : Int) 0 w
            clear HEC
            go_wp2_with (go_at_call 35; refine DA.out.mono ?_; rintro e w13 ⟨rfl, hb13⟩)
            go_ret
            exact ⟨rfl, HF.out.trans (hb13.mono HF.out.size)⟩)
    · have hgt : decide ((60 : Int) < (key.length : Int)) = true := by rw [decide_eq_true_iff]; omega
      have hgt2 : (60 : Int) < (key.length : Int) := by omega
      clear hr hT hh hkv
      go_enter Tryd.func11, Tryd.ntmps11
      go_wp2_with fail
      refine CS.out.mono ?_
      rintro e w1 ⟨rfl, hb1⟩
      go_wp2_with fail
      refine (CAW.out _ hb1).mono ?_
      rintro e w2 ⟨rfl, hb2⟩
      go_wp2
      go_ret
      exact ⟨rfl, hb1.trans (hb2.mono hb1.size)⟩
end Go.Proofs.YtehkjnmnbplcoaaDoor
