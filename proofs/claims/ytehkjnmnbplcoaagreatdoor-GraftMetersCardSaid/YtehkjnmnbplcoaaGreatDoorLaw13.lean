/- law19.GraftMeters. -/
import Derived.Test.YtehkjnmnbplcoaaGreatDoorGmet
import Derived.Test.YtehkjnmnbplcoaaGreatDoorEnd
import Derived.Test.YtehkjnmnbplcoaaGreatDoorAw18
import Derived.Deep.RegionHeld3
import Derived.Deep.DrawnRows
namespace Go.Proofs.YtehkjnmnbplcoaaGreatDoor
open Go.RowKit Go.Bw

attribute [local go_sem ↓] Go.wp_at_zero Go.wp_at_succ

set_option maxRecDepth 100000 in
set_option maxHeartbeats 4000000 in
theorem graftmeters_any {t : List Nat} {l : List Bw.PV} {tv v : Value} {w : World} (ht : ∀ x ∈ t, x < 18446744073709551616) (hr : PairsAt AllB w v l) (htr : RowAt 1 natK64 AllB w tv t) (hT : Tab w) :
    Calls Tryz.prog 3 #[tv, v] w fun e w' => e = .returned (.bool true) ∧ Below w.heap.size w w' := by
  obtain ⟨A, c, rfl⟩ := hr.form
  obtain ⟨AT, ct, rfl⟩ := htr.form
  have CF := Lib.hid (fine19_any 60 (by decide) htr hr)
  have CA := Lib.hid (fun W (hW : Below w.heap.size w W) => awake19_any W (hT.below hT.pos hW))
  cases hfine : fine19 t l 60 with
  | false =>
    rw [hfine] at CF
    clear hr htr ht hfine hT
    go_enter Tryz.func3, Tryz.ntmps3
    go_wp2_with fail
    refine CF.out.mono ?_
    rintro e w1 ⟨rfl, hb1⟩
    go_wp2_with fail
    refine (CA.out _ hb1).mono ?_
    rintro e w2 ⟨rfl, hb2⟩
    have HB := Lib.hid (hb1.trans (hb2.mono hb1.size))
    clear hb1 hb2
    go_wp2
    go_ret
    exact ⟨rfl, HB.out⟩
  | true =>
    rw [hfine] at CF
    obtain ⟨ht200, hl60, hby⟩ := fine19_parts hfine
    have HL60 := Lib.hid hl60
    have HL : Hid (l.length ≤ 1048576) := Lib.hid (by omega)
    have ht1 : t.length ≤ 1048576 := by omega
    have HM : Hid (∀ k, MapOk (Bw.come (l.take k))) := Lib.hid fun k => mapOk_come (Nat.le_trans (List.length_take_le' _ _) (by omega)) fun p hp => hby p (List.mem_of_mem_take hp)
    have HBY := Lib.hid hby; have HR := Lib.hid hr; have HTR := Lib.hid htr; have HT1 := Lib.hid ht1; have HTT := Lib.hid ht; have HTAB := Lib.hid hT
    clear hr htr ht hfine hT ht200 hl60 hby ht1
    go_enter Tryz.func3, Tryz.ntmps3
    go_wp2_with fail
    refine CF.out.mono ?_
    rintro e w1 ⟨rfl, hb1⟩
    have H0 : Hid (GLoop t l w .nilIface (.slice none 0 0) (.int .i64 0) w1) := Lib.hid ⟨0, none, Nat.zero_le _, rfl, rfl, rfl, RowAt.nil, hb1⟩
    clear hb1
    go_wp2_with fail
    go_loopw [5, 6, 25] (GLoop t l w) (fun _ _ i _ => l.length - (intOf i).toNat)
    case atStart => exact H0.out
    case round =>
      obtain ⟨j, o, hk, rfl, hN, hOL, hMv, hB⟩ := hrel
      by_cases hlt : j < l.length
      · obtain ⟨b, off, u1, u2, rfl, hob, c0, c1, hu, hv⟩ := pair_get HR.out (List.getElem?_eq_getElem hlt)
        obtain ⟨U1, cu1, rfl⟩ := hu.form
        obtain ⟨U2, cu2, rfl⟩ := hv.form
        have hbl := World.block_lt_of_cell? w _ c0
        dsimp only at hbl
        have d0 := (hB.cell (p := ⟨b, off + j * 2, none⟩) hbl).trans c0
        have d1 := (hB.cell (p := ⟨b, off + j * 2 + 1, none⟩) hbl).trans c1
        have hbl2 : b < wr.heap.size := Nat.lt_of_lt_of_le hbl hB.size
        have h0 : (0 : Int) ≤ (j : Int) := by omega
        have h1 : (j : Int) < (l.length : Int) := by omega
        have hq := HBY.out l[j] (List.getElem_mem hlt)
        have hcs : Bw.come (l.take (j + 1)) = Bw.put (Bw.come (l.take j)) l[j] := by rw [take_succ_snoc hlt, come_snoc]
        have hmk := HM.out j
        have hmk1 := HM.out (j + 1)
        have hml : (Bw.come (l.take j)).length ≤ 60 := Nat.le_trans (Bw.length_come _) (Nat.le_trans (List.length_take_le' _ _) HL60.out)
        have hml1 : (Bw.come (l.take (j + 1))).length ≤ 60 := Nat.le_trans (Bw.length_come _) (Nat.le_trans (List.length_take_le' _ _) HL60.out)
        generalize l[j] = q at *
        obtain ⟨qx, qy⟩ := q
        dsimp only at *
        rw [hcs] at hmk1 hml1
        generalize hm : Bw.come (l.take j) = m at *
        obtain ⟨D, cv, cc, X, hPC⟩ := put_cost HTT.out hmk hOL (qx, qy)
        have HPC := Lib.hid hPC
        have HEC := Lib.hid hPC.ends
        have hhl := tabHash_lt HTT.out qx
        obtain ⟨W1, hW1⟩ : ∃ W1, wr.alloc (.cells #[.slice U1 qx.length cu1, .slice U2 qy.length cu2] 31) = W1 := ⟨_, rfl⟩
        have hb1 : Below wr.heap.size wr W1 := by rw [← hW1]; (repeat (first | exact Below.refl _ _ | with_reducible assumption | refine Below.drew ?_ | refine b_drewN ?_ _ | (refine Below.alloc ?_ (by first | omega | (simp <;> omega)) _)))
        have hs1 : wr.heap.size < W1.heap.size := by rw [← hW1]; simp
        have x0 : W1.cell? ⟨wr.heap.size, 0, none⟩ = some (.slice U1 qx.length cu1) := by rw [← hW1]; exact cell_new wr 0 _ _ 0 _ rfl
        have x1 : W1.cell? ⟨wr.heap.size, 1, none⟩ = some (.slice U2 qy.length cu2) := by rw [← hW1]; exact cell_new wr 0 _ _ 1 _ rfl
        have hB1 := hB.trans (hb1.mono hB.size)
        have hBW : ∀ W, Below W1.heap.size W1 W → Below w.heap.size w W := fun W hW => hB1.trans (hW.mono hB1.size)
        have hbW : ∀ W, Below W1.heap.size W1 W → Below wr.heap.size wr W := fun W hW => hb1.trans (hW.mono hb1.size)
        have SK : Hid (∀ W, Below W1.heap.size W1 W → W.cell? ⟨wr.heap.size, 0, none⟩ = some (.slice U1 qx.length cu1) ∧ W.cell? ⟨wr.heap.size, 1, none⟩ = some (.slice U2 qy.length cu2)) := Lib.hid fun W hW => ⟨(hW.cell (p := ⟨wr.heap.size, 0, none⟩) hs1).trans x0, (hW.cell (p := ⟨wr.heap.size, 1, none⟩) hs1).trans x1⟩
        have HQ1 := Lib.hid (fun W (hW : Below W1.heap.size W1 W) => run_conv (P := Tryz.prog) 29 9 5 Tryz.underlying29 Tryz.underlying5 Tryz.underlying9 (hu.move goodByte (Moves.below (hBW W hW))))
        have HQ2 := Lib.hid (fun W (hW : Below W1.heap.size W1 W) => run_conv (P := Tryz.prog) 29 9 5 Tryz.underlying29 Tryz.underlying5 Tryz.underlying9 (hv.move goodByte (Moves.below (hBW W hW))))
        have CU := Lib.hid (fun W (hW : Below W1.heap.size W1 W) => rput_any (px := qx) (py := qy) (Nat.le_trans hmk.len (by decide)) hq.1 (fun q hq => (hmk.bytes q hq).1) (hMv.move goodSp (Moves.below (hbW W hW))) hmk.rises)
        have CH := Lib.hid (fun (W : World) (hW : Below W1.heap.size W1 W) => (thash_any hq.1 HT1.out (HTR.out.move goodNat64 (Moves.below (hBW W hW)))).mono (R' := fun e w' => e = .returned (.int .u64 (Bw.tabHash t qx : Nat)) ∧ Below W.heap.size W w') (fun _ _ h => ⟨h.1, h.2 ▸ Below.refl _ _⟩))
        have CEN := Lib.hid (fun (W : World) (hW : Below W1.heap.size W1 W) => rentries_any HT1.out (HTR.out.move goodNat64 (Moves.below (hBW W hW))) (Nat.le_trans hmk.len (by decide)) (fun p hp => (hmk.bytes p hp).1) ((hMv.move goodSp (Moves.below (hbW W hW))).move (ok' := AllB) goodSp (Moves.weaken fun _ _ _ => trivial)))
        have CLY : Hid (∀ (ok : Nat → Prop) (W : World) (q6 : Value), SensAt ok W q6 (Bw.entries t m) → Calls Tryz.prog 9 #[q6, .int .i64 0] W (Gives W (LayTold W (Bw.absO o)))) := Lib.hid fun ok W q6 hq6 => by
          rw [← olays_abs HTT.out hmk hOL]
          exact rlay_any 13 0 _ _ q6 W rfl (by rw [Bw.length_entries]; exact Nat.le_trans hmk.len (by decide)) hmk.entries (entries_hash HTT.out) ⟨0, fun _ _ => Nat.mod_one _⟩ hq6
        have CEE := Lib.hid (fun (ok : Nat → Prop) (cs : List Value) (W : World) (hx : xK ok W (Bw.absO o) cs) => rend_any hhl 13 0 o _ ok cs W (entries_lay HTT.out hmk) hOL hx)
        unfold EndSays at CEE
        rw [hPC.way, hPC.there] at CEE
        have hN0 := ONodeAt.move (ok' := fun k => k < wr.heap.size) (Moves.weaken fun k _ h => h) hN
        have CP1 := Lib.hid (fun (W : World) (M : Nat) (hW : Below wr.heap.size wr W) (hM : wr.heap.size < M) (hM2 : M < W.heap.size) (hme : MeterAt W (.pointer (some ⟨M, 0, none⟩)) (0, 0) (some M)) => gput_meter (p := (qx, qy)) (M := M) HTT.out hmk hq
          (ONodeAt.move (fun k hk _ => ⟨fun e => by injection e with e; omega, hW.block k hk⟩) hN0) hOL
          ((hu.move (ok' := fun k => k < w.heap.size) goodByte (Moves.weaken fun k _ h => h)).move goodByte fun k hk _ => ⟨fun e => by injection e with e; have := hB.size; omega, (hB.trans (hW.mono hB.size)).block k hk⟩)
          ((hv.move (ok' := fun k => k < w.heap.size) goodByte (Moves.weaken fun k _ h => h)).move goodByte fun k hk _ => ⟨fun e => by injection e with e; have := hB.size; omega, (hB.trans (hW.mono hB.size)).block k hk⟩) hM2 (by omega) hme (HTAB.out.below HTAB.out.pos (hB.trans (hW.mono hB.size))))
        have CP2 := Lib.hid (fun (W : World) (hW : Below W1.heap.size W1 W) => gput_trie (ok := AllB) (okb := AllB) (p := (qx, qy)) HTT.out hmk hq (ONodeAt.move (Moves.below (hbW W hW)) hN) hOL (hu.move goodByte (Moves.below (hBW W hW))) (hv.move goodByte (Moves.below (hBW W hW))) (fun _ _ => trivial) (HTAB.out.below HTAB.out.pos (hBW W hW)))
        have CSM := Lib.hid (fun (W : World) (hW : Below W1.heap.size W1 W) (a b : Value) (na nb : Bw.N) (h1 : NodeAt nt AllB W a na) (h2 : NodeAt nt AllB W b nb) (l1 : Bw.OLays 0 (some na) (Bw.entries t (Bw.put m (qx, qy)))) (l2 : Bw.OLays 0 (some nb) (Bw.entries t (Bw.put m (qx, qy)))) => (lsame_any (a := some na) (b := some nb) h1 h2 (olays_slimM HTT.out hmk1 (Nat.le_trans hml1 (by decide)) l1) (olays_slimM HTT.out hmk1 (Nat.le_trans hml1 (by decide)) l2) (HTAB.out.below HTAB.out.pos (hBW W hW))).mono (R' := fun e w' => e = .returned (.bool true) ∧ Below W.heap.size W w') (fun e w' h => by rw [olays_sameM HTT.out hmk1 l1 l2] at h; exact h))
        have CBD : Hid (∀ W : World, Calls Tryz.prog 13 #[.int .i64 (m.length : Nat)] W fun e w' => ∃ B : Nat, e = .returned (.int .i64 (B : Nat)) ∧ D + cv ≤ B ∧ Below W.heap.size W w') := Lib.hid fun W =>
          (rbound_any (n := m.length) (w := W) (Nat.le_trans hml (by decide))).mono fun e w' ⟨L, he, hL, _, hb⟩ => ⟨16 + L, he, by have h1 := hPC.bound L hL; have h2 := hPC.deep; clear hL; omega, hb⟩
        rw [hPC.cost] at CP1
        have HBW := Lib.hid hBW; have HbW := Lib.hid hbW
        have HLT := Lib.hid hlt
        have HW1 := Lib.hid hW1
        have HMK1 := Lib.hid hmk1
        have HCS := Lib.hid hcs
        have HS1 := Lib.hid hs1
        have HD := Lib.hid hPC.deep
        obtain ⟨AM, cm, rfl⟩ := hMv.form
        have hnf := onode_form hN
        have HMS := Lib.hid hml
        clear HPC
        generalize (Bw.get m qx).isSome = og at *
        obtain ⟨kx, gx, px, sx, nx⟩ := X
        simp only [Bw.X.kind, Bw.X.hash] at HEC
        generalize Bw.tabHash t qx = hh at *
        clear hu hv c0 c1 hb1 hB1 hBW hbW hlt hmk1 hmk hcs hN hOL hMv hB hq H0 CF CA hPC hml hml1 hhl hN0 hm hs1
        simp only [str] at CH
        have hz1 := Below.refl W1.heap.size W1
        obtain ⟨y0, y1⟩ := SK.out W1 hz1
        have q1 := HQ1.out W1 hz1
        go_wp2_with (rw [HW1.out])
        refine (CH.out W1 hz1).mono ?_
        rintro e w2 ⟨rfl, hb2⟩
        have CE2 := Lib.hid (CEN.out w2 hb2)
        have HB12 := Lib.hid hb2
        clear y0 y1 q1 hb2 hz1
        go_wp2_with fail
        refine CE2.out.mono ?_
        rintro e w3 ⟨q3, rfl, hq3, hb3⟩
        have CL3 := Lib.hid (CLY.out _ w3 q3 hq3)
        obtain ⟨A3, c3, rfl⟩ := hq3.form
        have HB13 := Lib.hid (HB12.out.trans (hb3.mono HB12.out.size))
        clear hb3 hq3
        go_wp2_with fail
        refine CL3.out.mono ?_
        rintro e w4 ⟨r4, rfl, ⟨cs4, rfl, hx4⟩, hb4⟩
        have CE4 := Lib.hid (CEE.out _ cs4 w4 hx4)
        have HB14 := Lib.hid (HB13.out.trans (hb4.mono HB13.out.size))
        clear hb4 hx4
        go_wp2_with fail
        refine CE4.out.mono ?_
        rintro e w5 ⟨cs5, rfl, hx5, hb5⟩
        have HB15 := Lib.hid (HB14.out.trans (hb5.mono HB14.out.size))
        obtain ⟨vp5, vs5, vk5, rfl, hp5, hs5, hk5⟩ := xK_iff.1 hx5
        obtain ⟨P5, cp5, rfl⟩ := hp5.form
        obtain ⟨S5, cs5', rfl⟩ := hs5.form
        obtain ⟨K5, ck5, rfl⟩ := hk5.form
        obtain ⟨W6, hW6⟩ : ∃ W6, w5.alloc (.cells #[.int .i64 (kx : Nat), .int .u64 (gx : Nat), .slice P5 px.length cp5, .slice S5 sx.length cs5', .slice K5 nx.length ck5] 37) = W6 := ⟨_, rfl⟩
        have hb56 : Below w5.heap.size w5 W6 := by rw [← hW6]; exact (Below.refl _ _).alloc (Nat.le_refl _) _
        have hs6 : w5.heap.size < W6.heap.size := by rw [← hW6]; simp
        have m0 : W6.cell? ⟨w5.heap.size, 0, none⟩ = some (.int .i64 (kx : Nat)) := by rw [← hW6]; exact cell_new w5 0 _ _ 0 _ rfl
        have m1 : W6.cell? ⟨w5.heap.size, 1, none⟩ = some (.int .u64 (gx : Nat)) := by rw [← hW6]; exact cell_new w5 0 _ _ 1 _ rfl
        have hb16 := HB15.out.trans (hb56.mono HB15.out.size)
        obtain ⟨W7, hW7⟩ : ∃ W7, W6.alloc (.cells #[.int .i64 0, .int .i64 0] 44) = W7 := ⟨_, rfl⟩
        have hb67 : Below W6.heap.size W6 W7 := by rw [← hW7]; exact (Below.refl _ _).alloc (Nat.le_refl _) _
        have hs7 : W6.heap.size < W7.heap.size := by rw [← hW7]; simp
        have hm7 : MeterAt W7 (.pointer (some ⟨W6.heap.size, 0, none⟩)) (0, 0) (some W6.heap.size) := by
          rw [← hW7]
          exact ⟨rfl, cell_new W6 0 _ _ 0 _ rfl, cell_new W6 0 _ _ 1 _ rfl, by simp only [World.frozen?, heap_alloc_new]; rfl, by simp only [World.frozen?, heap_alloc_new]; rfl⟩
        have hb17 := hb16.trans (hb67.mono hb16.size)
        have hs16 := hb16.size
        have CP7 := Lib.hid (CP1.out W7 W6.heap.size (HbW.out W7 hb17) (Nat.lt_of_lt_of_le HS1.out hs16) hs7 hm7)
        obtain ⟨y0, y1⟩ := SK.out W7 hb17
        have HB17 := Lib.hid hb17; have HB67 := Lib.hid hb67; have HSX := Lib.hid hs6; have HXC := Lib.hid (And.intro m0 m1); have HW6 := Lib.hid hW6; have HW7 := Lib.hid hW7; have HS16 := Lib.hid hs16; have HS67 := Lib.hid hs7
        clear hx5 hb5 hp5 hs5 hk5 hb56 hW6 hW7 hs6 m0 m1 hb16 hb67 hs7 hm7 hb17 hs16
        rcases hnf with rfl | ⟨tn, bn, rfl⟩
        all_goals go_wp2_with (first | (rw [HW6.out]) | (rw [HW7.out]))
        all_goals refine CP7.out.mono ?_
        all_goals rintro e w8 ⟨nv8, n8, rfl, hn8, hl8, hm8, hT8⟩
        all_goals obtain ⟨t8, b8, rfl⟩ := hn8.form
        all_goals have HB18 := Lib.hid (HB17.out.grown hT8 HB17.out.size (fun k e => by injection e with e; have := HS16.out; omega))
        all_goals have HB68 := Lib.hid (HB67.out.grown hT8 HB67.out.size (fun k e => by injection e with e; omega))
        all_goals have HN8 := Lib.hid (show ONodeAt nt AllB w8 _ (some n8) from hn8); have HL8 := Lib.hid hl8; have HM8 := Lib.hid hm8
        all_goals have HS78 := Lib.hid hT8.size
        all_goals obtain ⟨y0, y1⟩ := SK.out w8 HB18.out
        all_goals have CP8 := Lib.hid (CP2.out w8 HB18.out)
        all_goals clear hn8 hl8 hm8 hT8
        all_goals go_wp2_with fail
        all_goals refine CP8.out.mono ?_
        all_goals rintro e w9 ⟨nv9, n9, rfl, hn9, hl9, hb9⟩
        all_goals obtain ⟨t9, b9, rfl⟩ := hn9.form
        all_goals have HB19 := Lib.hid (HB18.out.trans (hb9.mono HB18.out.size))
        all_goals have HB89 := Lib.hid hb9
        all_goals have CS9 := Lib.hid (fun (W : World) (hW : Below w9.heap.size w9 W) => CSM.out W (HB19.out.trans (hW.mono HB19.out.size)) _ _ n8 n9 (HN8.out.move (Moves.below (HB89.out.trans (hW.mono HB89.out.size)))) (NodeAt.move (Moves.below hW) _ _ hn9) HL8.out hl9)
        all_goals clear hn9 hl9 hb9 y0 y1
        all_goals obtain ⟨V, hV⟩ : ∃ V, D + cv = V := ⟨_, rfl⟩
        all_goals rw [hV] at HM8 CBD
        all_goals have HV := Lib.hid hV
        all_goals clear hV
        all_goals have HVC : Hid (cc ≤ V) := Lib.hid (by have h1 : cc ≤ cv := HEC.out.less; have h2 := HV.out; omega)
        all_goals have g3 : ¬ ((V : Int) < (cc : Int)) := by have := HVC.out; omega
        all_goals have g4 := decide_eq_false g3
        all_goals have g6 : decide (V < cc) = false := decide_eq_false (Nat.not_lt.2 HVC.out)
        all_goals have g7 : ¬ ((V : Int) < (D : Int)) := by have := HV.out; omega
        all_goals have g8 := decide_eq_false g7
        all_goals have g9 : decide (V < D) = false := decide_eq_false (by have := HV.out; omega)
        all_goals have hr9 : Below w9.heap.size w9 w9.drew := by (repeat (first | exact Below.refl _ _ | with_reducible assumption | refine Below.drew ?_ | (refine Below.alloc ?_ (by simp) _) | (refine Below.alloc ?_ (by simp; omega) _)))
        all_goals have QK : Hid (∀ W, Below w9.heap.size w9 W → W.cell? ⟨W6.heap.size, 0, none⟩ = some (.int .i64 (V : Int)) ∧ W.cell? ⟨W6.heap.size, 1, none⟩ = some (.int .i64 (cc : Int))) := Lib.hid fun W hW => ⟨(HM8.out.below (HB89.out.trans (hW.mono HB89.out.size))).2.1, (HM8.out.below (HB89.out.trans (hW.mono HB89.out.size))).2.2.1⟩
        all_goals obtain ⟨k0, k1⟩ := QK.out _ hr9
        all_goals go_wp2_with fail
        all_goals go_region_held3 (fun w' => w'.cell? ⟨W6.heap.size, 0, none⟩ = some (.int .i64 (V : Int)) ∧ w'.cell? ⟨W6.heap.size, 1, none⟩ = some (.int .i64 (cc : Int))) (first | with_reducible exact QK.out _ hw11 | with_reducible exact QK.out _ hw10 | with_reducible exact QK.out _ hr9)
          (first
            | (go_at_call 12; (with_reducible refine (CS9.out _ hr9).mono ?_); rintro e w10 ⟨rfl, hb10⟩; have hw10 : Below w9.heap.size w9 w10 := Below.trans (b := w9.drew) (by (repeat (first | exact Below.refl _ _ | with_reducible assumption | refine Below.drew ?_ | (refine Below.alloc ?_ (by simp) _) | (refine Below.alloc ?_ (by simp; omega) _)))) hb10)
            | (go_at_call 13; (with_reducible refine (CBD.out _).mono ?_); rintro e w11 ⟨B11, rfl, hB11, hb11⟩; have hw11 : Below w9.heap.size w9 w11 := hw10.trans (hb11.mono hw10.size); have g1 : ¬ ((B11 : Int) < (V : Int)) := Int.not_lt.2 (Int.ofNat_le.2 hB11); have g2 := decide_eq_false g1; have g5 : decide (B11 < V) = false := decide_eq_false (Nat.not_lt.2 hB11)))
        all_goals have HB111 := Lib.hid (HB19.out.trans (hw11.mono HB19.out.size))
        all_goals have HB811 := Lib.hid (HB89.out.trans (hw11.mono HB89.out.size))
        all_goals have h611 := HB68.out.trans (HB811.out.mono HB68.out.size)
        all_goals have x0 : w11.cell? ⟨w5.heap.size, 0, none⟩ = some (.int .i64 (kx : Nat)) := (h611.cell (p := ⟨w5.heap.size, 0, none⟩) HSX.out).trans HXC.out.1
        all_goals have x1 : w11.cell? ⟨w5.heap.size, 1, none⟩ = some (.int .u64 (gx : Nat)) := (h611.cell (p := ⟨w5.heap.size, 1, none⟩) HSX.out).trans HXC.out.2
        all_goals obtain ⟨k0, k1⟩ := QK.out _ hw11
        all_goals have CU11 := Lib.hid (CU.out w11 HB111.out)
        all_goals clear hr9 hw10 hw11 hb10 hb11 hB11 h611 CP7 CP8 CS9 CBD CU CH CEN CLY CEE CP1 CP2 CSM CE2 CL3 CE4 QK
        all_goals
         (rcases HEC.out.kind with rfl | rfl | rfl
          · have x0' : w11.cell? ⟨w5.heap.size, 0, none⟩ = some (.int .i64 0) := x0
            clear x0
            have hc := HEC.out.none (by decide) (.inl rfl)
            simp only [Prod.mk.injEq] at hc
            obtain ⟨rfl, rfl⟩ := hc
            obtain rfl : V = D := by have := HV.out; omega
            have heq := fun w => eqMeter (V : Int) 0 w
            clear HEC
            obtain ⟨y0, y1⟩ := SK.out w11 HB111.out
            have q1 := HQ1.out w11 HB111.out
            have q2 := HQ2.out w11 HB111.out
            go_wp2_with (go_at_call 14; (with_reducible refine CU11.out.mono ?_); rintro e w12 ⟨mv12, rfl, hm12, hb12⟩)
            exact ⟨⟨_, some n8, HLT.out, int_succ HLT.out HL.out, ONodeAt.move (Moves.below (HB811.out.trans (hb12.mono HB811.out.size))) HN8.out, by rw [HCS.out]; exact HL8.out, by rw [HCS.out]; exact hm12.move goodSp (Moves.weaken fun _ _ _ => trivial), (HBW.out w11 HB111.out).trans (hb12.mono (HBW.out w11 HB111.out).size)⟩, less_succ HLT.out HL.out⟩
          · have x0' : w11.cell? ⟨w5.heap.size, 0, none⟩ = some (.int .i64 1) := x0
            clear x0
            have hc := HEC.out.leaf rfl
            have wd : wrap64 ((D : Int) + 1) = (D : Int) + 1 := by have := HD.out; exact IntWalk.wrap64_in _ (by omega)
            by_cases hg : gx = hh
            · subst hg
              rw [if_pos rfl] at hc
              simp only [Prod.mk.injEq] at hc
              obtain ⟨rfl, rfl⟩ := hc
              obtain rfl : V = D + 1 := HV.out.symm
              have heq := fun w => eqMeter ((D : Int) + 1) 1 w
              clear HEC
              obtain ⟨y0, y1⟩ := SK.out w11 HB111.out
              have q1 := HQ1.out w11 HB111.out
              have q2 := HQ2.out w11 HB111.out
              go_wp2_with (go_at_call 14; (with_reducible refine CU11.out.mono ?_); rintro e w12 ⟨mv12, rfl, hm12, hb12⟩)
              exact ⟨⟨_, some n8, HLT.out, int_succ HLT.out HL.out, ONodeAt.move (Moves.below (HB811.out.trans (hb12.mono HB811.out.size))) HN8.out, by rw [HCS.out]; exact HL8.out, by rw [HCS.out]; exact hm12.move goodSp (Moves.weaken fun _ _ _ => trivial), (HBW.out w11 HB111.out).trans (hb12.mono (HBW.out w11 HB111.out).size)⟩, less_succ HLT.out HL.out⟩
            · rw [if_neg hg] at hc
              have hgn : ((gx : Int) == (hh : Int)) = false := by rw [beq_eq_false_iff_ne]; omega
              simp only [Prod.mk.injEq] at hc
              obtain ⟨rfl, rfl⟩ := hc
              obtain rfl : V = D + 1 := HV.out.symm
              have heq := fun w => eqMeter ((D : Int) + 1) 0 w
              clear HEC
              obtain ⟨y0, y1⟩ := SK.out w11 HB111.out
              have q1 := HQ1.out w11 HB111.out
              have q2 := HQ2.out w11 HB111.out
              go_wp2_with (go_at_call 14; (with_reducible refine CU11.out.mono ?_); rintro e w12 ⟨mv12, rfl, hm12, hb12⟩)
              exact ⟨⟨_, some n8, HLT.out, int_succ HLT.out HL.out, ONodeAt.move (Moves.below (HB811.out.trans (hb12.mono HB811.out.size))) HN8.out, by rw [HCS.out]; exact HL8.out, by rw [HCS.out]; exact hm12.move goodSp (Moves.weaken fun _ _ _ => trivial), (HBW.out w11 HB111.out).trans (hb12.mono (HBW.out w11 HB111.out).size)⟩, less_succ HLT.out HL.out⟩
          · have x0' : w11.cell? ⟨w5.heap.size, 0, none⟩ = some (.int .i64 2) := x0
            clear x0
            by_cases hg : gx = hh
            · subst hg
              clear HEC
              obtain ⟨y0, y1⟩ := SK.out w11 HB111.out
              have q1 := HQ1.out w11 HB111.out
              have q2 := HQ2.out w11 HB111.out
              go_wp2_with (go_at_call 14; (with_reducible refine CU11.out.mono ?_); rintro e w12 ⟨mv12, rfl, hm12, hb12⟩)
              exact ⟨⟨_, some n8, HLT.out, int_succ HLT.out HL.out, ONodeAt.move (Moves.below (HB811.out.trans (hb12.mono HB811.out.size))) HN8.out, by rw [HCS.out]; exact HL8.out, by rw [HCS.out]; exact hm12.move goodSp (Moves.weaken fun _ _ _ => trivial), (HBW.out w11 HB111.out).trans (hb12.mono (HBW.out w11 HB111.out).size)⟩, less_succ HLT.out HL.out⟩
            · have hgn : ((gx : Int) != (hh : Int)) = true := by rw [bne_iff_ne]; omega
              have hc := HEC.out.none (by decide) (.inr hg)
              simp only [Prod.mk.injEq] at hc
              obtain ⟨rfl, rfl⟩ := hc
              obtain rfl : V = D := by have := HV.out; omega
              have heq := fun w => eqMeter (V : Int) 0 w
              clear HEC
              obtain ⟨y0, y1⟩ := SK.out w11 HB111.out
              have q1 := HQ1.out w11 HB111.out
              have q2 := HQ2.out w11 HB111.out
              go_wp2_with (go_at_call 14; (with_reducible refine CU11.out.mono ?_); rintro e w12 ⟨mv12, rfl, hm12, hb12⟩)
              exact ⟨⟨_, some n8, HLT.out, int_succ HLT.out HL.out, ONodeAt.move (Moves.below (HB811.out.trans (hb12.mono HB811.out.size))) HN8.out, by rw [HCS.out]; exact HL8.out, by rw [HCS.out]; exact hm12.move goodSp (Moves.weaken fun _ _ _ => trivial), (HBW.out w11 HB111.out).trans (hb12.mono (HBW.out w11 HB111.out).size)⟩, less_succ HLT.out HL.out⟩
          )
      · obtain rfl : j = l.length := by omega
        have CAW := Lib.hid (CA.out wr hB)
        have HB := Lib.hid hB
        clear hlt hB hN hOL hMv H0 CF CA
        go_wp2_with fail
        refine CAW.out.mono ?_
        rintro e w2 ⟨rfl, hb2⟩
        have HB2 := Lib.hid (HB.out.trans (hb2.mono HB.out.size))
        clear hb2
        go_wp2
        go_ret
        exact ⟨rfl, HB2.out⟩
end Go.Proofs.YtehkjnmnbplcoaaGreatDoor
