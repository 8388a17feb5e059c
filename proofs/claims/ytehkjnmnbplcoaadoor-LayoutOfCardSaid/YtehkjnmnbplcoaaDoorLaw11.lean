/- law17.LayoutOf. -/
import Derived.Test.YtehkjnmnbplcoaaDoorShaped
import Derived.Test.YtehkjnmnbplcoaaDoorAw17
import Derived.Test.YtehkjnmnbplcoaaDoorRight
import Derived.Test.YtehkjnmnbplcoaaDoorLaw8
import Derived.Test.YtehkjnmnbplcoaaDoorBwLayR
import Derived.Deep.RegionHeld3
import Derived.Deep.RegionLaw
namespace Go.Proofs.YtehkjnmnbplcoaaDoor
open Go.RowKit Go.Bw

theorem fitM32 (n : Bw.N) : n.fit → n.thin ∧ n.m32 := by
  refine Bw.N.ind (P := fun n => n.fit → n.thin ∧ n.m32) ?_ ?_ ?_ n
  · intro h p _; exact ⟨trivial, trivial⟩
  · intro h p _; exact ⟨trivial, trivial⟩
  · intro m kids ih hf
    simp only [Bw.N.fit, Bw.N.fitL_iff] at hf
    simp only [Bw.N.thin, Bw.N.m32]
    have key : ∀ ks : List Bw.N, (∀ k ∈ ks, k.thin ∧ k.m32) → Bw.N.thinL ks ∧ Bw.N.m32L ks := by
      intro ks
      induction ks with
      | nil => intro _; exact ⟨trivial, trivial⟩
      | cons k r ihr =>
        intro h
        obtain ⟨h1, h2⟩ := ihr fun x hx => h x (by simp [hx])
        exact ⟨⟨(h k (by simp)).1, h1⟩, ⟨(h k (by simp)).2, h2⟩⟩
    obtain ⟨h1, h2⟩ := key kids fun k hk => ih k hk (hf.2.2 k hk)
    exact ⟨⟨hf.1, h1⟩, ⟨hf.1, h2⟩⟩

/-- of a layout it is told that it is right, if it is one -/
theorem lright_any {l : List Bw.En} (hE : EnsOk l) {ok : Nat → Prop} {nv : Value} {w : World} (hn : ONodeAt nt ok w nv (Bw.ofO l)) (hT : Tab w) :
    Calls Tryd.prog 34 #[nv, .int .i64 0] w fun e w' => e = .returned (.bool ((Bw.absO (Bw.ofO l)).kind != 0)) ∧ Below w.heap.size w w' := by
  have hO := hE.lays
  cases ho : Bw.ofO l with
  | none =>
    rw [ho] at hn
    exact right_out 0 hn (.inl rfl)
  | some n =>
    rw [ho] at hn hO
    obtain ⟨h1, h2, h3⟩ := Bw.lays_right hO (by decide) hE.lay.res hE.lay.hash
    have := right_node ok n 0 (by decide) nv w hn h1 (fitM32 n (hE.slim n ho).fit).2 (fun x hx => by obtain ⟨e, he, hex⟩ := h2 x hx; rw [← hex]; exact hE.lay.hash e he) hT
    rw [h3] at this
    have hk : ((Bw.absO (some n)).kind != 0) = true := by cases n <;> rfl
    rw [hk]
    exact this

set_option maxRecDepth 100000 in
set_option maxHeartbeats 1000000 in
theorem layoutof_any {l : List Bw.En} {v : Value} {w : World} (hr : EntsAt AllB w v l) (hh : ∀ e ∈ l, e.1 < 18446744073709551616) (hT : Tab w) :
    Calls Tryd.prog 8 #[v] w fun e w' => e = .returned (.bool true) ∧ Below w.heap.size w w' := by
  have CS := Lib.hid (small17_any 40 (by decide) hr)
  obtain ⟨A, c, rfl⟩ := hr.form
  have CAW := Lib.hid (fun (W : World) (hW : Below w.heap.size w W) => awake17_any W (hT.below hT.pos hW))
  cases hsm : smallE l 40 with
  | false =>
    rw [hsm] at CS
    clear hr hT hh
    go_enter Tryd.func8, Tryd.ntmps8
    go_wp2_with fail
    refine CS.out.mono ?_
    rintro e w1 ⟨rfl, hb1⟩
    go_wp2_with fail
    refine (CAW.out _ hb1).mono ?_
    rintro e w2 ⟨rfl, hb2⟩
    go_wp2
    go_ret
    exact ⟨rfl, hb1.trans (hb2.mono hb1.size)⟩
  | true =>
    rw [hsm] at CS
    have hE := smallE_ok (by decide) hsm hh
    have hr0 : EntsAt (fun k => k < w.heap.size) w (.slice A l.length c) l := hr.move goodEnt (Moves.weaken fun k _ h => h)
    have CO := Lib.hid (fun (W : World) (hW : Below w.heap.size w W) => lof_any hE (hr0.move (ok' := fun k => k < w.heap.size) goodEnt (fun k hk _ => ⟨hk, hW.block k hk⟩)) (hT.below hT.pos hW))
    have CR := Lib.hid (fun (W : World) (hW : Below w.heap.size w W) => ref17_any (Nat.le_trans hE.len (by decide)) (hr0.move (ok' := fun k => k < w.heap.size) goodEnt (fun k hk _ => ⟨hk, hW.block k hk⟩)))
    have CC := Lib.hid (fun (W : World) (q : Value) (h : SensAt AllB W q l) => rcomeE_any (Nat.le_trans hE.len (by decide)) h)
    have CL := Lib.hid (fun (W : World) (q : Value) (h : SensAt AllB W q (Bw.lasts l)) => rlay_any 13 0 (Bw.lasts l) AllB q W rfl hE.lay.len hE.lay.bytes hE.lay.hash hE.lay.res h)
    rw [ofO_abs hE] at CL
    have CSM := Lib.hid (fun (W : World) (nv : Value) (cs : List Value) (hn : ONodeAt nt AllB W nv (Bw.ofO l)) (hx : xK AllB W (Bw.absO (Bw.ofO l)) cs) => sameO_any hn hx fun n e => (hE.slim n e).fit)
    have CSH := Lib.hid (fun (W : World) (cs : List Value) (hx : xK AllB W (Bw.absO (Bw.ofO l)) cs) => rshapeO_any hx (fun n e => ⟨(fitM32 n (hE.slim n e).fit).1, by
      have h1 := (hE.slim n e).few
      rw [vol_wtE, held_count] at h1
      omega⟩) (slim_len hE.slim).1)
    have CSD := Lib.hid (fun (W : World) (hW : Below w.heap.size w W) (ok : Nat → Prop) (nv q : Value) (hn : ONodeAt nt AllB W nv (Bw.ofO l)) (hq : SpotsAt ok W q (Bw.spotsOf (Bw.visitsO 0 (Bw.ofO l)))) => shaped_any hn hE.slim (hT.below hT.pos hW) hq)
    have CRT := Lib.hid (fun (W : World) (hW : Below w.heap.size w W) (nv : Value) (hn : ONodeAt nt AllB W nv (Bw.ofO l)) => lright_any hE hn (hT.below hT.pos hW))
    clear hr hr0 hT hsm hE hh
    generalize Bw.lasts l = m at *
    generalize Bw.spotsOf (Bw.visitsO 0 (Bw.ofO l)) = sp at *
    rcases hxm : Bw.absO (Bw.ofO l) with ⟨kx, gx, px, sx, nx⟩
    rw [hxm] at CL CSM CSH CRT
    simp only [Bw.X.kind] at CRT
    clear hxm
    generalize Bw.ofO l = o at *
    go_enter Tryd.func8, Tryd.ntmps8
    go_wp2_with fail
    refine CS.out.mono ?_
    rintro e w1 ⟨rfl, hb1⟩
    have CO1 := Lib.hid (CO.out w1 hb1)
    have HB1 := Lib.hid hb1
    clear hb1
    go_wp2_with fail
    refine CO1.out.mono ?_
    rintro e w2 ⟨nv, rfl, hnv, hb2⟩
    have HB2 := Lib.hid (HB1.out.trans (hb2.mono HB1.out.size))
    have CR2 := Lib.hid (CR.out w2 HB2.out)
    have HN : Hid (ONodeAt nt AllB w2 nv o) := Lib.hid (hnv.move (Moves.weaken fun _ _ _ => trivial))
    have hnf := onodeL_form HN.out
    clear hb2 hnv
    go_wp2_with fail
    refine CR2.out.mono ?_
    rintro e w3 ⟨q3, rfl, hq3, hb3⟩
    have CC3 := Lib.hid (CC.out w3 _ hq3)
    have HB3 := Lib.hid hb3
    clear hq3 hb3
    go_wp2_with fail
    refine CC3.out.mono ?_
    rintro e w4 ⟨q4, rfl, hq4, hb4⟩
    have CL4 := Lib.hid (CL.out w4 _ hq4)
    have HB4 := Lib.hid (HB3.out.trans (hb4.mono HB3.out.size))
    clear hq4 hb4
    go_wp2_with fail
    refine CL4.out.mono ?_
    rintro e w5 ⟨r5, rfl, ⟨cs5, rfl, hx5⟩, hb5⟩
    have HB5 := Lib.hid (HB4.out.trans (hb5.mono HB4.out.size))
    have HX5 : Hid (xK AllB w5 (.mk kx gx px sx nx) cs5) := Lib.hid (XAt.move (Moves.weaken fun _ _ _ => trivial) _ _ hx5)
    obtain ⟨vp6, vs6, vk6, rfl, hp6, hs6, hk6⟩ := xK_iff.1 hx5
    obtain ⟨P6, cp6, rfl⟩ := hp6.form
    obtain ⟨S6, cs6', rfl⟩ := hs6.form
    obtain ⟨K6, ck6, rfl⟩ := hk6.form
    obtain ⟨W7, hW7⟩ : ∃ W7, w5.alloc (.cells #[.int .i64 (kx : Nat), .int .u64 (gx : Nat), .slice P6 px.length cp6, .slice S6 sx.length cs6', .slice K6 nx.length ck6] 45) = W7 := ⟨_, rfl⟩
    have hb57 : Below w5.heap.size w5 W7 := by rw [← hW7]; exact (Below.refl _ _).alloc (Nat.le_refl _) _
    have hs7 : w5.heap.size < W7.heap.size := by rw [← hW7]; simp
    have m0 : W7.cell? ⟨w5.heap.size, 0, none⟩ = some (.int .i64 (kx : Nat)) := by rw [← hW7]; exact cell_new w5 0 _ _ 0 _ rfl
    have m1 : W7.cell? ⟨w5.heap.size, 1, none⟩ = some (.int .u64 (gx : Nat)) := by rw [← hW7]; exact cell_new w5 0 _ _ 1 _ rfl
    have m2 : W7.cell? ⟨w5.heap.size, 2, none⟩ = some (.slice P6 px.length cp6) := by rw [← hW7]; exact cell_new w5 0 _ _ 2 _ rfl
    have m3 : W7.cell? ⟨w5.heap.size, 3, none⟩ = some (.slice S6 sx.length cs6') := by rw [← hW7]; exact cell_new w5 0 _ _ 3 _ rfl
    have m4 : W7.cell? ⟨w5.heap.size, 4, none⟩ = some (.slice K6 nx.length ck6) := by rw [← hW7]; exact cell_new w5 0 _ _ 4 _ rfl
    have SK : Hid (∀ W, Below W7.heap.size W7 W → W.cell? ⟨w5.heap.size, 0, none⟩ = some (.int .i64 (kx : Nat)) ∧ W.cell? ⟨w5.heap.size, 1, none⟩ = some (.int .u64 (gx : Nat)) ∧ W.cell? ⟨w5.heap.size, 2, none⟩ = some (.slice P6 px.length cp6) ∧ W.cell? ⟨w5.heap.size, 3, none⟩ = some (.slice S6 sx.length cs6') ∧ W.cell? ⟨w5.heap.size, 4, none⟩ = some (.slice K6 nx.length ck6)) := Lib.hid fun W hW =>
      ⟨(hW.cell (p := ⟨w5.heap.size, 0, none⟩) hs7).trans m0, (hW.cell (p := ⟨w5.heap.size, 1, none⟩) hs7).trans m1, (hW.cell (p := ⟨w5.heap.size, 2, none⟩) hs7).trans m2, (hW.cell (p := ⟨w5.heap.size, 3, none⟩) hs7).trans m3, (hW.cell (p := ⟨w5.heap.size, 4, none⟩) hs7).trans m4⟩
    have HB27 := Lib.hid (HB5.out.trans (hb57.mono HB5.out.size))
    have HB7 := Lib.hid (HB2.out.trans (HB27.out.mono HB2.out.size))
    have HX7 : Hid (∀ W, Below W7.heap.size W7 W → xK AllB W (.mk kx gx px sx nx) [.int .i64 (kx : Nat), .int .u64 (gx : Nat), .slice P6 px.length cp6, .slice S6 sx.length cs6', .slice K6 nx.length ck6]) := Lib.hid fun W hW => XAt.move (Moves.below (hb57.trans (hW.mono hb57.size))) _ _ HX5.out
    have HW7 := Lib.hid hW7
    clear hx5 hb5 hp6 hs6 hk6 hb57 hW7 hs7
    have hkk : ((kx : Int) != 0) = (kx != 0) := by
      by_cases h : kx = 0
      · subst h; rfl
      · rw [bne_iff_ne.2 h, bne_iff_ne]; omega
    generalize (kx != 0) = kb at *
    rcases hnf with rfl | ⟨tn, bn, rfl⟩
    all_goals go_wp2_with (rw [HW7.out])
    all_goals refine (CSM.out W7 _ _ (HN.out.move (Moves.below HB27.out)) (HX7.out W7 (Below.refl _ _))).mono ?_
    all_goals rintro e w8 ⟨rfl, hb8⟩
    all_goals obtain ⟨a0, a1, a2, a3, a4⟩ := SK.out w8 hb8
    all_goals have HB8 := Lib.hid hb8
    all_goals clear m0 m1 m2 m3 m4 hb8
    all_goals go_wp2_with fail
    all_goals refine (CSH.out w8 _ (HX7.out w8 HB8.out)).mono ?_
    all_goals rintro e w9 ⟨q9, rfl, hq9, hb9⟩
    all_goals have HB29 := Lib.hid (HB27.out.trans ((HB8.out.trans (hb9.mono HB8.out.size)).mono HB27.out.size))
    all_goals have HB9 := Lib.hid (HB2.out.trans (HB29.out.mono HB2.out.size))
    all_goals have HB79 := Lib.hid (HB8.out.trans (hb9.mono HB8.out.size))
    all_goals have HQ9 := Lib.hid hq9
    all_goals obtain ⟨Q9, c9, rfl⟩ := hq9.form
    all_goals clear a0 a1 a2 a3 a4 hb9 hq9
    all_goals go_wp2_with fail
    all_goals refine (CSD.out w9 HB9.out _ _ _ (HN.out.move (Moves.below HB29.out)) HQ9.out).mono ?_
    all_goals rintro e w10 ⟨rfl, hb10⟩
    all_goals have HB210 := Lib.hid (HB29.out.trans (hb10.mono HB29.out.size))
    all_goals have HB10 := Lib.hid (HB2.out.trans (HB210.out.mono HB2.out.size))
    all_goals have HB710 := Lib.hid (HB79.out.trans (hb10.mono HB79.out.size))
    all_goals clear hb10
    all_goals go_wp2_with fail
    all_goals cases kb
    all_goals have hd10 : Below w10.heap.size w10 w10.drew := (Below.refl _ _).drew
    all_goals have hdw : Below w.heap.size w w10.drew := HB10.out.trans (hd10.mono HB10.out.size)
    all_goals have hd2 : Below w2.heap.size w2 w10.drew := HB210.out.trans (hd10.mono HB210.out.size)
    all_goals have a0 := (SK.out w10.drew (HB710.out.trans (hd10.mono HB710.out.size))).1
    all_goals go_region_law
      ((first
        | (go_simp; go_at_call 34; (with_reducible refine (CRT.out _ hdw _ (HN.out.move (Moves.below hd2))).mono ?_); rintro e w11 ⟨rfl, hb11⟩; have hw11 : Below w.heap.size w w11 := hdw.trans (hb11.mono hdw.size); have a1 := (SK.out w11 ((HB710.out.trans (hd10.mono HB710.out.size)).trans (hb11.mono (HB710.out.trans (hd10.mono HB710.out.size)).size))).1)
        | (go_simp; go_at_call 24; (with_reducible refine (CAW.out _ hw11).mono ?_); rintro e w12 ⟨rfl, hb12⟩; have hw12 : Below w.heap.size w w12 := hw11.trans (hb12.mono hw11.size))))
    all_goals go_wp2
    all_goals go_ret
    all_goals exact ⟨rfl, hw12⟩
end Go.Proofs.YtehkjnmnbplcoaaDoor
