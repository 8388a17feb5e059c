/- law17.LayoutSame. -/
import Derived.Test.YtehkjnmnbplcoaaGreatDoorSameH
import Derived.Test.YtehkjnmnbplcoaaGreatDoorLSame
import Derived.Test.YtehkjnmnbplcoaaGreatDoorAw17
import Derived.Test.YtehkjnmnbplcoaaGreatDoorLaw8
import Derived.Test.YtehkjnmnbplcoaaGreatDoorBwInj
import Derived.Deep.RegionHeld3
namespace Go.Proofs.YtehkjnmnbplcoaaGreatDoor
open Go.RowKit Go.Bw

theorem thinE (n : Bw.N) : n.fit → n.thin ∧ n.even := by
  refine Bw.N.ind (P := fun n => n.fit → n.thin ∧ n.even) ?_ ?_ ?_ n
  · intro h p _; exact ⟨trivial, trivial⟩
  · intro h p _; exact ⟨trivial, trivial⟩
  · intro m kids ih hf
    simp only [Bw.N.fit, Bw.N.fitL_iff] at hf
    simp only [Bw.N.thin, Bw.N.thinL_iff, Bw.N.even, Bw.N.evenL_iff]
    exact ⟨⟨hf.1, fun k hk => (ih k hk (hf.2.2 k hk)).1⟩, hf.2.1, fun k hk => (ih k hk (hf.2.2 k hk)).2⟩

/-- two nodes have one shape, and hold the same, just if the one is the other -/
theorem sameB_eqv {a b : Option Bw.N} (ha : ∀ n, a = some n → n.fit) (hb : ∀ n, b = some n → n.fit) : sameB a b = Bw.eqvO b a := by
  have h := Bw.same_eqv (fun n e => thinE n (hb n e)) (fun n e => thinE n (ha n e))
  rw [Bool.eq_iff_iff, ← h]
  unfold sameB
  rw [Bool.and_eq_true, decide_eq_true_iff, decide_eq_true_iff]
  exact ⟨fun h => ⟨h.1.symm, h.2.symm⟩, fun h => ⟨h.1.symm, h.2.symm⟩⟩

theorem sameB_self (a : Option Bw.N) : sameB a a = true := by unfold sameB; simp

set_option maxRecDepth 100000 in
set_option maxHeartbeats 2000000 in
theorem layoutsame_any {l k : List Bw.En} {v kv : Value} {w : World} (hr : EntsAt AllB w v l) (hh : ∀ e ∈ l, e.1 < 18446744073709551616) (hrk : EntsAt AllB w kv k) (hhk : ∀ e ∈ k, e.1 < 18446744073709551616) (hT : Tab w) :
    Calls Tryz.prog 4 #[v, kv] w fun e w' => e = .returned (.bool true) ∧ Below w.heap.size w w' := by
  have CS := Lib.hid (small17_any 20 (by decide) hr)
  have CK := Lib.hid (fun (W : World) (hW : Below w.heap.size w W) => small17_any 20 (by decide) (hrk.move goodEnt (Moves.below hW)))
  obtain ⟨A, c, rfl⟩ := hr.form
  obtain ⟨A', c', rfl⟩ := hrk.form
  have CAW := Lib.hid (fun (W : World) (hW : Below w.heap.size w W) => awake17_any W (hT.below hT.pos hW))
  cases hsm : smallE l 20 with
  | false =>
    rw [hsm] at CS
    clear hr hT hh hrk hhk CK
    go_enter Tryz.func4, Tryz.ntmps4
    go_wp2_with fail
    refine CS.out.mono ?_
    rintro e w1 ⟨rfl, hb1⟩
    go_wp2_with fail
    refine (CAW.out _ hb1).mono ?_
    rintro e w2 ⟨rfl, hb2⟩
    go_wp2
    go_ret
    exact ⟨rfl, hb1.trans (hb2.mono hb1.size)⟩
  | true =>
    rw [hsm] at CS
    cases hsk : smallE k 20 with
    | false =>
      rw [hsk] at CK
      clear hr hT hh hrk hhk
      go_enter Tryz.func4, Tryz.ntmps4
      go_wp2_with fail
      refine CS.out.mono ?_
      rintro e w1 ⟨rfl, hb1⟩
      have CK1 := Lib.hid (CK.out w1 hb1)
      have HB1 := Lib.hid hb1
      clear hb1
      go_wp2_with fail
      refine CK1.out.mono ?_
      rintro e w2 ⟨rfl, hb2⟩
      have HB2 := Lib.hid (HB1.out.trans (hb2.mono HB1.out.size))
      clear hb2
      go_wp2_with fail
      refine (CAW.out _ HB2.out).mono ?_
      rintro e w3 ⟨rfl, hb3⟩
      have HB3 := Lib.hid (HB2.out.trans (hb3.mono HB2.out.size))
      clear hb3
      go_wp2
      go_ret
      exact ⟨rfl, HB3.out⟩
    | true =>
      rw [hsk] at CK
      have hE := smallE_ok (by decide) hsm hh
      have hK := smallE_ok (by decide) hsk hhk
      have hr0 : EntsAt (fun k => k < w.heap.size) w (.slice A l.length c) l := hr.move goodEnt (Moves.weaken fun k _ h => h)
      have hk0 : EntsAt (fun k => k < w.heap.size) w (.slice A' k.length c') k := hrk.move goodEnt (Moves.weaken fun k _ h => h)
      have CO := Lib.hid (fun (W : World) (hW : Below w.heap.size w W) => (lof_any hE (hr0.move (ok' := fun k => k < w.heap.size) goodEnt (fun k hk _ => ⟨hk, hW.block k hk⟩)) (hT.below hT.pos hW)).mono (R' := Gives W fun q w' => ONodeAt nt AllB w' q (Bw.ofO l)) (fun e w' ⟨q, e1, h1, h2⟩ => ⟨q, e1, ONodeAt.move (Moves.weaken fun _ _ _ => trivial) h1, h2⟩))
      have CP := Lib.hid (fun (W : World) (hW : Below w.heap.size w W) => (lof_any hK (hk0.move (ok' := fun k => k < w.heap.size) goodEnt (fun k hk _ => ⟨hk, hW.block k hk⟩)) (hT.below hT.pos hW)).mono (R' := Gives W fun q w' => ONodeAt nt AllB w' q (Bw.ofO k)) (fun e w' ⟨q, e1, h1, h2⟩ => ⟨q, e1, ONodeAt.move (Moves.weaken fun _ _ _ => trivial) h1, h2⟩))
      have CR := Lib.hid (fun (W : World) (hW : Below w.heap.size w W) => ref17_any (Nat.le_trans hE.len (by decide)) (hr0.move (ok' := fun k => k < w.heap.size) goodEnt (fun k hk _ => ⟨hk, hW.block k hk⟩)))
      have CC := Lib.hid (fun (W : World) (q : Value) (h : SensAt AllB W q l) => rcomeE_any (Nat.le_trans hE.len (by decide)) h)
      have CL := Lib.hid (fun (W : World) (q : Value) (h : SensAt AllB W q (Bw.lasts l)) => rlay_any 13 0 (Bw.lasts l) AllB q W rfl hE.lay.len hE.lay.bytes hE.lay.hash hE.lay.res h)
      rw [ofO_abs hE] at CL
      have CAB := Lib.hid (fun (W : World) (hW : Below w.heap.size w W) (q r : Value) (h1 : ONodeAt nt AllB W q (Bw.ofO l)) (h2 : ONodeAt nt AllB W r (Bw.ofO k)) => lsame_any h1 h2 hE.slim hK.slim (hT.below hT.pos hW))
      rw [sameB_eqv (fun n e => (hE.slim n e).fit) (fun n e => (hK.slim n e).fit)] at CAB
      have CAA := Lib.hid (fun (W : World) (hW : Below w.heap.size w W) (q r : Value) (h1 : ONodeAt nt AllB W q (Bw.ofO l)) (h2 : ONodeAt nt AllB W r (Bw.ofO l)) => lsame_any h1 h2 hE.slim hE.slim (hT.below hT.pos hW))
      rw [sameB_self] at CAA
      have CSG := Lib.hid (fun (W : World) (nv : Value) (cs : List Value) (hn : ONodeAt nt AllB W nv (Bw.ofO k)) (hx : xK AllB W (Bw.absO (Bw.ofO l)) cs) => sgO_any hn hx (fun n e => (hK.slim n e).fit) (fun n e => (hE.slim n e).fit))
      clear hr hr0 hrk hk0 hT hsm hsk hE hK hh hhk
      generalize Bw.eqvO (Bw.ofO k) (Bw.ofO l) = sb at *
      rcases hxm : Bw.absO (Bw.ofO l) with ⟨kx, gx, px, sx, nx⟩
      rw [hxm] at CL CSG
      clear hxm
      generalize Bw.lasts l = m at *
      generalize Bw.ofO l = a at *
      generalize Bw.ofO k = b at *
      go_enter Tryz.func4, Tryz.ntmps4
      go_wp2_with fail
      refine CS.out.mono ?_
      rintro e w1 ⟨rfl, hb1⟩
      have CK1 := Lib.hid (CK.out w1 hb1)
      have HB1 := Lib.hid hb1
      clear hb1
      go_wp2_with fail
      refine CK1.out.mono ?_
      rintro e w2 ⟨rfl, hb2⟩
      have HB2 := Lib.hid (HB1.out.trans (hb2.mono HB1.out.size))
      have CR2 := Lib.hid (CR.out w2 HB2.out)
      clear hb2
      go_wp2_with fail
      refine CR2.out.mono ?_
      rintro e w3 ⟨q3, rfl, hq3, hb3⟩
      have CC3 := Lib.hid (CC.out w3 _ hq3)
      have HB3 := Lib.hid (HB2.out.trans (hb3.mono HB2.out.size))
      clear hq3 hb3
      go_wp2_with fail
      refine CC3.out.mono ?_
      rintro e w4 ⟨q4, rfl, hq4, hb4⟩
      have CL4 := Lib.hid (CL.out w4 _ hq4)
      have HB4 := Lib.hid (HB3.out.trans (hb4.mono HB3.out.size))
      clear hq4 hb4
      go_wp2_with fail
      refine CL4.out.mono ?_
      rintro e w5 ⟨r5, rfl, ⟨cs5, rfl, hx5⟩, hb5⟩
      have HB5 := Lib.hid (HB4.out.trans (hb5.mono HB4.out.size))
      have HX5 : Hid (xK AllB w5 (.mk kx gx px sx nx) cs5) := Lib.hid (XAt.move (Moves.weaken fun _ _ _ => trivial) _ _ hx5)
      obtain ⟨vp6, vs6, vk6, rfl, hp6, hs6, hk6⟩ := xK_iff.1 hx5
      obtain ⟨P6, cp6, rfl⟩ := hp6.form
      obtain ⟨S6, cs6', rfl⟩ := hs6.form
      obtain ⟨K6, ck6, rfl⟩ := hk6.form
      obtain ⟨W7, hW7⟩ : ∃ W7, w5.alloc (.cells #[.int .i64 (kx : Nat), .int .u64 (gx : Nat), .slice P6 px.length cp6, .slice S6 sx.length cs6', .slice K6 nx.length ck6] 37) = W7 := ⟨_, rfl⟩
      have hb57 : Below w5.heap.size w5 W7 := by rw [← hW7]; exact (Below.refl _ _).alloc (Nat.le_refl _) _
      have hs7 : w5.heap.size < W7.heap.size := by rw [← hW7]; simp
      have m0 : W7.cell? ⟨w5.heap.size, 0, none⟩ = some (.int .i64 (kx : Nat)) := by rw [← hW7]; exact cell_new w5 0 _ _ 0 _ rfl
      have m1 : W7.cell? ⟨w5.heap.size, 1, none⟩ = some (.int .u64 (gx : Nat)) := by rw [← hW7]; exact cell_new w5 0 _ _ 1 _ rfl
      have m2 : W7.cell? ⟨w5.heap.size, 2, none⟩ = some (.slice P6 px.length cp6) := by rw [← hW7]; exact cell_new w5 0 _ _ 2 _ rfl
      have m3 : W7.cell? ⟨w5.heap.size, 3, none⟩ = some (.slice S6 sx.length cs6') := by rw [← hW7]; exact cell_new w5 0 _ _ 3 _ rfl
      have m4 : W7.cell? ⟨w5.heap.size, 4, none⟩ = some (.slice K6 nx.length ck6) := by rw [← hW7]; exact cell_new w5 0 _ _ 4 _ rfl
      have SK : Hid (∀ W, Below W7.heap.size W7 W → W.cell? ⟨w5.heap.size, 0, none⟩ = some (.int .i64 (kx : Nat)) ∧ W.cell? ⟨w5.heap.size, 1, none⟩ = some (.int .u64 (gx : Nat)) ∧ W.cell? ⟨w5.heap.size, 2, none⟩ = some (.slice P6 px.length cp6) ∧ W.cell? ⟨w5.heap.size, 3, none⟩ = some (.slice S6 sx.length cs6') ∧ W.cell? ⟨w5.heap.size, 4, none⟩ = some (.slice K6 nx.length ck6)) := Lib.hid fun W hW =>
        ⟨(hW.cell (p := ⟨w5.heap.size, 0, none⟩) hs7).trans m0, (hW.cell (p := ⟨w5.heap.size, 1, none⟩) hs7).trans m1, (hW.cell (p := ⟨w5.heap.size, 2, none⟩) hs7).trans m2, (hW.cell (p := ⟨w5.heap.size, 3, none⟩) hs7).trans m3, (hW.cell (p := ⟨w5.heap.size, 4, none⟩) hs7).trans m4⟩
      have HB57 := Lib.hid hb57
      have HX7 : Hid (∀ W, Below W7.heap.size W7 W → xK AllB W (.mk kx gx px sx nx) [.int .i64 (kx : Nat), .int .u64 (gx : Nat), .slice P6 px.length cp6, .slice S6 sx.length cs6', .slice K6 nx.length ck6]) := Lib.hid fun W hW => XAt.move (Moves.below (HB57.out.trans (hW.mono HB57.out.size))) _ _ HX5.out
      have HB7 := Lib.hid (HB5.out.trans (hb57.mono HB5.out.size))
      have BW : Hid (∀ W, Below W7.heap.size W7 W → Below w.heap.size w W) := Lib.hid fun W hW => HB7.out.trans (hW.mono HB7.out.size)
      have HW7 := Lib.hid hW7
      clear hx5 hb5 hp6 hs6 hk6 hb57 hW7 hs7 m0 m1 m2 m3 m4
      go_wp2_with (rw [HW7.out])
      have hd : Below W7.heap.size W7 W7.drew := (Below.refl _ _).drew
      obtain ⟨s0, s1, s2, s3, s4⟩ := SK.out _ hd
      cases sb
      all_goals go_region_held3 (fun W => W.cell? ⟨w5.heap.size, 0, none⟩ = some (.int .i64 (kx : Nat)) ∧ W.cell? ⟨w5.heap.size, 1, none⟩ = some (.int .u64 (gx : Nat)) ∧ W.cell? ⟨w5.heap.size, 2, none⟩ = some (.slice P6 px.length cp6) ∧ W.cell? ⟨w5.heap.size, 3, none⟩ = some (.slice S6 sx.length cs6') ∧ W.cell? ⟨w5.heap.size, 4, none⟩ = some (.slice K6 nx.length ck6))
        (first | with_reducible exact SK.out _ h9 | with_reducible exact SK.out _ h8 | with_reducible exact SK.out _ h7 | with_reducible exact SK.out _ h6 | with_reducible exact SK.out _ h5 | with_reducible exact SK.out _ h4 | with_reducible exact SK.out _ h3 | with_reducible exact SK.out _ h2 | with_reducible exact SK.out _ h1 | with_reducible exact SK.out _ hd)
        (first
          | (go_at_call 16; (with_reducible refine (CAW.out _ (BW.out _ h8)).mono ?_); rintro e x9 ⟨rfl, hb⟩; have h9 := h8.trans (hb.mono h8.size); clear hb)
          | (go_at_call 12; (with_reducible refine (CAA.out _ (BW.out _ h7) _ _ (o6.out _ h7 hb67) o7.out).mono ?_); rintro e x8 ⟨rfl, hb⟩; have h8 := h7.trans (hb.mono h7.size); clear hb)
          | (go_at_call 19; (with_reducible refine (CO.out _ (BW.out _ h6)).mono ?_); rintro e x7 ⟨v7, rfl, ho7, hb67⟩; have h7 := h6.trans (hb67.mono h6.size); have o7 := Lib.hid ho7; clear ho7)
          | (go_at_call 19; (with_reducible refine (CO.out _ (BW.out _ h5)).mono ?_); rintro e x6 ⟨v6, rfl, ho6, hb⟩; have h6 := h5.trans (hb.mono h5.size); have o6 := Lib.hid (fun W (_ : Below W7.heap.size W7 W) (hW : Below x6.heap.size x6 W) => ONodeAt.move (Moves.below hW) ho6); clear ho6 hb)
          | (go_at_call 20; (with_reducible refine (CSG.out _ _ _ o4.out (HX7.out _ h4)).mono ?_); rintro e x5 ⟨rfl, hb⟩; have h5 := h4.trans (hb.mono h4.size); clear hb)
          | (go_at_call 19; (with_reducible refine (CP.out _ (BW.out _ h3)).mono ?_); rintro e x4 ⟨v4, rfl, ho4, hb⟩; have h4 := h3.trans (hb.mono h3.size); have o4 := Lib.hid ho4; clear ho4 hb)
          | (go_at_call 12; (with_reducible refine (CAB.out _ (BW.out _ h2) _ _ (o1.out _ h2 hb12) o2.out).mono ?_); rintro e x3 ⟨rfl, hb⟩; have h3 := h2.trans (hb.mono h2.size); clear hb)
          | (go_at_call 19; (with_reducible refine (CP.out _ (BW.out _ h1)).mono ?_); rintro e x2 ⟨v2, rfl, ho2, hb12⟩; have h2 := h1.trans (hb12.mono h1.size); have o2 := Lib.hid ho2; clear ho2)
          | (go_at_call 19; (with_reducible refine (CO.out _ (BW.out _ hd)).mono ?_); rintro e x1 ⟨v1, rfl, ho1, hb⟩; have h1 := hd.trans (hb.mono hd.size); have o1 := Lib.hid (fun W (_ : Below W7.heap.size W7 W) (hW : Below x1.heap.size x1 W) => ONodeAt.move (Moves.below hW) ho1); clear ho1 hb))
      all_goals go_wp2
      all_goals go_ret
      all_goals exact ⟨rfl, BW.out _ h9⟩
end Go.Proofs.YtehkjnmnbplcoaaGreatDoor
