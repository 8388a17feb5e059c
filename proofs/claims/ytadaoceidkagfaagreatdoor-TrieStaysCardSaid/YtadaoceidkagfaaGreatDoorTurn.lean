
import Derived.Test.YtadaoceidkagfaaGreatDoorMeter
import Derived.Deep.RegionHeld3
import Derived.Deep.QuietTactic
import Derived.BigQuiet
namespace Go.Proofs.YtadaoceidkagfaaGreatDoor
open Go.RowKit Go.Bw
theorem treeAt_open {ok : Nat -> Prop} {w : World} {v : Value} {l r : Bw.T} {p : Bw.PV} (h : TreeAt ok w v (.node l p r)) : ∃ b u1 u2 lv rv, v = .pointer (some ⟨b, 0, none⟩) /\ CellAt ok w b 0 u1 /\ CellAt ok w b 1 u2 /\ CellAt ok w b 2 lv /\ CellAt ok w b 3 rv /\
    CellAt ok w b 4 (.int .i64 ((Bw.T.node l p r).size : Nat)) /\ BytesAt ok w u1 p.1 /\ BytesAt ok w u2 p.2 /\ TreeAt ok w lv l /\ TreeAt ok w rv r := h
theorem quiet_add_left {P : Program} {f : FuncId} {args : Array Value} {w : World} {a n : Nat} {v : Value} (h : Calls P f args (w.drewN (a + n)) fun e w' => e = .returned v /\ w.drewN (a + n) = w') :
    Calls P f args (w.drewN (a + n)) fun e w'' => e = .returned v /\ ∃ m, w'' = w.drewN (a + m) := h.mono fun _ _ ⟨he, hm⟩ => ⟨he, n, hm.symm⟩
set_option maxRecDepth 100000 in
set_option maxHeartbeats 1000000 in
theorem turnL_single {ok : Nat -> Prop} {x i o : Bw.T} {p q : Bw.PV} {xv hv u v : Value} {w : World} (hx : TreeAt ok w xv x) (hh : TreeAt ok w hv (.node i q o)) (hu : BytesAt ok w u p.1) (hv' : BytesAt ok w v p.2) (hok : ∀ k, w.heap.size <= k -> ok k) (hn : x.size + (i.size + 1 + o.size) <= 1048575) (hs : Bw.singleB x.size i.size o.size = true) :
    Calls Tryz.prog 150 #[xv, .agg #[u, v], hv] w (Gives w fun r w' => TreeAt ok w' r (.node (.node x p i) q o)) := by
  obtain ⟨b, u1, u2, iv, ov, rfl, ⟨_, h0⟩, ⟨_, h1⟩, ⟨_, h2⟩, ⟨_, h3⟩, _, k1, k2, hi, ho⟩ := treeAt_open hh
  obtain ⟨A1, rfl⟩ := hx.form
  obtain ⟨A3, rfl⟩ := ho.form
  obtain ⟨U, cu, rfl⟩ := hu.form
  obtain ⟨V, cv, rfl⟩ := hv'.form
  obtain ⟨U1, c1, rfl⟩ := k1.form
  obtain ⟨U2, c2, rfl⟩ := k2.form
  have hbl := World.block_lt_of_cell? w _ h0
  dsimp only at hbl
  obtain ⟨wb, hwb⟩ : ∃ wb, w.alloc (.cells #[.slice U p.1.length cu, .slice V p.2.length cv] 62) = wb := ⟨_, rfl⟩
  have hsz : wb.heap.size = w.heap.size + 1 := by rw [<- hwb]; simp
  have hB : Below w.heap.size w wb := by rw [<- hwb]; exact gB1
  have hBW : ∀ W, Below wb.heap.size wb W -> Below w.heap.size w W := fun W hW => hB.trans (hW.mono hB.size)
  have p0 : wb.cell? ⟨w.heap.size, 0, none⟩ = some (.slice U p.1.length cu) := by rw [<- hwb]; exact cell_new w 0 _ _ 0 _ rfl
  have p1 : wb.cell? ⟨w.heap.size, 1, none⟩ = some (.slice V p.2.length cv) := by rw [<- hwb]; exact cell_new w 0 _ _ 1 _ rfl
  have q0 := (hB.cell (p := ⟨b, 0, none⟩) hbl).trans h0
  have q1 := (hB.cell (p := ⟨b, 1, none⟩) hbl).trans h1
  have q2 := (hB.cell (p := ⟨b, 2, none⟩) hbl).trans h2
  have q3 := (hB.cell (p := ⟨b, 3, none⟩) hbl).trans h3
  have CL := Lib.hid (fun (W : World) (hW : Below wb.heap.size wb W) => size_any (hx.move (Moves.below (hBW W hW))))
  have CI := Lib.hid (fun (W : World) (hW : Below wb.heap.size wb W) => size_any (hi.move (Moves.below (hBW W hW))))
  have CO := Lib.hid (fun (W : World) (hW : Below wb.heap.size wb W) => size_any (ho.move (Moves.below (hBW W hW))))
  obtain ⟨A2, rfl⟩ := hi.form
  have CS := Lib.hid (fun (W : World) => wsingle_any x.size i.size o.size W (by omega) (by omega))
  rw [hs] at CS
  have C1 := Lib.hid (fun (W : World) (hW : Below wb.heap.size wb W) => node_any (hx.move (Moves.below (hBW W hW))) (hi.move (Moves.below (hBW W hW))) (hu.move goodByte (Moves.below (hBW W hW))) (hv'.move goodByte (Moves.below (hBW W hW))) (fun k hk => hok k (Nat.le_trans (hBW W hW).size hk)) (by omega))
  have C2 := Lib.hid (fun (W : World) (y : Value) (hy : TreeAt ok W y (.node x p i)) (hW : Below wb.heap.size wb W) => node_any hy (ho.move (Moves.below (hBW W hW))) (k1.move goodByte (Moves.below (hBW W hW))) (k2.move goodByte (Moves.below (hBW W hW))) (fun k hk => hok k (Nat.le_trans (hBW W hW).size hk)) (by simp only [Bw.T.size]; omega))
  have SK : Hid (∀ W, Below wb.heap.size wb W -> W.cell? ⟨w.heap.size, 0, none⟩ = some (.slice U p.1.length cu) /\ W.cell? ⟨w.heap.size, 1, none⟩ = some (.slice V p.2.length cv) /\ W.cell? ⟨b, 0, none⟩ = some (.slice U1 q.1.length c1) /\ W.cell? ⟨b, 1, none⟩ = some (.slice U2 q.2.length c2)) :=
    Lib.hid fun W hW => ⟨(hW.cell (p := ⟨w.heap.size, 0, none⟩) (by simp only; omega)).trans p0, (hW.cell (p := ⟨w.heap.size, 1, none⟩) (by simp only; omega)).trans p1, (hW.cell (p := ⟨b, 0, none⟩) (by simp only; omega)).trans q0, (hW.cell (p := ⟨b, 1, none⟩) (by simp only; omega)).trans q1⟩
  have HWB := Lib.hid hwb
  have HB := Lib.hid hB
  generalize x.size = sl at *
  generalize i.size = si at *
  generalize o.size = so at *
  clear hx hi ho hu hv' k1 k2 hok hn hs hwb hB hBW h0 h1 h2 h3 hsz
  go_enter Tryz.func150, Tryz.ntmps150
  go_wp2_with fail
  rw [HWB.out]
  go_quiet (fail)
  go_wp2_with (first
    | (go_at_call 56; first | ((with_reducible refine (CL.out _ (by exact gB2)).mono ?_); rintro e w' ⟨rfl, rfl⟩) | ((with_reducible refine (CI.out _ (by exact gB2)).mono ?_); rintro e w' ⟨rfl, rfl⟩) | ((with_reducible refine (CO.out _ (by exact gB2)).mono ?_); rintro e w' ⟨rfl, rfl⟩))
    | (go_at_call 156; (with_reducible refine (CS.out _).mono ?_); rintro e w' ⟨rfl, rfl⟩))
  go_region_held3 (fun W => W.cell? ⟨w.heap.size, 0, none⟩ = some (.slice U p.1.length cu) /\ W.cell? ⟨w.heap.size, 1, none⟩ = some (.slice V p.2.length cv) /\ W.cell? ⟨b, 0, none⟩ = some (.slice U1 q.1.length c1) /\ W.cell? ⟨b, 1, none⟩ = some (.slice U2 q.2.length c2))
    (first | with_reducible exact SK.out _ hB2 | with_reducible exact SK.out _ hB1 | with_reducible exact SK.out _ (by exact gB2))
    ((go_at_call 129; first
      | ((with_reducible refine (C1.out _ (by exact gB2)).mono ?_); rintro e w1 ⟨y1, rfl, hy1, hb1⟩; obtain ⟨Y1, rfl⟩ := hy1.form; have hB1 : Below wb.heap.size wb w1 := Below.trans (by exact gB2) (hb1.mono (by simp)))
      | ((with_reducible refine (C2.out _ _ hy1 hB1).mono ?_); rintro e w2 ⟨y2, rfl, hy2, hb2⟩; obtain ⟨Y2, rfl⟩ := hy2.form; have hB2 : Below wb.heap.size wb w2 := hB1.trans (hb2.mono hB1.size))))
  go_wp2
  go_ret
  exact ⟨_, rfl, hy2, HB.out.trans (hB2.mono HB.out.size)⟩
set_option maxRecDepth 100000 in
set_option maxHeartbeats 1000000 in
theorem turnL_none {ok : Nat -> Prop} {x  o : Bw.T} {p q : Bw.PV} {xv hv u v : Value} {w : World} (hx : TreeAt ok w xv x) (hh : TreeAt ok w hv (.node .nil q o)) (hu : BytesAt ok w u p.1) (hv' : BytesAt ok w v p.2) (_hok : ∀ k, w.heap.size <= k -> ok k) (hn : x.size + (0 + 1 + o.size) <= 1048575) (hs : Bw.singleB x.size 0 o.size = false) :
    Calls Tryz.prog 150 #[xv, .agg #[u, v], hv] w (Gives w fun r w' => TreeAt ok w' r .nil) := by
  obtain ⟨b, u1, u2, iv, ov, rfl, ⟨_, h0⟩, ⟨_, h1⟩, ⟨_, h2⟩, ⟨_, h3⟩, _, k1, k2, hi, ho⟩ := treeAt_open hh
  obtain ⟨A1, rfl⟩ := hx.form
  obtain ⟨A3, rfl⟩ := ho.form
  obtain ⟨U, cu, rfl⟩ := hu.form
  obtain ⟨V, cv, rfl⟩ := hv'.form
  obtain ⟨U1, c1, rfl⟩ := k1.form
  obtain ⟨U2, c2, rfl⟩ := k2.form
  have hbl := World.block_lt_of_cell? w _ h0
  dsimp only at hbl
  obtain ⟨wb, hwb⟩ : ∃ wb, w.alloc (.cells #[.slice U p.1.length cu, .slice V p.2.length cv] 62) = wb := ⟨_, rfl⟩
  have hsz : wb.heap.size = w.heap.size + 1 := by rw [<- hwb]; simp
  have hB : Below w.heap.size w wb := by rw [<- hwb]; exact gB1
  have hBW : ∀ W, Below wb.heap.size wb W -> Below w.heap.size w W := fun W hW => hB.trans (hW.mono hB.size)
  have p0 : wb.cell? ⟨w.heap.size, 0, none⟩ = some (.slice U p.1.length cu) := by rw [<- hwb]; exact cell_new w 0 _ _ 0 _ rfl
  have p1 : wb.cell? ⟨w.heap.size, 1, none⟩ = some (.slice V p.2.length cv) := by rw [<- hwb]; exact cell_new w 0 _ _ 1 _ rfl
  have q0 := (hB.cell (p := ⟨b, 0, none⟩) hbl).trans h0
  have q1 := (hB.cell (p := ⟨b, 1, none⟩) hbl).trans h1
  have q2 := (hB.cell (p := ⟨b, 2, none⟩) hbl).trans h2
  have q3 := (hB.cell (p := ⟨b, 3, none⟩) hbl).trans h3
  have CL := Lib.hid (fun (W : World) (hW : Below wb.heap.size wb W) => size_any (hx.move (Moves.below (hBW W hW))))
  have CI := Lib.hid (fun (W : World) (hW : Below wb.heap.size wb W) => size_any (hi.move (Moves.below (hBW W hW))))
  have CO := Lib.hid (fun (W : World) (hW : Below wb.heap.size wb W) => size_any (ho.move (Moves.below (hBW W hW))))
  simp only [TreeAt] at hi
  obtain rfl := hi
  have CS := Lib.hid (show ∀ W : World, Calls Tryz.prog 156 #[.int .i64 (x.size : Nat), .int .i64 0, .int .i64 (o.size : Nat)] W fun e w' => e = .returned (.bool (Bw.singleB x.size 0 o.size)) /\ W = w' from fun (W : World) => wsingle_any x.size 0 o.size W (by omega) (by omega))
  rw [hs] at CS
  have HWB := Lib.hid hwb
  have HB := Lib.hid hB
  simp only [Bw.T.size] at CI
  generalize x.size = sl at *
  generalize o.size = so at *
  clear hx ho hu hv' k1 k2 _hok hn hs hwb hB hBW h0 h1 h2 h3 hsz p0 p1 q0 q1
  go_enter Tryz.func150, Tryz.ntmps150
  go_wp2_with fail
  rw [HWB.out]
  go_quiet (fail)
  go_wp2_with (first
    | (go_at_call 56; first | ((with_reducible refine (CL.out _ (by exact gB2)).mono ?_); rintro e w' ⟨rfl, rfl⟩) | ((with_reducible refine (CI.out _ (by exact gB2)).mono ?_); rintro e w' ⟨rfl, rfl⟩) | ((with_reducible refine (CO.out _ (by exact gB2)).mono ?_); rintro e w' ⟨rfl, rfl⟩))
    | (go_at_call 156; (with_reducible refine (CS.out _).mono ?_); rintro e w' ⟨rfl, rfl⟩))
  go_quiet (fail)
  go_wp2
  go_ret
  exact ⟨_, rfl, rfl, HB.out.trans (Below.mono (by exact gB2) HB.out.size)⟩
set_option maxRecDepth 100000 in
set_option maxHeartbeats 1000000 in
theorem turnL_no1 {ok : Nat -> Prop} {x il ir o : Bw.T} {p q ip : Bw.PV} {xv hv u v : Value} {w : World} (hx : TreeAt ok w xv x) (hh : TreeAt ok w hv (.node (.node il ip ir) q o)) (hu : BytesAt ok w u p.1) (hv' : BytesAt ok w v p.2) (_hok : ∀ k, w.heap.size <= k -> ok k) (hn : x.size + ((il.size + 1 + ir.size) + 1 + o.size) <= 1048575) (hs : Bw.singleB x.size (Bw.T.node il ip ir).size o.size = false) (e1 : Bw.evenB x.size il.size = false) :
    Calls Tryz.prog 150 #[xv, .agg #[u, v], hv] w (Gives w fun r w' => TreeAt ok w' r .nil) := by
  obtain ⟨b, u1, u2, iv, ov, rfl, ⟨_, h0⟩, ⟨_, h1⟩, ⟨_, h2⟩, ⟨_, h3⟩, _, k1, k2, hi, ho⟩ := treeAt_open hh
  obtain ⟨A1, rfl⟩ := hx.form
  obtain ⟨A3, rfl⟩ := ho.form
  obtain ⟨U, cu, rfl⟩ := hu.form
  obtain ⟨V, cv, rfl⟩ := hv'.form
  obtain ⟨U1, c1, rfl⟩ := k1.form
  obtain ⟨U2, c2, rfl⟩ := k2.form
  have hbl := World.block_lt_of_cell? w _ h0
  dsimp only at hbl
  obtain ⟨wb, hwb⟩ : ∃ wb, w.alloc (.cells #[.slice U p.1.length cu, .slice V p.2.length cv] 62) = wb := ⟨_, rfl⟩
  have hsz : wb.heap.size = w.heap.size + 1 := by rw [<- hwb]; simp
  have hB : Below w.heap.size w wb := by rw [<- hwb]; exact gB1
  have hBW : ∀ W, Below wb.heap.size wb W -> Below w.heap.size w W := fun W hW => hB.trans (hW.mono hB.size)
  have p0 : wb.cell? ⟨w.heap.size, 0, none⟩ = some (.slice U p.1.length cu) := by rw [<- hwb]; exact cell_new w 0 _ _ 0 _ rfl
  have p1 : wb.cell? ⟨w.heap.size, 1, none⟩ = some (.slice V p.2.length cv) := by rw [<- hwb]; exact cell_new w 0 _ _ 1 _ rfl
  have q0 := (hB.cell (p := ⟨b, 0, none⟩) hbl).trans h0
  have q1 := (hB.cell (p := ⟨b, 1, none⟩) hbl).trans h1
  have q2 := (hB.cell (p := ⟨b, 2, none⟩) hbl).trans h2
  have q3 := (hB.cell (p := ⟨b, 3, none⟩) hbl).trans h3
  have CL := Lib.hid (fun (W : World) (hW : Below wb.heap.size wb W) => size_any (hx.move (Moves.below (hBW W hW))))
  have CI := Lib.hid (fun (W : World) (hW : Below wb.heap.size wb W) => size_any (hi.move (Moves.below (hBW W hW))))
  have CO := Lib.hid (fun (W : World) (hW : Below wb.heap.size wb W) => size_any (ho.move (Moves.below (hBW W hW))))
  obtain ⟨bi, u3, u4, ilv, irv, rfl, ⟨_, g0⟩, ⟨_, g1⟩, ⟨_, g2⟩, ⟨_, g3⟩, _, k3, k4, hil, hir⟩ := treeAt_open hi
  obtain ⟨A4, rfl⟩ := hil.form
  obtain ⟨A5, rfl⟩ := hir.form
  obtain ⟨U3, c3, rfl⟩ := k3.form
  obtain ⟨U4, c4, rfl⟩ := k4.form
  have hbi := World.block_lt_of_cell? w _ g0
  dsimp only at hbi
  have i0 := (hB.cell (p := ⟨bi, 0, none⟩) hbi).trans g0
  have i1 := (hB.cell (p := ⟨bi, 1, none⟩) hbi).trans g1
  have i2 := (hB.cell (p := ⟨bi, 2, none⟩) hbi).trans g2
  have i3 := (hB.cell (p := ⟨bi, 3, none⟩) hbi).trans g3
  have CIL := Lib.hid (fun (W : World) (hW : Below wb.heap.size wb W) => size_any (hil.move (Moves.below (hBW W hW))))
  have CIR := Lib.hid (fun (W : World) (hW : Below wb.heap.size wb W) => size_any (hir.move (Moves.below (hBW W hW))))
  have CS := Lib.hid (fun (W : World) => wsingle_any x.size (Bw.T.node il ip ir).size o.size W (by simp only [Bw.T.size]; omega) (by omega))
  rw [hs] at CS
  have CE1 := Lib.hid (fun (W : World) => weven_b x.size il.size W (by omega) (by omega))
  have CE2 := Lib.hid (fun (W : World) => weven_b ir.size o.size W (by omega) (by omega))
  have CE3 := Lib.hid (fun (W : World) => weven_b (x.size + 1 + il.size) (ir.size + 1 + o.size) W (by omega) (by omega))
  simp only [Int.natCast_add, Int.cast_ofNat_Int] at CE3
  have s1 : IntKind.i64.wrap ((x.size : Int) + 1) = (x.size : Int) + 1 := IntWalk.i64_in _ (by omega)
  have s2 : IntKind.i64.wrap ((x.size : Int) + 1 + (il.size : Int)) = (x.size : Int) + 1 + (il.size : Int) := IntWalk.i64_in _ (by omega)
  have s3 : IntKind.i64.wrap ((ir.size : Int) + 1) = (ir.size : Int) + 1 := IntWalk.i64_in _ (by omega)
  have s4 : IntKind.i64.wrap ((ir.size : Int) + 1 + (o.size : Int)) = (ir.size : Int) + 1 + (o.size : Int) := IntWalk.i64_in _ (by omega)
  rw [e1] at CE1
  have HWB := Lib.hid hwb
  have HB := Lib.hid hB
  generalize hgen : (Bw.T.node il ip ir).size = si at *
  generalize x.size = sl at *
  generalize o.size = so at *
  generalize il.size = sil at *
  generalize ir.size = sir at *
  clear hgen
  clear hx ho hu hv' k1 k2 k3 k4 hil hir _hok hn hs hwb hB hBW h0 h1 h2 h3 hsz p0 p1 q0 q1 g0 g1 g2 g3 i0 i1 e1
  go_enter Tryz.func150, Tryz.ntmps150
  go_wp2_with fail
  rw [HWB.out]
  go_quiet (fail)
  go_wp2_with (first
    | (go_at_call 56; first | ((with_reducible refine (CL.out _ (by exact gB2)).mono ?_); rintro e w' ⟨rfl, rfl⟩) | ((with_reducible refine (CI.out _ (by exact gB2)).mono ?_); rintro e w' ⟨rfl, rfl⟩) | ((with_reducible refine (CO.out _ (by exact gB2)).mono ?_); rintro e w' ⟨rfl, rfl⟩))
    | (go_at_call 156; (with_reducible refine (CS.out _).mono ?_); rintro e w' ⟨rfl, rfl⟩))
  go_quiet ((first
    | (go_at_call 56; first | with_reducible exact quiet_add_left (CL.out _ (by exact gB2)) | with_reducible exact quiet_add_left (CO.out _ (by exact gB2)) | with_reducible exact quiet_add_left (CIL.out _ (by exact gB2)) | with_reducible exact quiet_add_left (CIR.out _ (by exact gB2)))
    | (go_at_call 57; first | with_reducible exact quiet_add_left (CE1.out _) | with_reducible exact quiet_add_left (CE2.out _) | with_reducible exact quiet_add_left (CE3.out _))))
  go_wp2
  go_ret
  exact ⟨_, rfl, rfl, HB.out.trans (Below.mono (by exact gB2) HB.out.size)⟩
set_option maxRecDepth 100000 in
set_option maxHeartbeats 1000000 in
theorem turnL_no2 {ok : Nat -> Prop} {x il ir o : Bw.T} {p q ip : Bw.PV} {xv hv u v : Value} {w : World} (hx : TreeAt ok w xv x) (hh : TreeAt ok w hv (.node (.node il ip ir) q o)) (hu : BytesAt ok w u p.1) (hv' : BytesAt ok w v p.2) (_hok : ∀ k, w.heap.size <= k -> ok k) (hn : x.size + ((il.size + 1 + ir.size) + 1 + o.size) <= 1048575) (hs : Bw.singleB x.size (Bw.T.node il ip ir).size o.size = false) (e1 : Bw.evenB x.size il.size = true) (e2 : Bw.evenB ir.size o.size = false) :
    Calls Tryz.prog 150 #[xv, .agg #[u, v], hv] w (Gives w fun r w' => TreeAt ok w' r .nil) := by
  obtain ⟨b, u1, u2, iv, ov, rfl, ⟨_, h0⟩, ⟨_, h1⟩, ⟨_, h2⟩, ⟨_, h3⟩, _, k1, k2, hi, ho⟩ := treeAt_open hh
  obtain ⟨A1, rfl⟩ := hx.form
  obtain ⟨A3, rfl⟩ := ho.form
  obtain ⟨U, cu, rfl⟩ := hu.form
  obtain ⟨V, cv, rfl⟩ := hv'.form
  obtain ⟨U1, c1, rfl⟩ := k1.form
  obtain ⟨U2, c2, rfl⟩ := k2.form
  have hbl := World.block_lt_of_cell? w _ h0
  dsimp only at hbl
  obtain ⟨wb, hwb⟩ : ∃ wb, w.alloc (.cells #[.slice U p.1.length cu, .slice V p.2.length cv] 62) = wb := ⟨_, rfl⟩
  have hsz : wb.heap.size = w.heap.size + 1 := by rw [<- hwb]; simp
  have hB : Below w.heap.size w wb := by rw [<- hwb]; exact gB1
  have hBW : ∀ W, Below wb.heap.size wb W -> Below w.heap.size w W := fun W hW => hB.trans (hW.mono hB.size)
  have p0 : wb.cell? ⟨w.heap.size, 0, none⟩ = some (.slice U p.1.length cu) := by rw [<- hwb]; exact cell_new w 0 _ _ 0 _ rfl
  have p1 : wb.cell? ⟨w.heap.size, 1, none⟩ = some (.slice V p.2.length cv) := by rw [<- hwb]; exact cell_new w 0 _ _ 1 _ rfl
  have q0 := (hB.cell (p := ⟨b, 0, none⟩) hbl).trans h0
  have q1 := (hB.cell (p := ⟨b, 1, none⟩) hbl).trans h1
  have q2 := (hB.cell (p := ⟨b, 2, none⟩) hbl).trans h2
  have q3 := (hB.cell (p := ⟨b, 3, none⟩) hbl).trans h3
  have CL := Lib.hid (fun (W : World) (hW : Below wb.heap.size wb W) => size_any (hx.move (Moves.below (hBW W hW))))
  have CI := Lib.hid (fun (W : World) (hW : Below wb.heap.size wb W) => size_any (hi.move (Moves.below (hBW W hW))))
  have CO := Lib.hid (fun (W : World) (hW : Below wb.heap.size wb W) => size_any (ho.move (Moves.below (hBW W hW))))
  obtain ⟨bi, u3, u4, ilv, irv, rfl, ⟨_, g0⟩, ⟨_, g1⟩, ⟨_, g2⟩, ⟨_, g3⟩, _, k3, k4, hil, hir⟩ := treeAt_open hi
  obtain ⟨A4, rfl⟩ := hil.form
  obtain ⟨A5, rfl⟩ := hir.form
  obtain ⟨U3, c3, rfl⟩ := k3.form
  obtain ⟨U4, c4, rfl⟩ := k4.form
  have hbi := World.block_lt_of_cell? w _ g0
  dsimp only at hbi
  have i0 := (hB.cell (p := ⟨bi, 0, none⟩) hbi).trans g0
  have i1 := (hB.cell (p := ⟨bi, 1, none⟩) hbi).trans g1
  have i2 := (hB.cell (p := ⟨bi, 2, none⟩) hbi).trans g2
  have i3 := (hB.cell (p := ⟨bi, 3, none⟩) hbi).trans g3
  have CIL := Lib.hid (fun (W : World) (hW : Below wb.heap.size wb W) => size_any (hil.move (Moves.below (hBW W hW))))
  have CIR := Lib.hid (fun (W : World) (hW : Below wb.heap.size wb W) => size_any (hir.move (Moves.below (hBW W hW))))
  have CS := Lib.hid (fun (W : World) => wsingle_any x.size (Bw.T.node il ip ir).size o.size W (by simp only [Bw.T.size]; omega) (by omega))
  rw [hs] at CS
  have CE1 := Lib.hid (fun (W : World) => weven_b x.size il.size W (by omega) (by omega))
  have CE2 := Lib.hid (fun (W : World) => weven_b ir.size o.size W (by omega) (by omega))
  have CE3 := Lib.hid (fun (W : World) => weven_b (x.size + 1 + il.size) (ir.size + 1 + o.size) W (by omega) (by omega))
  simp only [Int.natCast_add, Int.cast_ofNat_Int] at CE3
  have s1 : IntKind.i64.wrap ((x.size : Int) + 1) = (x.size : Int) + 1 := IntWalk.i64_in _ (by omega)
  have s2 : IntKind.i64.wrap ((x.size : Int) + 1 + (il.size : Int)) = (x.size : Int) + 1 + (il.size : Int) := IntWalk.i64_in _ (by omega)
  have s3 : IntKind.i64.wrap ((ir.size : Int) + 1) = (ir.size : Int) + 1 := IntWalk.i64_in _ (by omega)
  have s4 : IntKind.i64.wrap ((ir.size : Int) + 1 + (o.size : Int)) = (ir.size : Int) + 1 + (o.size : Int) := IntWalk.i64_in _ (by omega)
  rw [e1] at CE1
  rw [e2] at CE2
  have HWB := Lib.hid hwb
  have HB := Lib.hid hB
  generalize hgen : (Bw.T.node il ip ir).size = si at *
  generalize x.size = sl at *
  generalize o.size = so at *
  generalize il.size = sil at *
  generalize ir.size = sir at *
  clear hgen
  clear hx ho hu hv' k1 k2 k3 k4 hil hir _hok hn hs hwb hB hBW h0 h1 h2 h3 hsz p0 p1 q0 q1 g0 g1 g2 g3 i0 i1 e1 e2
  go_enter Tryz.func150, Tryz.ntmps150
  go_wp2_with fail
  rw [HWB.out]
  go_quiet (fail)
  go_wp2_with (first
    | (go_at_call 56; first | ((with_reducible refine (CL.out _ (by exact gB2)).mono ?_); rintro e w' ⟨rfl, rfl⟩) | ((with_reducible refine (CI.out _ (by exact gB2)).mono ?_); rintro e w' ⟨rfl, rfl⟩) | ((with_reducible refine (CO.out _ (by exact gB2)).mono ?_); rintro e w' ⟨rfl, rfl⟩))
    | (go_at_call 156; (with_reducible refine (CS.out _).mono ?_); rintro e w' ⟨rfl, rfl⟩))
  go_quiet ((first
    | (go_at_call 56; first | with_reducible exact quiet_add_left (CL.out _ (by exact gB2)) | with_reducible exact quiet_add_left (CO.out _ (by exact gB2)) | with_reducible exact quiet_add_left (CIL.out _ (by exact gB2)) | with_reducible exact quiet_add_left (CIR.out _ (by exact gB2)))
    | (go_at_call 57; first | with_reducible exact quiet_add_left (CE1.out _) | with_reducible exact quiet_add_left (CE2.out _) | with_reducible exact quiet_add_left (CE3.out _))))
  go_wp2
  go_ret
  exact ⟨_, rfl, rfl, HB.out.trans (Below.mono (by exact gB2) HB.out.size)⟩
set_option maxRecDepth 100000 in
set_option maxHeartbeats 1000000 in
theorem turnL_no3 {ok : Nat -> Prop} {x il ir o : Bw.T} {p q ip : Bw.PV} {xv hv u v : Value} {w : World} (hx : TreeAt ok w xv x) (hh : TreeAt ok w hv (.node (.node il ip ir) q o)) (hu : BytesAt ok w u p.1) (hv' : BytesAt ok w v p.2) (_hok : ∀ k, w.heap.size <= k -> ok k) (hn : x.size + ((il.size + 1 + ir.size) + 1 + o.size) <= 1048575) (hs : Bw.singleB x.size (Bw.T.node il ip ir).size o.size = false) (e1 : Bw.evenB x.size il.size = true) (e2 : Bw.evenB ir.size o.size = true) (e3 : Bw.evenB (x.size + 1 + il.size) (ir.size + 1 + o.size) = false) :
    Calls Tryz.prog 150 #[xv, .agg #[u, v], hv] w (Gives w fun r w' => TreeAt ok w' r .nil) := by
  obtain ⟨b, u1, u2, iv, ov, rfl, ⟨_, h0⟩, ⟨_, h1⟩, ⟨_, h2⟩, ⟨_, h3⟩, _, k1, k2, hi, ho⟩ := treeAt_open hh
  obtain ⟨A1, rfl⟩ := hx.form
  obtain ⟨A3, rfl⟩ := ho.form
  obtain ⟨U, cu, rfl⟩ := hu.form
  obtain ⟨V, cv, rfl⟩ := hv'.form
  obtain ⟨U1, c1, rfl⟩ := k1.form
  obtain ⟨U2, c2, rfl⟩ := k2.form
  have hbl := World.block_lt_of_cell? w _ h0
  dsimp only at hbl
  obtain ⟨wb, hwb⟩ : ∃ wb, w.alloc (.cells #[.slice U p.1.length cu, .slice V p.2.length cv] 62) = wb := ⟨_, rfl⟩
  have hsz : wb.heap.size = w.heap.size + 1 := by rw [<- hwb]; simp
  have hB : Below w.heap.size w wb := by rw [<- hwb]; exact gB1
  have hBW : ∀ W, Below wb.heap.size wb W -> Below w.heap.size w W := fun W hW => hB.trans (hW.mono hB.size)
  have p0 : wb.cell? ⟨w.heap.size, 0, none⟩ = some (.slice U p.1.length cu) := by rw [<- hwb]; exact cell_new w 0 _ _ 0 _ rfl
  have p1 : wb.cell? ⟨w.heap.size, 1, none⟩ = some (.slice V p.2.length cv) := by rw [<- hwb]; exact cell_new w 0 _ _ 1 _ rfl
  have q0 := (hB.cell (p := ⟨b, 0, none⟩) hbl).trans h0
  have q1 := (hB.cell (p := ⟨b, 1, none⟩) hbl).trans h1
  have q2 := (hB.cell (p := ⟨b, 2, none⟩) hbl).trans h2
  have q3 := (hB.cell (p := ⟨b, 3, none⟩) hbl).trans h3
  have CL := Lib.hid (fun (W : World) (hW : Below wb.heap.size wb W) => size_any (hx.move (Moves.below (hBW W hW))))
  have CI := Lib.hid (fun (W : World) (hW : Below wb.heap.size wb W) => size_any (hi.move (Moves.below (hBW W hW))))
  have CO := Lib.hid (fun (W : World) (hW : Below wb.heap.size wb W) => size_any (ho.move (Moves.below (hBW W hW))))
  obtain ⟨bi, u3, u4, ilv, irv, rfl, ⟨_, g0⟩, ⟨_, g1⟩, ⟨_, g2⟩, ⟨_, g3⟩, _, k3, k4, hil, hir⟩ := treeAt_open hi
  obtain ⟨A4, rfl⟩ := hil.form
  obtain ⟨A5, rfl⟩ := hir.form
  obtain ⟨U3, c3, rfl⟩ := k3.form
  obtain ⟨U4, c4, rfl⟩ := k4.form
  have hbi := World.block_lt_of_cell? w _ g0
  dsimp only at hbi
  have i0 := (hB.cell (p := ⟨bi, 0, none⟩) hbi).trans g0
  have i1 := (hB.cell (p := ⟨bi, 1, none⟩) hbi).trans g1
  have i2 := (hB.cell (p := ⟨bi, 2, none⟩) hbi).trans g2
  have i3 := (hB.cell (p := ⟨bi, 3, none⟩) hbi).trans g3
  have CIL := Lib.hid (fun (W : World) (hW : Below wb.heap.size wb W) => size_any (hil.move (Moves.below (hBW W hW))))
  have CIR := Lib.hid (fun (W : World) (hW : Below wb.heap.size wb W) => size_any (hir.move (Moves.below (hBW W hW))))
  have CS := Lib.hid (fun (W : World) => wsingle_any x.size (Bw.T.node il ip ir).size o.size W (by simp only [Bw.T.size]; omega) (by omega))
  rw [hs] at CS
  have CE1 := Lib.hid (fun (W : World) => weven_b x.size il.size W (by omega) (by omega))
  have CE2 := Lib.hid (fun (W : World) => weven_b ir.size o.size W (by omega) (by omega))
  have CE3 := Lib.hid (fun (W : World) => weven_b (x.size + 1 + il.size) (ir.size + 1 + o.size) W (by omega) (by omega))
  simp only [Int.natCast_add, Int.cast_ofNat_Int] at CE3
  have s1 : IntKind.i64.wrap ((x.size : Int) + 1) = (x.size : Int) + 1 := IntWalk.i64_in _ (by omega)
  have s2 : IntKind.i64.wrap ((x.size : Int) + 1 + (il.size : Int)) = (x.size : Int) + 1 + (il.size : Int) := IntWalk.i64_in _ (by omega)
  have s3 : IntKind.i64.wrap ((ir.size : Int) + 1) = (ir.size : Int) + 1 := IntWalk.i64_in _ (by omega)
  have s4 : IntKind.i64.wrap ((ir.size : Int) + 1 + (o.size : Int)) = (ir.size : Int) + 1 + (o.size : Int) := IntWalk.i64_in _ (by omega)
  rw [e1] at CE1
  rw [e2] at CE2
  rw [e3] at CE3
  have HWB := Lib.hid hwb
  have HB := Lib.hid hB
  generalize hgen : (Bw.T.node il ip ir).size = si at *
  generalize x.size = sl at *
  generalize o.size = so at *
  generalize il.size = sil at *
  generalize ir.size = sir at *
  clear hgen
  clear hx ho hu hv' k1 k2 k3 k4 hil hir _hok hn hs hwb hB hBW h0 h1 h2 h3 hsz p0 p1 q0 q1 g0 g1 g2 g3 i0 i1 e1 e2 e3
  go_enter Tryz.func150, Tryz.ntmps150
  go_wp2_with fail
  rw [HWB.out]
  go_quiet (fail)
  go_wp2_with (first
    | (go_at_call 56; first | ((with_reducible refine (CL.out _ (by exact gB2)).mono ?_); rintro e w' ⟨rfl, rfl⟩) | ((with_reducible refine (CI.out _ (by exact gB2)).mono ?_); rintro e w' ⟨rfl, rfl⟩) | ((with_reducible refine (CO.out _ (by exact gB2)).mono ?_); rintro e w' ⟨rfl, rfl⟩))
    | (go_at_call 156; (with_reducible refine (CS.out _).mono ?_); rintro e w' ⟨rfl, rfl⟩))
  go_quiet ((first
    | (go_at_call 56; first | with_reducible exact quiet_add_left (CL.out _ (by exact gB2)) | with_reducible exact quiet_add_left (CO.out _ (by exact gB2)) | with_reducible exact quiet_add_left (CIL.out _ (by exact gB2)) | with_reducible exact quiet_add_left (CIR.out _ (by exact gB2)))
    | (go_at_call 57; first | with_reducible exact quiet_add_left (CE1.out _) | with_reducible exact quiet_add_left (CE2.out _) | with_reducible exact quiet_add_left (CE3.out _))))
  go_wp2
  go_ret
  exact ⟨_, rfl, rfl, HB.out.trans (Below.mono (by exact gB2) HB.out.size)⟩
set_option maxRecDepth 100000 in
set_option maxHeartbeats 1600000 in
theorem turnL_twice {ok : Nat -> Prop} {x il ir o : Bw.T} {p q ip : Bw.PV} {xv hv u v : Value} {w : World} (hx : TreeAt ok w xv x) (hh : TreeAt ok w hv (.node (.node il ip ir) q o)) (hu : BytesAt ok w u p.1) (hv' : BytesAt ok w v p.2) (hok : ∀ k, w.heap.size <= k -> ok k) (hn : x.size + ((il.size + 1 + ir.size) + 1 + o.size) <= 1048575) (hs : Bw.singleB x.size (Bw.T.node il ip ir).size o.size = false) (e1 : Bw.evenB x.size il.size = true) (e2 : Bw.evenB ir.size o.size = true) (e3 : Bw.evenB (x.size + 1 + il.size) (ir.size + 1 + o.size) = true) :
    Calls Tryz.prog 150 #[xv, .agg #[u, v], hv] w (Gives w fun r w' => TreeAt ok w' r (.node (.node x p il) ip (.node ir q o))) := by
  obtain ⟨b, u1, u2, iv, ov, rfl, ⟨_, h0⟩, ⟨_, h1⟩, ⟨_, h2⟩, ⟨_, h3⟩, _, k1, k2, hi, ho⟩ := treeAt_open hh
  obtain ⟨A1, rfl⟩ := hx.form
  obtain ⟨A3, rfl⟩ := ho.form
  obtain ⟨U, cu, rfl⟩ := hu.form
  obtain ⟨V, cv, rfl⟩ := hv'.form
  obtain ⟨U1, c1, rfl⟩ := k1.form
  obtain ⟨U2, c2, rfl⟩ := k2.form
  have hbl := World.block_lt_of_cell? w _ h0
  dsimp only at hbl
  obtain ⟨wb, hwb⟩ : ∃ wb, w.alloc (.cells #[.slice U p.1.length cu, .slice V p.2.length cv] 62) = wb := ⟨_, rfl⟩
  have hsz : wb.heap.size = w.heap.size + 1 := by rw [<- hwb]; simp
  have hB : Below w.heap.size w wb := by rw [<- hwb]; exact gB1
  have hBW : ∀ W, Below wb.heap.size wb W -> Below w.heap.size w W := fun W hW => hB.trans (hW.mono hB.size)
  have p0 : wb.cell? ⟨w.heap.size, 0, none⟩ = some (.slice U p.1.length cu) := by rw [<- hwb]; exact cell_new w 0 _ _ 0 _ rfl
  have p1 : wb.cell? ⟨w.heap.size, 1, none⟩ = some (.slice V p.2.length cv) := by rw [<- hwb]; exact cell_new w 0 _ _ 1 _ rfl
  have q0 := (hB.cell (p := ⟨b, 0, none⟩) hbl).trans h0
  have q1 := (hB.cell (p := ⟨b, 1, none⟩) hbl).trans h1
  have q2 := (hB.cell (p := ⟨b, 2, none⟩) hbl).trans h2
  have q3 := (hB.cell (p := ⟨b, 3, none⟩) hbl).trans h3
  have CL := Lib.hid (fun (W : World) (hW : Below wb.heap.size wb W) => size_any (hx.move (Moves.below (hBW W hW))))
  have CI := Lib.hid (fun (W : World) (hW : Below wb.heap.size wb W) => size_any (hi.move (Moves.below (hBW W hW))))
  have CO := Lib.hid (fun (W : World) (hW : Below wb.heap.size wb W) => size_any (ho.move (Moves.below (hBW W hW))))
  obtain ⟨bi, u3, u4, ilv, irv, rfl, ⟨_, g0⟩, ⟨_, g1⟩, ⟨_, g2⟩, ⟨_, g3⟩, _, k3, k4, hil, hir⟩ := treeAt_open hi
  obtain ⟨A4, rfl⟩ := hil.form
  obtain ⟨A5, rfl⟩ := hir.form
  obtain ⟨U3, c3, rfl⟩ := k3.form
  obtain ⟨U4, c4, rfl⟩ := k4.form
  have hbi := World.block_lt_of_cell? w _ g0
  dsimp only at hbi
  have i0 := (hB.cell (p := ⟨bi, 0, none⟩) hbi).trans g0
  have i1 := (hB.cell (p := ⟨bi, 1, none⟩) hbi).trans g1
  have i2 := (hB.cell (p := ⟨bi, 2, none⟩) hbi).trans g2
  have i3 := (hB.cell (p := ⟨bi, 3, none⟩) hbi).trans g3
  have CIL := Lib.hid (fun (W : World) (hW : Below wb.heap.size wb W) => size_any (hil.move (Moves.below (hBW W hW))))
  have CIR := Lib.hid (fun (W : World) (hW : Below wb.heap.size wb W) => size_any (hir.move (Moves.below (hBW W hW))))
  have CS := Lib.hid (fun (W : World) => wsingle_any x.size (Bw.T.node il ip ir).size o.size W (by simp only [Bw.T.size]; omega) (by omega))
  rw [hs] at CS
  have CE1 := Lib.hid (fun (W : World) => weven_b x.size il.size W (by omega) (by omega))
  have CE2 := Lib.hid (fun (W : World) => weven_b ir.size o.size W (by omega) (by omega))
  have CE3 := Lib.hid (fun (W : World) => weven_b (x.size + 1 + il.size) (ir.size + 1 + o.size) W (by omega) (by omega))
  simp only [Int.natCast_add, Int.cast_ofNat_Int] at CE3
  have s1 : IntKind.i64.wrap ((x.size : Int) + 1) = (x.size : Int) + 1 := IntWalk.i64_in _ (by omega)
  have s2 : IntKind.i64.wrap ((x.size : Int) + 1 + (il.size : Int)) = (x.size : Int) + 1 + (il.size : Int) := IntWalk.i64_in _ (by omega)
  have s3 : IntKind.i64.wrap ((ir.size : Int) + 1) = (ir.size : Int) + 1 := IntWalk.i64_in _ (by omega)
  have s4 : IntKind.i64.wrap ((ir.size : Int) + 1 + (o.size : Int)) = (ir.size : Int) + 1 + (o.size : Int) := IntWalk.i64_in _ (by omega)
  rw [e1] at CE1
  rw [e2] at CE2
  rw [e3] at CE3
  have C1 := Lib.hid (fun (W : World) (hW : Below wb.heap.size wb W) => node_any (hx.move (Moves.below (hBW W hW))) (hil.move (Moves.below (hBW W hW))) (hu.move goodByte (Moves.below (hBW W hW))) (hv'.move goodByte (Moves.below (hBW W hW))) (fun k hk => hok k (Nat.le_trans (hBW W hW).size hk)) (by omega))
  have C2 := Lib.hid (fun (W : World) (hW : Below wb.heap.size wb W) => node_any (hir.move (Moves.below (hBW W hW))) (ho.move (Moves.below (hBW W hW))) (k1.move goodByte (Moves.below (hBW W hW))) (k2.move goodByte (Moves.below (hBW W hW))) (fun k hk => hok k (Nat.le_trans (hBW W hW).size hk)) (by omega))
  have C3 := Lib.hid (fun (W : World) (y z : Value) (hy : TreeAt ok W y (.node x p il)) (hz : TreeAt ok W z (.node ir q o)) (hW : Below wb.heap.size wb W) => node_any hy hz (k3.move goodByte (Moves.below (hBW W hW))) (k4.move goodByte (Moves.below (hBW W hW))) (fun k hk => hok k (Nat.le_trans (hBW W hW).size hk)) (by simp only [Bw.T.size]; omega))
  have SK : Hid (∀ W, Below wb.heap.size wb W -> W.cell? ⟨w.heap.size, 0, none⟩ = some (.slice U p.1.length cu) /\ W.cell? ⟨w.heap.size, 1, none⟩ = some (.slice V p.2.length cv) /\ W.cell? ⟨b, 0, none⟩ = some (.slice U1 q.1.length c1) /\ W.cell? ⟨b, 1, none⟩ = some (.slice U2 q.2.length c2) /\ W.cell? ⟨bi, 0, none⟩ = some (.slice U3 ip.1.length c3) /\ W.cell? ⟨bi, 1, none⟩ = some (.slice U4 ip.2.length c4) /\ W.cell? ⟨bi, 2, none⟩ = some (.pointer A4) /\ W.cell? ⟨bi, 3, none⟩ = some (.pointer A5)) :=
    Lib.hid fun W hW => ⟨(hW.cell (p := ⟨w.heap.size, 0, none⟩) (by simp only; omega)).trans p0, (hW.cell (p := ⟨w.heap.size, 1, none⟩) (by simp only; omega)).trans p1, (hW.cell (p := ⟨b, 0, none⟩) (by simp only; omega)).trans q0, (hW.cell (p := ⟨b, 1, none⟩) (by simp only; omega)).trans q1, (hW.cell (p := ⟨bi, 0, none⟩) (by simp only; omega)).trans i0, (hW.cell (p := ⟨bi, 1, none⟩) (by simp only; omega)).trans i1, (hW.cell (p := ⟨bi, 2, none⟩) (by simp only; omega)).trans i2, (hW.cell (p := ⟨bi, 3, none⟩) (by simp only; omega)).trans i3⟩
  have HWB := Lib.hid hwb
  have HB := Lib.hid hB
  have HSZ : Hid (w.heap.size <= wb.heap.size) := Lib.hid hB.size
  have HOKW := Lib.hid hok
  generalize hgen : (Bw.T.node il ip ir).size = si at *
  generalize x.size = sl at *
  generalize o.size = so at *
  generalize il.size = sil at *
  generalize ir.size = sir at *
  clear hgen
  clear hx ho hu hv' k1 k2 k3 k4 hil hir hok hn hs hwb hB hBW h0 h1 h2 h3 hsz g0 g1 g2 g3 e1 e2 e3
  go_enter Tryz.func150, Tryz.ntmps150
  go_wp2_with fail
  rw [HWB.out]
  go_quiet (fail)
  go_wp2_with (first
    | (go_at_call 56; first | ((with_reducible refine (CL.out _ (by exact gB2)).mono ?_); rintro e w' ⟨rfl, rfl⟩) | ((with_reducible refine (CI.out _ (by exact gB2)).mono ?_); rintro e w' ⟨rfl, rfl⟩) | ((with_reducible refine (CO.out _ (by exact gB2)).mono ?_); rintro e w' ⟨rfl, rfl⟩))
    | (go_at_call 156; (with_reducible refine (CS.out _).mono ?_); rintro e w' ⟨rfl, rfl⟩))
  go_quiet ((first
    | (go_at_call 56; first | with_reducible exact quiet_add_left (CL.out _ (by exact gB2)) | with_reducible exact quiet_add_left (CO.out _ (by exact gB2)) | with_reducible exact quiet_add_left (CIL.out _ (by exact gB2)) | with_reducible exact quiet_add_left (CIR.out _ (by exact gB2)))
    | (go_at_call 57; first | with_reducible exact quiet_add_left (CE1.out _) | with_reducible exact quiet_add_left (CE2.out _) | with_reducible exact quiet_add_left (CE3.out _))))
  go_wp2_with fail
  go_region_held3 (fun W => W.cell? ⟨w.heap.size, 0, none⟩ = some (.slice U p.1.length cu) /\ W.cell? ⟨w.heap.size, 1, none⟩ = some (.slice V p.2.length cv) /\ W.cell? ⟨b, 0, none⟩ = some (.slice U1 q.1.length c1) /\ W.cell? ⟨b, 1, none⟩ = some (.slice U2 q.2.length c2) /\ W.cell? ⟨bi, 0, none⟩ = some (.slice U3 ip.1.length c3) /\ W.cell? ⟨bi, 1, none⟩ = some (.slice U4 ip.2.length c4) /\ W.cell? ⟨bi, 2, none⟩ = some (.pointer A4) /\ W.cell? ⟨bi, 3, none⟩ = some (.pointer A5))
    (first | with_reducible exact SK.out _ hB3 | with_reducible exact SK.out _ hB2 | with_reducible exact SK.out _ hB1 | with_reducible exact SK.out _ (by exact gB2))
    ((go_at_call 129; first
      | ((with_reducible refine (C1.out _ (by exact gB2)).mono ?_); rintro e w1 ⟨y1, rfl, hy1, hb1⟩; obtain ⟨Y1, rfl⟩ := hy1.form; have hB1 : Below wb.heap.size wb w1 := Below.trans (by exact gB2) (hb1.mono (by simp)))
      | ((with_reducible refine (C2.out _ hB1).mono ?_); rintro e w2 ⟨y2, rfl, hy2, hb2⟩; obtain ⟨Y2, rfl⟩ := hy2.form; have hB2 : Below wb.heap.size wb w2 := hB1.trans (hb2.mono hB1.size))
      | ((with_reducible refine (C3.out _ _ _ (hy1.move (Moves.below hb2)) hy2 hB2).mono ?_); rintro e w3 ⟨y3, rfl, hy3, hb3⟩; obtain ⟨Y3, rfl⟩ := hy3.form; have hB3 : Below wb.heap.size wb w3 := hB2.trans (hb3.mono hB2.size))))
  go_wp2
  go_ret
  exact ⟨_, rfl, hy3, HB.out.trans (hB3.mono HB.out.size)⟩
theorem turnL_any {ok : Nat -> Prop} {x h : Bw.T} {p : Bw.PV} {xv hv u v : Value} {w : World} (hx : TreeAt ok w xv x) (hh : TreeAt ok w hv h) (hne : h ≠ .nil) (hu : BytesAt ok w u p.1) (hv' : BytesAt ok w v p.2) (hok : ∀ k, w.heap.size <= k -> ok k) (hn : x.size + h.size <= 1048575) :
    Calls Tryz.prog 150 #[xv, .agg #[u, v], hv] w (Gives w fun r w' => TreeAt ok w' r (Bw.T.turnL x p h)) := by
  cases h with
  | nil => exact absurd rfl hne
  | node i q o =>
    simp only [Bw.T.size] at hn
    simp only [Bw.T.turnL]
    by_cases hs : Bw.singleB x.size i.size o.size = true
    · rw [if_pos hs]
      exact turnL_single hx hh hu hv' hok (by omega) hs
    · rw [if_neg hs]
      rw [Bool.not_eq_true] at hs
      cases i with
      | nil => exact turnL_none hx hh hu hv' hok (by simp only [Bw.T.size] at hn; omega) hs
      | node il ip ir =>
        have hn' : x.size + ((il.size + 1 + ir.size) + 1 + o.size) <= 1048575 := by simp only [Bw.T.size] at hn; omega
        simp only
        cases e1 : Bw.evenB x.size il.size with
        | false => exact turnL_no1 hx hh hu hv' hok hn' hs e1
        | true =>
          cases e2 : Bw.evenB ir.size o.size with
          | false => exact turnL_no2 hx hh hu hv' hok hn' hs e1 e2
          | true =>
            cases e3 : Bw.evenB (x.size + 1 + il.size) (ir.size + 1 + o.size) with
            | false => exact turnL_no3 hx hh hu hv' hok hn' hs e1 e2 e3
            | true => exact turnL_twice hx hh hu hv' hok hn' hs e1 e2 e3
set_option maxRecDepth 100000 in
set_option maxHeartbeats 1000000 in
theorem turnR_single {ok : Nat -> Prop} {x i o : Bw.T} {p q : Bw.PV} {xv hv u v : Value} {w : World} (hx : TreeAt ok w xv x) (hh : TreeAt ok w hv (.node o q i)) (hu : BytesAt ok w u p.1) (hv' : BytesAt ok w v p.2) (hok : ∀ k, w.heap.size <= k -> ok k) (hn : x.size + (i.size + 1 + o.size) <= 1048575) (hs : Bw.singleB x.size i.size o.size = true) :
    Calls Tryz.prog 151 #[hv, .agg #[u, v], xv] w (Gives w fun r w' => TreeAt ok w' r (.node o q (.node i p x))) := by
  obtain ⟨b, u1, u2, ov, iv, rfl, ⟨_, h0⟩, ⟨_, h1⟩, ⟨_, h2⟩, ⟨_, h3⟩, _, k1, k2, ho, hi⟩ := treeAt_open hh
  obtain ⟨A1, rfl⟩ := hx.form
  obtain ⟨A3, rfl⟩ := ho.form
  obtain ⟨U, cu, rfl⟩ := hu.form
  obtain ⟨V, cv, rfl⟩ := hv'.form
  obtain ⟨U1, c1, rfl⟩ := k1.form
  obtain ⟨U2, c2, rfl⟩ := k2.form
  have hbl := World.block_lt_of_cell? w _ h0
  dsimp only at hbl
  obtain ⟨wb, hwb⟩ : ∃ wb, w.alloc (.cells #[.slice U p.1.length cu, .slice V p.2.length cv] 62) = wb := ⟨_, rfl⟩
  have hsz : wb.heap.size = w.heap.size + 1 := by rw [<- hwb]; simp
  have hB : Below w.heap.size w wb := by rw [<- hwb]; exact gB1
  have hBW : ∀ W, Below wb.heap.size wb W -> Below w.heap.size w W := fun W hW => hB.trans (hW.mono hB.size)
  have p0 : wb.cell? ⟨w.heap.size, 0, none⟩ = some (.slice U p.1.length cu) := by rw [<- hwb]; exact cell_new w 0 _ _ 0 _ rfl
  have p1 : wb.cell? ⟨w.heap.size, 1, none⟩ = some (.slice V p.2.length cv) := by rw [<- hwb]; exact cell_new w 0 _ _ 1 _ rfl
  have q0 := (hB.cell (p := ⟨b, 0, none⟩) hbl).trans h0
  have q1 := (hB.cell (p := ⟨b, 1, none⟩) hbl).trans h1
  have q2 := (hB.cell (p := ⟨b, 2, none⟩) hbl).trans h2
  have q3 := (hB.cell (p := ⟨b, 3, none⟩) hbl).trans h3
  have CL := Lib.hid (fun (W : World) (hW : Below wb.heap.size wb W) => size_any (hx.move (Moves.below (hBW W hW))))
  have CI := Lib.hid (fun (W : World) (hW : Below wb.heap.size wb W) => size_any (hi.move (Moves.below (hBW W hW))))
  have CO := Lib.hid (fun (W : World) (hW : Below wb.heap.size wb W) => size_any (ho.move (Moves.below (hBW W hW))))
  obtain ⟨A2, rfl⟩ := hi.form
  have CS := Lib.hid (fun (W : World) => wsingle_any x.size i.size o.size W (by omega) (by omega))
  rw [hs] at CS
  have C1 := Lib.hid (fun (W : World) (hW : Below wb.heap.size wb W) => node_any (hi.move (Moves.below (hBW W hW))) (hx.move (Moves.below (hBW W hW))) (hu.move goodByte (Moves.below (hBW W hW))) (hv'.move goodByte (Moves.below (hBW W hW))) (fun k hk => hok k (Nat.le_trans (hBW W hW).size hk)) (by omega))
  have C2 := Lib.hid (fun (W : World) (y : Value) (hy : TreeAt ok W y (.node i p x)) (hW : Below wb.heap.size wb W) => node_any (ho.move (Moves.below (hBW W hW))) hy (k1.move goodByte (Moves.below (hBW W hW))) (k2.move goodByte (Moves.below (hBW W hW))) (fun k hk => hok k (Nat.le_trans (hBW W hW).size hk)) (by simp only [Bw.T.size]; omega))
  have SK : Hid (∀ W, Below wb.heap.size wb W -> W.cell? ⟨w.heap.size, 0, none⟩ = some (.slice U p.1.length cu) /\ W.cell? ⟨w.heap.size, 1, none⟩ = some (.slice V p.2.length cv) /\ W.cell? ⟨b, 0, none⟩ = some (.slice U1 q.1.length c1) /\ W.cell? ⟨b, 1, none⟩ = some (.slice U2 q.2.length c2)) :=
    Lib.hid fun W hW => ⟨(hW.cell (p := ⟨w.heap.size, 0, none⟩) (by simp only; omega)).trans p0, (hW.cell (p := ⟨w.heap.size, 1, none⟩) (by simp only; omega)).trans p1, (hW.cell (p := ⟨b, 0, none⟩) (by simp only; omega)).trans q0, (hW.cell (p := ⟨b, 1, none⟩) (by simp only; omega)).trans q1⟩
  have HWB := Lib.hid hwb
  have HB := Lib.hid hB
  generalize x.size = sl at *
  generalize i.size = si at *
  generalize o.size = so at *
  clear hx hi ho hu hv' k1 k2 hok hn hs hwb hB hBW h0 h1 h2 h3 hsz
  go_enter Tryz.func151, Tryz.ntmps151
  go_wp2_with fail
  rw [HWB.out]
  go_quiet (fail)
  go_wp2_with (first
    | (go_at_call 56; first | ((with_reducible refine (CL.out _ (by exact gB2)).mono ?_); rintro e w' ⟨rfl, rfl⟩) | ((with_reducible refine (CI.out _ (by exact gB2)).mono ?_); rintro e w' ⟨rfl, rfl⟩) | ((with_reducible refine (CO.out _ (by exact gB2)).mono ?_); rintro e w' ⟨rfl, rfl⟩))
    | (go_at_call 156; (with_reducible refine (CS.out _).mono ?_); rintro e w' ⟨rfl, rfl⟩))
  go_region_held3 (fun W => W.cell? ⟨w.heap.size, 0, none⟩ = some (.slice U p.1.length cu) /\ W.cell? ⟨w.heap.size, 1, none⟩ = some (.slice V p.2.length cv) /\ W.cell? ⟨b, 0, none⟩ = some (.slice U1 q.1.length c1) /\ W.cell? ⟨b, 1, none⟩ = some (.slice U2 q.2.length c2))
    (first | with_reducible exact SK.out _ hB2 | with_reducible exact SK.out _ hB1 | with_reducible exact SK.out _ (by exact gB2))
    ((go_at_call 129; first
      | ((with_reducible refine (C1.out _ (by exact gB2)).mono ?_); rintro e w1 ⟨y1, rfl, hy1, hb1⟩; obtain ⟨Y1, rfl⟩ := hy1.form; have hB1 : Below wb.heap.size wb w1 := Below.trans (by exact gB2) (hb1.mono (by simp)))
      | ((with_reducible refine (C2.out _ _ hy1 hB1).mono ?_); rintro e w2 ⟨y2, rfl, hy2, hb2⟩; obtain ⟨Y2, rfl⟩ := hy2.form; have hB2 : Below wb.heap.size wb w2 := hB1.trans (hb2.mono hB1.size))))
  go_wp2
  go_ret
  exact ⟨_, rfl, hy2, HB.out.trans (hB2.mono HB.out.size)⟩
set_option maxRecDepth 100000 in
set_option maxHeartbeats 1000000 in
theorem turnR_none {ok : Nat -> Prop} {x  o : Bw.T} {p q : Bw.PV} {xv hv u v : Value} {w : World} (hx : TreeAt ok w xv x) (hh : TreeAt ok w hv (.node o q .nil)) (hu : BytesAt ok w u p.1) (hv' : BytesAt ok w v p.2) (_hok : ∀ k, w.heap.size <= k -> ok k) (hn : x.size + (0 + 1 + o.size) <= 1048575) (hs : Bw.singleB x.size 0 o.size = false) :
    Calls Tryz.prog 151 #[hv, .agg #[u, v], xv] w (Gives w fun r w' => TreeAt ok w' r .nil) := by
  obtain ⟨b, u1, u2, ov, iv, rfl, ⟨_, h0⟩, ⟨_, h1⟩, ⟨_, h2⟩, ⟨_, h3⟩, _, k1, k2, ho, hi⟩ := treeAt_open hh
  obtain ⟨A1, rfl⟩ := hx.form
  obtain ⟨A3, rfl⟩ := ho.form
  obtain ⟨U, cu, rfl⟩ := hu.form
  obtain ⟨V, cv, rfl⟩ := hv'.form
  obtain ⟨U1, c1, rfl⟩ := k1.form
  obtain ⟨U2, c2, rfl⟩ := k2.form
  have hbl := World.block_lt_of_cell? w _ h0
  dsimp only at hbl
  obtain ⟨wb, hwb⟩ : ∃ wb, w.alloc (.cells #[.slice U p.1.length cu, .slice V p.2.length cv] 62) = wb := ⟨_, rfl⟩
  have hsz : wb.heap.size = w.heap.size + 1 := by rw [<- hwb]; simp
  have hB : Below w.heap.size w wb := by rw [<- hwb]; exact gB1
  have hBW : ∀ W, Below wb.heap.size wb W -> Below w.heap.size w W := fun W hW => hB.trans (hW.mono hB.size)
  have p0 : wb.cell? ⟨w.heap.size, 0, none⟩ = some (.slice U p.1.length cu) := by rw [<- hwb]; exact cell_new w 0 _ _ 0 _ rfl
  have p1 : wb.cell? ⟨w.heap.size, 1, none⟩ = some (.slice V p.2.length cv) := by rw [<- hwb]; exact cell_new w 0 _ _ 1 _ rfl
  have q0 := (hB.cell (p := ⟨b, 0, none⟩) hbl).trans h0
  have q1 := (hB.cell (p := ⟨b, 1, none⟩) hbl).trans h1
  have q2 := (hB.cell (p := ⟨b, 2, none⟩) hbl).trans h2
  have q3 := (hB.cell (p := ⟨b, 3, none⟩) hbl).trans h3
  have CL := Lib.hid (fun (W : World) (hW : Below wb.heap.size wb W) => size_any (hx.move (Moves.below (hBW W hW))))
  have CI := Lib.hid (fun (W : World) (hW : Below wb.heap.size wb W) => size_any (hi.move (Moves.below (hBW W hW))))
  have CO := Lib.hid (fun (W : World) (hW : Below wb.heap.size wb W) => size_any (ho.move (Moves.below (hBW W hW))))
  simp only [TreeAt] at hi
  obtain rfl := hi
  have CS := Lib.hid (show ∀ W : World, Calls Tryz.prog 156 #[.int .i64 (x.size : Nat), .int .i64 0, .int .i64 (o.size : Nat)] W fun e w' => e = .returned (.bool (Bw.singleB x.size 0 o.size)) /\ W = w' from fun (W : World) => wsingle_any x.size 0 o.size W (by omega) (by omega))
  rw [hs] at CS
  have HWB := Lib.hid hwb
  have HB := Lib.hid hB
  simp only [Bw.T.size] at CI
  generalize x.size = sl at *
  generalize o.size = so at *
  clear hx ho hu hv' k1 k2 _hok hn hs hwb hB hBW h0 h1 h2 h3 hsz p0 p1 q0 q1
  go_enter Tryz.func151, Tryz.ntmps151
  go_wp2_with fail
  rw [HWB.out]
  go_quiet (fail)
  go_wp2_with (first
    | (go_at_call 56; first | ((with_reducible refine (CL.out _ (by exact gB2)).mono ?_); rintro e w' ⟨rfl, rfl⟩) | ((with_reducible refine (CI.out _ (by exact gB2)).mono ?_); rintro e w' ⟨rfl, rfl⟩) | ((with_reducible refine (CO.out _ (by exact gB2)).mono ?_); rintro e w' ⟨rfl, rfl⟩))
    | (go_at_call 156; (with_reducible refine (CS.out _).mono ?_); rintro e w' ⟨rfl, rfl⟩))
  go_quiet (fail)
  go_wp2
  go_ret
  exact ⟨_, rfl, rfl, HB.out.trans (Below.mono (by exact gB2) HB.out.size)⟩
set_option maxRecDepth 100000 in
set_option maxHeartbeats 1000000 in
theorem turnR_no1 {ok : Nat -> Prop} {x il ir o : Bw.T} {p q ip : Bw.PV} {xv hv u v : Value} {w : World} (hx : TreeAt ok w xv x) (hh : TreeAt ok w hv (.node o q (.node il ip ir))) (hu : BytesAt ok w u p.1) (hv' : BytesAt ok w v p.2) (_hok : ∀ k, w.heap.size <= k -> ok k) (hn : x.size + ((il.size + 1 + ir.size) + 1 + o.size) <= 1048575) (hs : Bw.singleB x.size (Bw.T.node il ip ir).size o.size = false) (e1 : Bw.evenB x.size ir.size = false) :
    Calls Tryz.prog 151 #[hv, .agg #[u, v], xv] w (Gives w fun r w' => TreeAt ok w' r .nil) := by
  obtain ⟨b, u1, u2, ov, iv, rfl, ⟨_, h0⟩, ⟨_, h1⟩, ⟨_, h2⟩, ⟨_, h3⟩, _, k1, k2, ho, hi⟩ := treeAt_open hh
  obtain ⟨A1, rfl⟩ := hx.form
  obtain ⟨A3, rfl⟩ := ho.form
  obtain ⟨U, cu, rfl⟩ := hu.form
  obtain ⟨V, cv, rfl⟩ := hv'.form
  obtain ⟨U1, c1, rfl⟩ := k1.form
  obtain ⟨U2, c2, rfl⟩ := k2.form
  have hbl := World.block_lt_of_cell? w _ h0
  dsimp only at hbl
  obtain ⟨wb, hwb⟩ : ∃ wb, w.alloc (.cells #[.slice U p.1.length cu, .slice V p.2.length cv] 62) = wb := ⟨_, rfl⟩
  have hsz : wb.heap.size = w.heap.size + 1 := by rw [<- hwb]; simp
  have hB : Below w.heap.size w wb := by rw [<- hwb]; exact gB1
  have hBW : ∀ W, Below wb.heap.size wb W -> Below w.heap.size w W := fun W hW => hB.trans (hW.mono hB.size)
  have p0 : wb.cell? ⟨w.heap.size, 0, none⟩ = some (.slice U p.1.length cu) := by rw [<- hwb]; exact cell_new w 0 _ _ 0 _ rfl
  have p1 : wb.cell? ⟨w.heap.size, 1, none⟩ = some (.slice V p.2.length cv) := by rw [<- hwb]; exact cell_new w 0 _ _ 1 _ rfl
  have q0 := (hB.cell (p := ⟨b, 0, none⟩) hbl).trans h0
  have q1 := (hB.cell (p := ⟨b, 1, none⟩) hbl).trans h1
  have q2 := (hB.cell (p := ⟨b, 2, none⟩) hbl).trans h2
  have q3 := (hB.cell (p := ⟨b, 3, none⟩) hbl).trans h3
  have CL := Lib.hid (fun (W : World) (hW : Below wb.heap.size wb W) => size_any (hx.move (Moves.below (hBW W hW))))
  have CI := Lib.hid (fun (W : World) (hW : Below wb.heap.size wb W) => size_any (hi.move (Moves.below (hBW W hW))))
  have CO := Lib.hid (fun (W : World) (hW : Below wb.heap.size wb W) => size_any (ho.move (Moves.below (hBW W hW))))
  obtain ⟨bi, u3, u4, ilv, irv, rfl, ⟨_, g0⟩, ⟨_, g1⟩, ⟨_, g2⟩, ⟨_, g3⟩, _, k3, k4, hil, hir⟩ := treeAt_open hi
  obtain ⟨A4, rfl⟩ := hil.form
  obtain ⟨A5, rfl⟩ := hir.form
  obtain ⟨U3, c3, rfl⟩ := k3.form
  obtain ⟨U4, c4, rfl⟩ := k4.form
  have hbi := World.block_lt_of_cell? w _ g0
  dsimp only at hbi
  have i0 := (hB.cell (p := ⟨bi, 0, none⟩) hbi).trans g0
  have i1 := (hB.cell (p := ⟨bi, 1, none⟩) hbi).trans g1
  have i2 := (hB.cell (p := ⟨bi, 2, none⟩) hbi).trans g2
  have i3 := (hB.cell (p := ⟨bi, 3, none⟩) hbi).trans g3
  have CIL := Lib.hid (fun (W : World) (hW : Below wb.heap.size wb W) => size_any (hil.move (Moves.below (hBW W hW))))
  have CIR := Lib.hid (fun (W : World) (hW : Below wb.heap.size wb W) => size_any (hir.move (Moves.below (hBW W hW))))
  have CS := Lib.hid (fun (W : World) => wsingle_any x.size (Bw.T.node il ip ir).size o.size W (by simp only [Bw.T.size]; omega) (by omega))
  rw [hs] at CS
  have CE1 := Lib.hid (fun (W : World) => weven_b x.size ir.size W (by omega) (by omega))
  have CE2 := Lib.hid (fun (W : World) => weven_b il.size o.size W (by omega) (by omega))
  have CE3 := Lib.hid (fun (W : World) => weven_b (x.size + 1 + ir.size) (il.size + 1 + o.size) W (by omega) (by omega))
  simp only [Int.natCast_add, Int.cast_ofNat_Int] at CE3
  have s1 : IntKind.i64.wrap ((x.size : Int) + 1) = (x.size : Int) + 1 := IntWalk.i64_in _ (by omega)
  have s2 : IntKind.i64.wrap ((x.size : Int) + 1 + (ir.size : Int)) = (x.size : Int) + 1 + (ir.size : Int) := IntWalk.i64_in _ (by omega)
  have s3 : IntKind.i64.wrap ((il.size : Int) + 1) = (il.size : Int) + 1 := IntWalk.i64_in _ (by omega)
  have s4 : IntKind.i64.wrap ((il.size : Int) + 1 + (o.size : Int)) = (il.size : Int) + 1 + (o.size : Int) := IntWalk.i64_in _ (by omega)
  rw [e1] at CE1
  have HWB := Lib.hid hwb
  have HB := Lib.hid hB
  generalize hgen : (Bw.T.node il ip ir).size = si at *
  generalize x.size = sl at *
  generalize o.size = so at *
  generalize il.size = sil at *
  generalize ir.size = sir at *
  clear hgen
  clear hx ho hu hv' k1 k2 k3 k4 hil hir _hok hn hs hwb hB hBW h0 h1 h2 h3 hsz p0 p1 q0 q1 g0 g1 g2 g3 i0 i1 e1
  go_enter Tryz.func151, Tryz.ntmps151
  go_wp2_with fail
  rw [HWB.out]
  go_quiet (fail)
  go_wp2_with (first
    | (go_at_call 56; first | ((with_reducible refine (CL.out _ (by exact gB2)).mono ?_); rintro e w' ⟨rfl, rfl⟩) | ((with_reducible refine (CI.out _ (by exact gB2)).mono ?_); rintro e w' ⟨rfl, rfl⟩) | ((with_reducible refine (CO.out _ (by exact gB2)).mono ?_); rintro e w' ⟨rfl, rfl⟩))
    | (go_at_call 156; (with_reducible refine (CS.out _).mono ?_); rintro e w' ⟨rfl, rfl⟩))
  go_quiet ((first
    | (go_at_call 56; first | with_reducible exact quiet_add_left (CL.out _ (by exact gB2)) | with_reducible exact quiet_add_left (CO.out _ (by exact gB2)) | with_reducible exact quiet_add_left (CIL.out _ (by exact gB2)) | with_reducible exact quiet_add_left (CIR.out _ (by exact gB2)))
    | (go_at_call 57; first | with_reducible exact quiet_add_left (CE1.out _) | with_reducible exact quiet_add_left (CE2.out _) | with_reducible exact quiet_add_left (CE3.out _))))
  go_wp2
  go_ret
  exact ⟨_, rfl, rfl, HB.out.trans (Below.mono (by exact gB2) HB.out.size)⟩
set_option maxRecDepth 100000 in
set_option maxHeartbeats 1000000 in
theorem turnR_no2 {ok : Nat -> Prop} {x il ir o : Bw.T} {p q ip : Bw.PV} {xv hv u v : Value} {w : World} (hx : TreeAt ok w xv x) (hh : TreeAt ok w hv (.node o q (.node il ip ir))) (hu : BytesAt ok w u p.1) (hv' : BytesAt ok w v p.2) (_hok : ∀ k, w.heap.size <= k -> ok k) (hn : x.size + ((il.size + 1 + ir.size) + 1 + o.size) <= 1048575) (hs : Bw.singleB x.size (Bw.T.node il ip ir).size o.size = false) (e1 : Bw.evenB x.size ir.size = true) (e2 : Bw.evenB il.size o.size = false) :
    Calls Tryz.prog 151 #[hv, .agg #[u, v], xv] w (Gives w fun r w' => TreeAt ok w' r .nil) := by
  obtain ⟨b, u1, u2, ov, iv, rfl, ⟨_, h0⟩, ⟨_, h1⟩, ⟨_, h2⟩, ⟨_, h3⟩, _, k1, k2, ho, hi⟩ := treeAt_open hh
  obtain ⟨A1, rfl⟩ := hx.form
  obtain ⟨A3, rfl⟩ := ho.form
  obtain ⟨U, cu, rfl⟩ := hu.form
  obtain ⟨V, cv, rfl⟩ := hv'.form
  obtain ⟨U1, c1, rfl⟩ := k1.form
  obtain ⟨U2, c2, rfl⟩ := k2.form
  have hbl := World.block_lt_of_cell? w _ h0
  dsimp only at hbl
  obtain ⟨wb, hwb⟩ : ∃ wb, w.alloc (.cells #[.slice U p.1.length cu, .slice V p.2.length cv] 62) = wb := ⟨_, rfl⟩
  have hsz : wb.heap.size = w.heap.size + 1 := by rw [<- hwb]; simp
  have hB : Below w.heap.size w wb := by rw [<- hwb]; exact gB1
  have hBW : ∀ W, Below wb.heap.size wb W -> Below w.heap.size w W := fun W hW => hB.trans (hW.mono hB.size)
  have p0 : wb.cell? ⟨w.heap.size, 0, none⟩ = some (.slice U p.1.length cu) := by rw [<- hwb]; exact cell_new w 0 _ _ 0 _ rfl
  have p1 : wb.cell? ⟨w.heap.size, 1, none⟩ = some (.slice V p.2.length cv) := by rw [<- hwb]; exact cell_new w 0 _ _ 1 _ rfl
  have q0 := (hB.cell (p := ⟨b, 0, none⟩) hbl).trans h0
  have q1 := (hB.cell (p := ⟨b, 1, none⟩) hbl).trans h1
  have q2 := (hB.cell (p := ⟨b, 2, none⟩) hbl).trans h2
  have q3 := (hB.cell (p := ⟨b, 3, none⟩) hbl).trans h3
  have CL := Lib.hid (fun (W : World) (hW : Below wb.heap.size wb W) => size_any (hx.move (Moves.below (hBW W hW))))
  have CI := Lib.hid (fun (W : World) (hW : Below wb.heap.size wb W) => size_any (hi.move (Moves.below (hBW W hW))))
  have CO := Lib.hid (fun (W : World) (hW : Below wb.heap.size wb W) => size_any (ho.move (Moves.below (hBW W hW))))
  obtain ⟨bi, u3, u4, ilv, irv, rfl, ⟨_, g0⟩, ⟨_, g1⟩, ⟨_, g2⟩, ⟨_, g3⟩, _, k3, k4, hil, hir⟩ := treeAt_open hi
  obtain ⟨A4, rfl⟩ := hil.form
  obtain ⟨A5, rfl⟩ := hir.form
  obtain ⟨U3, c3, rfl⟩ := k3.form
  obtain ⟨U4, c4, rfl⟩ := k4.form
  have hbi := World.block_lt_of_cell? w _ g0
  dsimp only at hbi
  have i0 := (hB.cell (p := ⟨bi, 0, none⟩) hbi).trans g0
  have i1 := (hB.cell (p := ⟨bi, 1, none⟩) hbi).trans g1
  have i2 := (hB.cell (p := ⟨bi, 2, none⟩) hbi).trans g2
  have i3 := (hB.cell (p := ⟨bi, 3, none⟩) hbi).trans g3
  have CIL := Lib.hid (fun (W : World) (hW : Below wb.heap.size wb W) => size_any (hil.move (Moves.below (hBW W hW))))
  have CIR := Lib.hid (fun (W : World) (hW : Below wb.heap.size wb W) => size_any (hir.move (Moves.below (hBW W hW))))
  have CS := Lib.hid (fun (W : World) => wsingle_any x.size (Bw.T.node il ip ir).size o.size W (by simp only [Bw.T.size]; omega) (by omega))
  rw [hs] at CS
  have CE1 := Lib.hid (fun (W : World) => weven_b x.size ir.size W (by omega) (by omega))
  have CE2 := Lib.hid (fun (W : World) => weven_b il.size o.size W (by omega) (by omega))
  have CE3 := Lib.hid (fun (W : World) => weven_b (x.size + 1 + ir.size) (il.size + 1 + o.size) W (by omega) (by omega))
  simp only [Int.natCast_add, Int.cast_ofNat_Int] at CE3
  have s1 : IntKind.i64.wrap ((x.size : Int) + 1) = (x.size : Int) + 1 := IntWalk.i64_in _ (by omega)
  have s2 : IntKind.i64.wrap ((x.size : Int) + 1 + (ir.size : Int)) = (x.size : Int) + 1 + (ir.size : Int) := IntWalk.i64_in _ (by omega)
  have s3 : IntKind.i64.wrap ((il.size : Int) + 1) = (il.size : Int) + 1 := IntWalk.i64_in _ (by omega)
  have s4 : IntKind.i64.wrap ((il.size : Int) + 1 + (o.size : Int)) = (il.size : Int) + 1 + (o.size : Int) := IntWalk.i64_in _ (by omega)
  rw [e1] at CE1
  rw [e2] at CE2
  have HWB := Lib.hid hwb
  have HB := Lib.hid hB
  generalize hgen : (Bw.T.node il ip ir).size = si at *
  generalize x.size = sl at *
  generalize o.size = so at *
  generalize il.size = sil at *
  generalize ir.size = sir at *
  clear hgen
  clear hx ho hu hv' k1 k2 k3 k4 hil hir _hok hn hs hwb hB hBW h0 h1 h2 h3 hsz p0 p1 q0 q1 g0 g1 g2 g3 i0 i1 e1 e2
  go_enter Tryz.func151, Tryz.ntmps151
  go_wp2_with fail
  rw [HWB.out]
  go_quiet (fail)
  go_wp2_with (first
    | (go_at_call 56; first | ((with_reducible refine (CL.out _ (by exact gB2)).mono ?_); rintro e w' ⟨rfl, rfl⟩) | ((with_reducible refine (CI.out _ (by exact gB2)).mono ?_); rintro e w' ⟨rfl, rfl⟩) | ((with_reducible refine (CO.out _ (by exact gB2)).mono ?_); rintro e w' ⟨rfl, rfl⟩))
    | (go_at_call 156; (with_reducible refine (CS.out _).mono ?_); rintro e w' ⟨rfl, rfl⟩))
  go_quiet ((first
    | (go_at_call 56; first | with_reducible exact quiet_add_left (CL.out _ (by exact gB2)) | with_reducible exact quiet_add_left (CO.out _ (by exact gB2)) | with_reducible exact quiet_add_left (CIL.out _ (by exact gB2)) | with_reducible exact quiet_add_left (CIR.out _ (by exact gB2)))
    | (go_at_call 57; first | with_reducible exact quiet_add_left (CE1.out _) | with_reducible exact quiet_add_left (CE2.out _) | with_reducible exact quiet_add_left (CE3.out _))))
  go_wp2
  go_ret
  exact ⟨_, rfl, rfl, HB.out.trans (Below.mono (by exact gB2) HB.out.size)⟩
set_option maxRecDepth 100000 in
set_option maxHeartbeats 1000000 in
theorem turnR_no3 {ok : Nat -> Prop} {x il ir o : Bw.T} {p q ip : Bw.PV} {xv hv u v : Value} {w : World} (hx : TreeAt ok w xv x) (hh : TreeAt ok w hv (.node o q (.node il ip ir))) (hu : BytesAt ok w u p.1) (hv' : BytesAt ok w v p.2) (_hok : ∀ k, w.heap.size <= k -> ok k) (hn : x.size + ((il.size + 1 + ir.size) + 1 + o.size) <= 1048575) (hs : Bw.singleB x.size (Bw.T.node il ip ir).size o.size = false) (e1 : Bw.evenB x.size ir.size = true) (e2 : Bw.evenB il.size o.size = true) (e3 : Bw.evenB (x.size + 1 + ir.size) (il.size + 1 + o.size) = false) :
    Calls Tryz.prog 151 #[hv, .agg #[u, v], xv] w (Gives w fun r w' => TreeAt ok w' r .nil) := by
  obtain ⟨b, u1, u2, ov, iv, rfl, ⟨_, h0⟩, ⟨_, h1⟩, ⟨_, h2⟩, ⟨_, h3⟩, _, k1, k2, ho, hi⟩ := treeAt_open hh
  obtain ⟨A1, rfl⟩ := hx.form
  obtain ⟨A3, rfl⟩ := ho.form
  obtain ⟨U, cu, rfl⟩ := hu.form
  obtain ⟨V, cv, rfl⟩ := hv'.form
  obtain ⟨U1, c1, rfl⟩ := k1.form
  obtain ⟨U2, c2, rfl⟩ := k2.form
  have hbl := World.block_lt_of_cell? w _ h0
  dsimp only at hbl
  obtain ⟨wb, hwb⟩ : ∃ wb, w.alloc (.cells #[.slice U p.1.length cu, .slice V p.2.length cv] 62) = wb := ⟨_, rfl⟩
  have hsz : wb.heap.size = w.heap.size + 1 := by rw [<- hwb]; simp
  have hB : Below w.heap.size w wb := by rw [<- hwb]; exact gB1
  have hBW : ∀ W, Below wb.heap.size wb W -> Below w.heap.size w W := fun W hW => hB.trans (hW.mono hB.size)
  have p0 : wb.cell? ⟨w.heap.size, 0, none⟩ = some (.slice U p.1.length cu) := by rw [<- hwb]; exact cell_new w 0 _ _ 0 _ rfl
  have p1 : wb.cell? ⟨w.heap.size, 1, none⟩ = some (.slice V p.2.length cv) := by rw [<- hwb]; exact cell_new w 0 _ _ 1 _ rfl
  have q0 := (hB.cell (p := ⟨b, 0, none⟩) hbl).trans h0
  have q1 := (hB.cell (p := ⟨b, 1, none⟩) hbl).trans h1
  have q2 := (hB.cell (p := ⟨b, 2, none⟩) hbl).trans h2
  have q3 := (hB.cell (p := ⟨b, 3, none⟩) hbl).trans h3
  have CL := Lib.hid (fun (W : World) (hW : Below wb.heap.size wb W) => size_any (hx.move (Moves.below (hBW W hW))))
  have CI := Lib.hid (fun (W : World) (hW : Below wb.heap.size wb W) => size_any (hi.move (Moves.below (hBW W hW))))
  have CO := Lib.hid (fun (W : World) (hW : Below wb.heap.size wb W) => size_any (ho.move (Moves.below (hBW W hW))))
  obtain ⟨bi, u3, u4, ilv, irv, rfl, ⟨_, g0⟩, ⟨_, g1⟩, ⟨_, g2⟩, ⟨_, g3⟩, _, k3, k4, hil, hir⟩ := treeAt_open hi
  obtain ⟨A4, rfl⟩ := hil.form
  obtain ⟨A5, rfl⟩ := hir.form
  obtain ⟨U3, c3, rfl⟩ := k3.form
  obtain ⟨U4, c4, rfl⟩ := k4.form
  have hbi := World.block_lt_of_cell? w _ g0
  dsimp only at hbi
  have i0 := (hB.cell (p := ⟨bi, 0, none⟩) hbi).trans g0
  have i1 := (hB.cell (p := ⟨bi, 1, none⟩) hbi).trans g1
  have i2 := (hB.cell (p := ⟨bi, 2, none⟩) hbi).trans g2
  have i3 := (hB.cell (p := ⟨bi, 3, none⟩) hbi).trans g3
  have CIL := Lib.hid (fun (W : World) (hW : Below wb.heap.size wb W) => size_any (hil.move (Moves.below (hBW W hW))))
  have CIR := Lib.hid (fun (W : World) (hW : Below wb.heap.size wb W) => size_any (hir.move (Moves.below (hBW W hW))))
  have CS := Lib.hid (fun (W : World) => wsingle_any x.size (Bw.T.node il ip ir).size o.size W (by simp only [Bw.T.size]; omega) (by omega))
  rw [hs] at CS
  have CE1 := Lib.hid (fun (W : World) => weven_b x.size ir.size W (by omega) (by omega))
  have CE2 := Lib.hid (fun (W : World) => weven_b il.size o.size W (by omega) (by omega))
  have CE3 := Lib.hid (fun (W : World) => weven_b (x.size + 1 + ir.size) (il.size + 1 + o.size) W (by omega) (by omega))
  simp only [Int.natCast_add, Int.cast_ofNat_Int] at CE3
  have s1 : IntKind.i64.wrap ((x.size : Int) + 1) = (x.size : Int) + 1 := IntWalk.i64_in _ (by omega)
  have s2 : IntKind.i64.wrap ((x.size : Int) + 1 + (ir.size : Int)) = (x.size : Int) + 1 + (ir.size : Int) := IntWalk.i64_in _ (by omega)
  have s3 : IntKind.i64.wrap ((il.size : Int) + 1) = (il.size : Int) + 1 := IntWalk.i64_in _ (by omega)
  have s4 : IntKind.i64.wrap ((il.size : Int) + 1 + (o.size : Int)) = (il.size : Int) + 1 + (o.size : Int) := IntWalk.i64_in _ (by omega)
  rw [e1] at CE1
  rw [e2] at CE2
  rw [e3] at CE3
  have HWB := Lib.hid hwb
  have HB := Lib.hid hB
  generalize hgen : (Bw.T.node il ip ir).size = si at *
  generalize x.size = sl at *
  generalize o.size = so at *
  generalize il.size = sil at *
  generalize ir.size = sir at *
  clear hgen
  clear hx ho hu hv' k1 k2 k3 k4 hil hir _hok hn hs hwb hB hBW h0 h1 h2 h3 hsz p0 p1 q0 q1 g0 g1 g2 g3 i0 i1 e1 e2 e3
  go_enter Tryz.func151, Tryz.ntmps151
  go_wp2_with fail
  rw [HWB.out]
  go_quiet (fail)
  go_wp2_with (first
    | (go_at_call 56; first | ((with_reducible refine (CL.out _ (by exact gB2)).mono ?_); rintro e w' ⟨rfl, rfl⟩) | ((with_reducible refine (CI.out _ (by exact gB2)).mono ?_); rintro e w' ⟨rfl, rfl⟩) | ((with_reducible refine (CO.out _ (by exact gB2)).mono ?_); rintro e w' ⟨rfl, rfl⟩))
    | (go_at_call 156; (with_reducible refine (CS.out _).mono ?_); rintro e w' ⟨rfl, rfl⟩))
  go_quiet ((first
    | (go_at_call 56; first | with_reducible exact quiet_add_left (CL.out _ (by exact gB2)) | with_reducible exact quiet_add_left (CO.out _ (by exact gB2)) | with_reducible exact quiet_add_left (CIL.out _ (by exact gB2)) | with_reducible exact quiet_add_left (CIR.out _ (by exact gB2)))
    | (go_at_call 57; first | with_reducible exact quiet_add_left (CE1.out _) | with_reducible exact quiet_add_left (CE2.out _) | with_reducible exact quiet_add_left (CE3.out _))))
  go_wp2
  go_ret
  exact ⟨_, rfl, rfl, HB.out.trans (Below.mono (by exact gB2) HB.out.size)⟩
set_option maxRecDepth 100000 in
set_option maxHeartbeats 1600000 in
theorem turnR_twice {ok : Nat -> Prop} {x il ir o : Bw.T} {p q ip : Bw.PV} {xv hv u v : Value} {w : World} (hx : TreeAt ok w xv x) (hh : TreeAt ok w hv (.node o q (.node il ip ir))) (hu : BytesAt ok w u p.1) (hv' : BytesAt ok w v p.2) (hok : ∀ k, w.heap.size <= k -> ok k) (hn : x.size + ((il.size + 1 + ir.size) + 1 + o.size) <= 1048575) (hs : Bw.singleB x.size (Bw.T.node il ip ir).size o.size = false) (e1 : Bw.evenB x.size ir.size = true) (e2 : Bw.evenB il.size o.size = true) (e3 : Bw.evenB (x.size + 1 + ir.size) (il.size + 1 + o.size) = true) :
    Calls Tryz.prog 151 #[hv, .agg #[u, v], xv] w (Gives w fun r w' => TreeAt ok w' r (.node (.node o q il) ip (.node ir p x))) := by
  obtain ⟨b, u1, u2, ov, iv, rfl, ⟨_, h0⟩, ⟨_, h1⟩, ⟨_, h2⟩, ⟨_, h3⟩, _, k1, k2, ho, hi⟩ := treeAt_open hh
  obtain ⟨A1, rfl⟩ := hx.form
  obtain ⟨A3, rfl⟩ := ho.form
  obtain ⟨U, cu, rfl⟩ := hu.form
  obtain ⟨V, cv, rfl⟩ := hv'.form
  obtain ⟨U1, c1, rfl⟩ := k1.form
  obtain ⟨U2, c2, rfl⟩ := k2.form
  have hbl := World.block_lt_of_cell? w _ h0
  dsimp only at hbl
  obtain ⟨wb, hwb⟩ : ∃ wb, w.alloc (.cells #[.slice U p.1.length cu, .slice V p.2.length cv] 62) = wb := ⟨_, rfl⟩
  have hsz : wb.heap.size = w.heap.size + 1 := by rw [<- hwb]; simp
  have hB : Below w.heap.size w wb := by rw [<- hwb]; exact gB1
  have hBW : ∀ W, Below wb.heap.size wb W -> Below w.heap.size w W := fun W hW => hB.trans (hW.mono hB.size)
  have p0 : wb.cell? ⟨w.heap.size, 0, none⟩ = some (.slice U p.1.length cu) := by rw [<- hwb]; exact cell_new w 0 _ _ 0 _ rfl
  have p1 : wb.cell? ⟨w.heap.size, 1, none⟩ = some (.slice V p.2.length cv) := by rw [<- hwb]; exact cell_new w 0 _ _ 1 _ rfl
  have q0 := (hB.cell (p := ⟨b, 0, none⟩) hbl).trans h0
  have q1 := (hB.cell (p := ⟨b, 1, none⟩) hbl).trans h1
  have q2 := (hB.cell (p := ⟨b, 2, none⟩) hbl).trans h2
  have q3 := (hB.cell (p := ⟨b, 3, none⟩) hbl).trans h3
  have CL := Lib.hid (fun (W : World) (hW : Below wb.heap.size wb W) => size_any (hx.move (Moves.below (hBW W hW))))
  have CI := Lib.hid (fun (W : World) (hW : Below wb.heap.size wb W) => size_any (hi.move (Moves.below (hBW W hW))))
  have CO := Lib.hid (fun (W : World) (hW : Below wb.heap.size wb W) => size_any (ho.move (Moves.below (hBW W hW))))
  obtain ⟨bi, u3, u4, ilv, irv, rfl, ⟨_, g0⟩, ⟨_, g1⟩, ⟨_, g2⟩, ⟨_, g3⟩, _, k3, k4, hil, hir⟩ := treeAt_open hi
  obtain ⟨A4, rfl⟩ := hil.form
  obtain ⟨A5, rfl⟩ := hir.form
  obtain ⟨U3, c3, rfl⟩ := k3.form
  obtain ⟨U4, c4, rfl⟩ := k4.form
  have hbi := World.block_lt_of_cell? w _ g0
  dsimp only at hbi
  have i0 := (hB.cell (p := ⟨bi, 0, none⟩) hbi).trans g0
  have i1 := (hB.cell (p := ⟨bi, 1, none⟩) hbi).trans g1
  have i2 := (hB.cell (p := ⟨bi, 2, none⟩) hbi).trans g2
  have i3 := (hB.cell (p := ⟨bi, 3, none⟩) hbi).trans g3
  have CIL := Lib.hid (fun (W : World) (hW : Below wb.heap.size wb W) => size_any (hil.move (Moves.below (hBW W hW))))
  have CIR := Lib.hid (fun (W : World) (hW : Below wb.heap.size wb W) => size_any (hir.move (Moves.below (hBW W hW))))
  have CS := Lib.hid (fun (W : World) => wsingle_any x.size (Bw.T.node il ip ir).size o.size W (by simp only [Bw.T.size]; omega) (by omega))
  rw [hs] at CS
  have CE1 := Lib.hid (fun (W : World) => weven_b x.size ir.size W (by omega) (by omega))
  have CE2 := Lib.hid (fun (W : World) => weven_b il.size o.size W (by omega) (by omega))
  have CE3 := Lib.hid (fun (W : World) => weven_b (x.size + 1 + ir.size) (il.size + 1 + o.size) W (by omega) (by omega))
  simp only [Int.natCast_add, Int.cast_ofNat_Int] at CE3
  have s1 : IntKind.i64.wrap ((x.size : Int) + 1) = (x.size : Int) + 1 := IntWalk.i64_in _ (by omega)
  have s2 : IntKind.i64.wrap ((x.size : Int) + 1 + (ir.size : Int)) = (x.size : Int) + 1 + (ir.size : Int) := IntWalk.i64_in _ (by omega)
  have s3 : IntKind.i64.wrap ((il.size : Int) + 1) = (il.size : Int) + 1 := IntWalk.i64_in _ (by omega)
  have s4 : IntKind.i64.wrap ((il.size : Int) + 1 + (o.size : Int)) = (il.size : Int) + 1 + (o.size : Int) := IntWalk.i64_in _ (by omega)
  rw [e1] at CE1
  rw [e2] at CE2
  rw [e3] at CE3
  have C1 := Lib.hid (fun (W : World) (hW : Below wb.heap.size wb W) => node_any (ho.move (Moves.below (hBW W hW))) (hil.move (Moves.below (hBW W hW))) (k1.move goodByte (Moves.below (hBW W hW))) (k2.move goodByte (Moves.below (hBW W hW))) (fun k hk => hok k (Nat.le_trans (hBW W hW).size hk)) (by omega))
  have C2 := Lib.hid (fun (W : World) (hW : Below wb.heap.size wb W) => node_any (hir.move (Moves.below (hBW W hW))) (hx.move (Moves.below (hBW W hW))) (hu.move goodByte (Moves.below (hBW W hW))) (hv'.move goodByte (Moves.below (hBW W hW))) (fun k hk => hok k (Nat.le_trans (hBW W hW).size hk)) (by omega))
  have C3 := Lib.hid (fun (W : World) (y z : Value) (hy : TreeAt ok W y (.node o q il)) (hz : TreeAt ok W z (.node ir p x)) (hW : Below wb.heap.size wb W) => node_any hy hz (k3.move goodByte (Moves.below (hBW W hW))) (k4.move goodByte (Moves.below (hBW W hW))) (fun k hk => hok k (Nat.le_trans (hBW W hW).size hk)) (by simp only [Bw.T.size]; omega))
  have SK : Hid (∀ W, Below wb.heap.size wb W -> W.cell? ⟨w.heap.size, 0, none⟩ = some (.slice U p.1.length cu) /\ W.cell? ⟨w.heap.size, 1, none⟩ = some (.slice V p.2.length cv) /\ W.cell? ⟨b, 0, none⟩ = some (.slice U1 q.1.length c1) /\ W.cell? ⟨b, 1, none⟩ = some (.slice U2 q.2.length c2) /\ W.cell? ⟨bi, 0, none⟩ = some (.slice U3 ip.1.length c3) /\ W.cell? ⟨bi, 1, none⟩ = some (.slice U4 ip.2.length c4) /\ W.cell? ⟨bi, 2, none⟩ = some (.pointer A4) /\ W.cell? ⟨bi, 3, none⟩ = some (.pointer A5)) :=
    Lib.hid fun W hW => ⟨(hW.cell (p := ⟨w.heap.size, 0, none⟩) (by simp only; omega)).trans p0, (hW.cell (p := ⟨w.heap.size, 1, none⟩) (by simp only; omega)).trans p1, (hW.cell (p := ⟨b, 0, none⟩) (by simp only; omega)).trans q0, (hW.cell (p := ⟨b, 1, none⟩) (by simp only; omega)).trans q1, (hW.cell (p := ⟨bi, 0, none⟩) (by simp only; omega)).trans i0, (hW.cell (p := ⟨bi, 1, none⟩) (by simp only; omega)).trans i1, (hW.cell (p := ⟨bi, 2, none⟩) (by simp only; omega)).trans i2, (hW.cell (p := ⟨bi, 3, none⟩) (by simp only; omega)).trans i3⟩
  have HWB := Lib.hid hwb
  have HB := Lib.hid hB
  have HSZ : Hid (w.heap.size <= wb.heap.size) := Lib.hid hB.size
  have HOKW := Lib.hid hok
  generalize hgen : (Bw.T.node il ip ir).size = si at *
  generalize x.size = sl at *
  generalize o.size = so at *
  generalize il.size = sil at *
  generalize ir.size = sir at *
  clear hgen
  clear hx ho hu hv' k1 k2 k3 k4 hil hir hok hn hs hwb hB hBW h0 h1 h2 h3 hsz g0 g1 g2 g3 e1 e2 e3
  go_enter Tryz.func151, Tryz.ntmps151
  go_wp2_with fail
  rw [HWB.out]
  go_quiet (fail)
  go_wp2_with (first
    | (go_at_call 56; first | ((with_reducible refine (CL.out _ (by exact gB2)).mono ?_); rintro e w' ⟨rfl, rfl⟩) | ((with_reducible refine (CI.out _ (by exact gB2)).mono ?_); rintro e w' ⟨rfl, rfl⟩) | ((with_reducible refine (CO.out _ (by exact gB2)).mono ?_); rintro e w' ⟨rfl, rfl⟩))
    | (go_at_call 156; (with_reducible refine (CS.out _).mono ?_); rintro e w' ⟨rfl, rfl⟩))
  go_quiet ((first
    | (go_at_call 56; first | with_reducible exact quiet_add_left (CL.out _ (by exact gB2)) | with_reducible exact quiet_add_left (CO.out _ (by exact gB2)) | with_reducible exact quiet_add_left (CIL.out _ (by exact gB2)) | with_reducible exact quiet_add_left (CIR.out _ (by exact gB2)))
    | (go_at_call 57; first | with_reducible exact quiet_add_left (CE1.out _) | with_reducible exact quiet_add_left (CE2.out _) | with_reducible exact quiet_add_left (CE3.out _))))
  go_wp2_with fail
  go_region_held3 (fun W => W.cell? ⟨w.heap.size, 0, none⟩ = some (.slice U p.1.length cu) /\ W.cell? ⟨w.heap.size, 1, none⟩ = some (.slice V p.2.length cv) /\ W.cell? ⟨b, 0, none⟩ = some (.slice U1 q.1.length c1) /\ W.cell? ⟨b, 1, none⟩ = some (.slice U2 q.2.length c2) /\ W.cell? ⟨bi, 0, none⟩ = some (.slice U3 ip.1.length c3) /\ W.cell? ⟨bi, 1, none⟩ = some (.slice U4 ip.2.length c4) /\ W.cell? ⟨bi, 2, none⟩ = some (.pointer A4) /\ W.cell? ⟨bi, 3, none⟩ = some (.pointer A5))
    (first | with_reducible exact SK.out _ hB3 | with_reducible exact SK.out _ hB2 | with_reducible exact SK.out _ hB1 | with_reducible exact SK.out _ (by exact gB2))
    ((go_at_call 129; first
      | ((with_reducible refine (C1.out _ (by exact gB2)).mono ?_); rintro e w1 ⟨y1, rfl, hy1, hb1⟩; obtain ⟨Y1, rfl⟩ := hy1.form; have hB1 : Below wb.heap.size wb w1 := Below.trans (by exact gB2) (hb1.mono (by simp)))
      | ((with_reducible refine (C2.out _ hB1).mono ?_); rintro e w2 ⟨y2, rfl, hy2, hb2⟩; obtain ⟨Y2, rfl⟩ := hy2.form; have hB2 : Below wb.heap.size wb w2 := hB1.trans (hb2.mono hB1.size))
      | ((with_reducible refine (C3.out _ _ _ (hy1.move (Moves.below hb2)) hy2 hB2).mono ?_); rintro e w3 ⟨y3, rfl, hy3, hb3⟩; obtain ⟨Y3, rfl⟩ := hy3.form; have hB3 : Below wb.heap.size wb w3 := hB2.trans (hb3.mono hB2.size))))
  go_wp2
  go_ret
  exact ⟨_, rfl, hy3, HB.out.trans (hB3.mono HB.out.size)⟩
theorem turnR_any {ok : Nat -> Prop} {x h : Bw.T} {p : Bw.PV} {xv hv u v : Value} {w : World} (hx : TreeAt ok w xv x) (hh : TreeAt ok w hv h) (hne : h ≠ .nil) (hu : BytesAt ok w u p.1) (hv' : BytesAt ok w v p.2) (hok : ∀ k, w.heap.size <= k -> ok k) (hn : x.size + h.size <= 1048575) :
    Calls Tryz.prog 151 #[hv, .agg #[u, v], xv] w (Gives w fun r w' => TreeAt ok w' r (Bw.T.turnR x p h)) := by
  cases h with
  | nil => exact absurd rfl hne
  | node o q i =>
    simp only [Bw.T.size] at hn
    simp only [Bw.T.turnR]
    by_cases hs : Bw.singleB x.size i.size o.size = true
    · rw [if_pos hs]
      exact turnR_single hx hh hu hv' hok (by omega) hs
    · rw [if_neg hs]
      rw [Bool.not_eq_true] at hs
      cases i with
      | nil => exact turnR_none hx hh hu hv' hok (by simp only [Bw.T.size] at hn; omega) hs
      | node il ip ir =>
        have hn' : x.size + ((il.size + 1 + ir.size) + 1 + o.size) <= 1048575 := by simp only [Bw.T.size] at hn; omega
        simp only
        cases e1 : Bw.evenB x.size ir.size with
        | false => exact turnR_no1 hx hh hu hv' hok hn' hs e1
        | true =>
          cases e2 : Bw.evenB il.size o.size with
          | false => exact turnR_no2 hx hh hu hv' hok hn' hs e1 e2
          | true =>
            cases e3 : Bw.evenB (x.size + 1 + ir.size) (il.size + 1 + o.size) with
            | false => exact turnR_no3 hx hh hu hv' hok hn' hs e1 e2 e3
            | true => exact turnR_twice hx hh hu hv' hok hn' hs e1 e2 e3
end Go.Proofs.YtadaoceidkagfaaGreatDoor
