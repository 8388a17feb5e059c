/- law16.Same: whether a node is what the document has for another one. -/
import Derived.Test.YtehkjnmnbplcoaaGreatDoorSameA
import Derived.Test.YtehkjnmnbplcoaaGreatDoorBwInj
import Derived.Deep.QuietTactic
import Derived.Deep.RegionHeld3
namespace Go.Proofs.YtehkjnmnbplcoaaGreatDoor
open Go.RowKit Go.Bw

set_option maxRecDepth 100000 in
set_option maxHeartbeats 1000000 in
theorem sg_leaf_kind {h : Nat} {p : Bw.PV} {kx gx l1 c1 l2 c2 l3 c3 : Nat} {A1 A2 A3 : Option Addr} {nv : Value} {w : World} (hn : NodeAt nt AllB w nv (.leaf h p)) (hf : Bw.N.fit (.leaf h p)) (h0 : kx ≠ 0) (hk : kx ≠ 1) :
    Calls Tryz.prog 20 #[nv, .agg #[.int .i64 (kx : Nat), .int .u64 (gx : Nat), .slice A1 l1 c1, .slice A2 l2 c2, .slice A3 l3 c3]] w fun e w' => e = .returned (.bool false) ∧ Below w.heap.size w w' := by
  have hk0 : ((kx : Int) == 0) = false := by rw [beq_eq_false_iff_ne]; omega
  have hkk : ((1 : Int) != (kx : Int)) = true := by rw [bne_iff_ne]; omega
  clear h0 hk
  have C1 := Lib.hid (fun W (hW : Below w.heap.size w W) => hash_any (n := some (.leaf h p)) (NodeAt.move (Moves.below hW) _ _ hn))
  have C2 := Lib.hid (fun W (hW : Below w.heap.size w W) => pair_any (n := some (.leaf h p)) (NodeAt.move (Moves.below hW) _ _ hn) (by intro hh p' e; cases e; exact hf))
  have C3 := Lib.hid (fun W (hW : Below w.heap.size w W) => tree_any (n := some (.leaf h p)) (NodeAt.move (Moves.below hW) _ _ hn))
  have C4 := Lib.hid (fun W (hW : Below w.heap.size w W) => map_any (n := some (.leaf h p)) (NodeAt.move (Moves.below hW) _ _ hn))
  simp only [NodeAt] at hn
  obtain ⟨b, u1, u2, rfl, _⟩ := hn
  clear hf
  have hm := kindm_leaf
  go_enter Tryz.func20, Tryz.ntmps20
  go_wp2_with fail
  obtain ⟨W1, hW1⟩ : ∃ W1, (w.alloc (.cells #[.int .i64 (kx : Nat), .int .u64 (gx : Nat), .slice A1 l1 c1, .slice A2 l2 c2, .slice A3 l3 c3] 37)) = W1 := ⟨_, rfl⟩
  have hB1 : Below w.heap.size w W1 := by rw [← hW1]; (repeat (first | exact Below.refl _ _ | with_reducible assumption | refine Below.drew ?_ | refine b_drewN ?_ _ | (refine Below.alloc ?_ (by simp) _) | (refine Below.alloc ?_ (by simp; omega) _)))
  have hs1 : w.heap.size < W1.heap.size := by rw [← hW1]; simp
  have x0 : W1.cell? ⟨w.heap.size, 0, none⟩ = some (.int .i64 (kx : Nat)) := by subst hW1; go_simp
  have x1 : W1.cell? ⟨w.heap.size, 1, none⟩ = some (.int .u64 (gx : Nat)) := by subst hW1; go_simp
  rw [hW1]
  clear hW1
  refine (C1.out _ hB1).mono ?_
  rintro e w1 ⟨rfl, rfl⟩
  simp only [hashO]
  go_wp2_with fail
  refine (C2.out _ hB1).mono ?_
  rintro e w2 ⟨r, rfl, hr, hb2⟩
  simp only [PairTold] at hr
  obtain ⟨v1, v2, rfl, hv1, hv2⟩ := hr
  obtain ⟨V1, k1, rfl⟩ := hv1.form
  obtain ⟨V2, k2, rfl⟩ := hv2.form
  have x0 := (hb2.cell (p := ⟨w.heap.size, 0, none⟩) hs1).trans x0
  have x1 := (hb2.cell (p := ⟨w.heap.size, 1, none⟩) hs1).trans x1
  have hB2 := hB1.trans (hb2.mono hB1.size)
  have hs2 : w.heap.size < w2.heap.size := Nat.lt_of_lt_of_le hs1 hb2.size
  clear hb2
  clear hv1 hv2
  have HB2 := Lib.hid hB2
  have hB3 : Below w2.heap.size w2 (w2.alloc (.cells #[.slice V1 p.1.length k1, .slice V2 p.2.length k2] 31)) := by (repeat (first | exact Below.refl _ _ | with_reducible assumption | refine Below.drew ?_ | refine b_drewN ?_ _ | (refine Below.alloc ?_ (by simp) _) | (refine Below.alloc ?_ (by simp; omega) _)))
  have HB3 := Lib.hid hB3
  clear hB1 hB2 hB3
  go_wp2_with fail
  refine (C3.out _ (HB2.out.trans (Below.mono (by (repeat (first | exact Below.refl _ _ | with_reducible assumption | refine Below.drew ?_ | refine b_drewN ?_ _ | (refine Below.alloc ?_ (by simp) _) | (refine Below.alloc ?_ (by simp; omega) _)))) HB2.out.size))).mono ?_
  rintro e w3 ⟨⟨r, rfl, ht⟩, rfl⟩
  simp only [TreeTold] at ht
  subst ht
  go_wp2_with fail
  refine (C4.out _ (HB2.out.trans (Below.mono (by (repeat (first | exact Below.refl _ _ | with_reducible assumption | refine Below.drew ?_ | refine b_drewN ?_ _ | (refine Below.alloc ?_ (by simp) _) | (refine Below.alloc ?_ (by simp; omega) _)))) HB2.out.size))).mono ?_
  rintro e w3 ⟨rfl, rfl⟩
  simp only [mapO]
  go_wp2_with fail
  have CK := Lib.hid (fun W => (kind_leaf ⟨b, 0, none⟩ W).mono (R' := fun e w' => e = .returned (.int .i64 1) ∧ w' = W) (fun _ _ h => ⟨h.1, h.2.symm⟩))
  go_quiet ((go_at_call 139; exact Calls.quiet_of_same (CK.out _)))
  go_wp2
  go_ret
  exact ⟨rfl, HB2.out.trans (Below.mono (b_drewN HB3.out _) HB2.out.size)⟩

set_option maxRecDepth 100000 in
set_option maxHeartbeats 1000000 in
theorem sg_leaf_hash {h : Nat} {p : Bw.PV} {gx l1 c1 l2 c2 l3 c3 : Nat} {A1 A2 A3 : Option Addr} {nv : Value} {w : World} (hn : NodeAt nt AllB w nv (.leaf h p)) (hf : Bw.N.fit (.leaf h p)) (hgx : gx ≠ h) :
    Calls Tryz.prog 20 #[nv, .agg #[.int .i64 1, .int .u64 (gx : Nat), .slice A1 l1 c1, .slice A2 l2 c2, .slice A3 l3 c3]] w fun e w' => e = .returned (.bool false) ∧ Below w.heap.size w w' := by
  have hgg : ((h : Int) != (gx : Int)) = true := by rw [bne_iff_ne]; omega
  clear hgx
  have C1 := Lib.hid (fun W (hW : Below w.heap.size w W) => hash_any (n := some (.leaf h p)) (NodeAt.move (Moves.below hW) _ _ hn))
  have C2 := Lib.hid (fun W (hW : Below w.heap.size w W) => pair_any (n := some (.leaf h p)) (NodeAt.move (Moves.below hW) _ _ hn) (by intro hh p' e; cases e; exact hf))
  have C3 := Lib.hid (fun W (hW : Below w.heap.size w W) => tree_any (n := some (.leaf h p)) (NodeAt.move (Moves.below hW) _ _ hn))
  have C4 := Lib.hid (fun W (hW : Below w.heap.size w W) => map_any (n := some (.leaf h p)) (NodeAt.move (Moves.below hW) _ _ hn))
  simp only [NodeAt] at hn
  obtain ⟨b, u1, u2, rfl, _⟩ := hn
  clear hf
  have hm := kindm_leaf
  go_enter Tryz.func20, Tryz.ntmps20
  go_wp2_with fail
  obtain ⟨W1, hW1⟩ : ∃ W1, (w.alloc (.cells #[.int .i64 1, .int .u64 (gx : Nat), .slice A1 l1 c1, .slice A2 l2 c2, .slice A3 l3 c3] 37)) = W1 := ⟨_, rfl⟩
  have hB1 : Below w.heap.size w W1 := by rw [← hW1]; (repeat (first | exact Below.refl _ _ | with_reducible assumption | refine Below.drew ?_ | refine b_drewN ?_ _ | (refine Below.alloc ?_ (by simp) _) | (refine Below.alloc ?_ (by simp; omega) _)))
  have hs1 : w.heap.size < W1.heap.size := by rw [← hW1]; simp
  have x0 : W1.cell? ⟨w.heap.size, 0, none⟩ = some (.int .i64 1) := by subst hW1; go_simp
  have x1 : W1.cell? ⟨w.heap.size, 1, none⟩ = some (.int .u64 (gx : Nat)) := by subst hW1; go_simp
  rw [hW1]
  clear hW1
  refine (C1.out _ hB1).mono ?_
  rintro e w1 ⟨rfl, rfl⟩
  simp only [hashO]
  go_wp2_with fail
  refine (C2.out _ hB1).mono ?_
  rintro e w2 ⟨r, rfl, hr, hb2⟩
  simp only [PairTold] at hr
  obtain ⟨v1, v2, rfl, hv1, hv2⟩ := hr
  obtain ⟨V1, k1, rfl⟩ := hv1.form
  obtain ⟨V2, k2, rfl⟩ := hv2.form
  have x0 := (hb2.cell (p := ⟨w.heap.size, 0, none⟩) hs1).trans x0
  have x1 := (hb2.cell (p := ⟨w.heap.size, 1, none⟩) hs1).trans x1
  have hB2 := hB1.trans (hb2.mono hB1.size)
  have hs2 : w.heap.size < w2.heap.size := Nat.lt_of_lt_of_le hs1 hb2.size
  clear hb2
  clear hv1 hv2
  have HB2 := Lib.hid hB2
  have hB3 : Below w2.heap.size w2 (w2.alloc (.cells #[.slice V1 p.1.length k1, .slice V2 p.2.length k2] 31)) := by (repeat (first | exact Below.refl _ _ | with_reducible assumption | refine Below.drew ?_ | refine b_drewN ?_ _ | (refine Below.alloc ?_ (by simp) _) | (refine Below.alloc ?_ (by simp; omega) _)))
  have HB3 := Lib.hid hB3
  clear hB1 hB2 hB3
  go_wp2_with fail
  refine (C3.out _ (HB2.out.trans (Below.mono (by (repeat (first | exact Below.refl _ _ | with_reducible assumption | refine Below.drew ?_ | refine b_drewN ?_ _ | (refine Below.alloc ?_ (by simp) _) | (refine Below.alloc ?_ (by simp; omega) _)))) HB2.out.size))).mono ?_
  rintro e w3 ⟨⟨r, rfl, ht⟩, rfl⟩
  simp only [TreeTold] at ht
  subst ht
  go_wp2_with fail
  refine (C4.out _ (HB2.out.trans (Below.mono (by (repeat (first | exact Below.refl _ _ | with_reducible assumption | refine Below.drew ?_ | refine b_drewN ?_ _ | (refine Below.alloc ?_ (by simp) _) | (refine Below.alloc ?_ (by simp; omega) _)))) HB2.out.size))).mono ?_
  rintro e w3 ⟨rfl, rfl⟩
  simp only [mapO]
  go_wp2_with fail
  have CK := Lib.hid (fun W => (kind_leaf ⟨b, 0, none⟩ W).mono (R' := fun e w' => e = .returned (.int .i64 1) ∧ w' = W) (fun _ _ h => ⟨h.1, h.2.symm⟩))
  go_quiet ((go_at_call 139; exact Calls.quiet_of_same (CK.out _)))
  go_wp2
  go_ret
  exact ⟨rfl, HB2.out.trans (Below.mono (b_drewN HB3.out _) HB2.out.size)⟩

set_option maxRecDepth 100000 in
set_option maxHeartbeats 1000000 in
theorem sg_bucket_kind {h : Nat} {t : Bw.T} {kx gx l1 c1 l2 c2 l3 c3 : Nat} {A1 A2 A3 : Option Addr} {nv : Value} {w : World} (hn : NodeAt nt AllB w nv (.bucket h t)) (h0 : kx ≠ 0) (hk : kx ≠ 2) :
    Calls Tryz.prog 20 #[nv, .agg #[.int .i64 (kx : Nat), .int .u64 (gx : Nat), .slice A1 l1 c1, .slice A2 l2 c2, .slice A3 l3 c3]] w fun e w' => e = .returned (.bool false) ∧ Below w.heap.size w w' := by
  have hk0 : ((kx : Int) == 0) = false := by rw [beq_eq_false_iff_ne]; omega
  have hkk : ((2 : Int) != (kx : Int)) = true := by rw [bne_iff_ne]; omega
  clear h0 hk
  have C1 := Lib.hid (fun W (hW : Below w.heap.size w W) => hash_any (n := some (.bucket h t)) (NodeAt.move (Moves.below hW) _ _ hn))
  have C2 := Lib.hid (fun W (hW : Below w.heap.size w W) => pair_any (n := some (.bucket h t)) (NodeAt.move (Moves.below hW) _ _ hn) (by intro hh p' e; cases e))
  have C3 := Lib.hid (fun W (hW : Below w.heap.size w W) => tree_any (n := some (.bucket h t)) (NodeAt.move (Moves.below hW) _ _ hn))
  have C4 := Lib.hid (fun W (hW : Below w.heap.size w W) => map_any (n := some (.bucket h t)) (NodeAt.move (Moves.below hW) _ _ hn))
  simp only [NodeAt] at hn
  obtain ⟨b, tv, rfl, _⟩ := hn

  have hm := kindm_bucket
  go_enter Tryz.func20, Tryz.ntmps20
  go_wp2_with fail
  obtain ⟨W1, hW1⟩ : ∃ W1, (w.alloc (.cells #[.int .i64 (kx : Nat), .int .u64 (gx : Nat), .slice A1 l1 c1, .slice A2 l2 c2, .slice A3 l3 c3] 37)) = W1 := ⟨_, rfl⟩
  have hB1 : Below w.heap.size w W1 := by rw [← hW1]; (repeat (first | exact Below.refl _ _ | with_reducible assumption | refine Below.drew ?_ | refine b_drewN ?_ _ | (refine Below.alloc ?_ (by simp) _) | (refine Below.alloc ?_ (by simp; omega) _)))
  have hs1 : w.heap.size < W1.heap.size := by rw [← hW1]; simp
  have x0 : W1.cell? ⟨w.heap.size, 0, none⟩ = some (.int .i64 (kx : Nat)) := by subst hW1; go_simp
  have x1 : W1.cell? ⟨w.heap.size, 1, none⟩ = some (.int .u64 (gx : Nat)) := by subst hW1; go_simp
  rw [hW1]
  clear hW1
  refine (C1.out _ hB1).mono ?_
  rintro e w1 ⟨rfl, rfl⟩
  simp only [hashO]
  go_wp2_with fail
  refine (C2.out _ hB1).mono ?_
  rintro e w2 ⟨r, rfl, hr, hb2⟩
  simp only [PairTold] at hr
  subst hr
  have x0 := (hb2.cell (p := ⟨w.heap.size, 0, none⟩) hs1).trans x0
  have x1 := (hb2.cell (p := ⟨w.heap.size, 1, none⟩) hs1).trans x1
  have hB2 := hB1.trans (hb2.mono hB1.size)
  have hs2 : w.heap.size < w2.heap.size := Nat.lt_of_lt_of_le hs1 hb2.size
  clear hb2
  have HB2 := Lib.hid hB2
  have hB3 : Below w2.heap.size w2 (w2.alloc (.cells #[.slice none 0 0, .slice none 0 0] 31)) := by (repeat (first | exact Below.refl _ _ | with_reducible assumption | refine Below.drew ?_ | refine b_drewN ?_ _ | (refine Below.alloc ?_ (by simp) _) | (refine Below.alloc ?_ (by simp; omega) _)))
  have HB3 := Lib.hid hB3
  clear hB1 hB2 hB3
  go_wp2_with fail
  refine (C3.out _ (HB2.out.trans (Below.mono (by (repeat (first | exact Below.refl _ _ | with_reducible assumption | refine Below.drew ?_ | refine b_drewN ?_ _ | (refine Below.alloc ?_ (by simp) _) | (refine Below.alloc ?_ (by simp; omega) _)))) HB2.out.size))).mono ?_
  rintro e w3 ⟨⟨r, rfl, ht⟩, rfl⟩
  simp only [TreeTold] at ht
  obtain ⟨tv2, rfl, htv⟩ := ht
  obtain ⟨AT, rfl⟩ := htv.form
  have HTV := Lib.hid htv
  clear htv
  go_wp2_with fail
  refine (C4.out _ (HB2.out.trans (Below.mono (by (repeat (first | exact Below.refl _ _ | with_reducible assumption | refine Below.drew ?_ | refine b_drewN ?_ _ | (refine Below.alloc ?_ (by simp) _) | (refine Below.alloc ?_ (by simp; omega) _)))) HB2.out.size))).mono ?_
  rintro e w3 ⟨rfl, rfl⟩
  simp only [mapO]
  go_wp2_with fail
  have CK := Lib.hid (fun W => (kind_bucket ⟨b, 0, none⟩ W).mono (R' := fun e w' => e = .returned (.int .i64 2) ∧ w' = W) (fun _ _ h => ⟨h.1, h.2.symm⟩))
  go_quiet ((go_at_call 141; exact Calls.quiet_of_same (CK.out _)))
  go_wp2
  go_ret
  exact ⟨rfl, HB2.out.trans (Below.mono (b_drewN HB3.out _) HB2.out.size)⟩

set_option maxRecDepth 100000 in
set_option maxHeartbeats 1000000 in
theorem sg_bucket_hash {h : Nat} {t : Bw.T} {gx l1 c1 l2 c2 l3 c3 : Nat} {A1 A2 A3 : Option Addr} {nv : Value} {w : World} (hn : NodeAt nt AllB w nv (.bucket h t)) (hgx : gx ≠ h) :
    Calls Tryz.prog 20 #[nv, .agg #[.int .i64 2, .int .u64 (gx : Nat), .slice A1 l1 c1, .slice A2 l2 c2, .slice A3 l3 c3]] w fun e w' => e = .returned (.bool false) ∧ Below w.heap.size w w' := by
  have hgg : ((h : Int) != (gx : Int)) = true := by rw [bne_iff_ne]; omega
  clear hgx
  have C1 := Lib.hid (fun W (hW : Below w.heap.size w W) => hash_any (n := some (.bucket h t)) (NodeAt.move (Moves.below hW) _ _ hn))
  have C2 := Lib.hid (fun W (hW : Below w.heap.size w W) => pair_any (n := some (.bucket h t)) (NodeAt.move (Moves.below hW) _ _ hn) (by intro hh p' e; cases e))
  have C3 := Lib.hid (fun W (hW : Below w.heap.size w W) => tree_any (n := some (.bucket h t)) (NodeAt.move (Moves.below hW) _ _ hn))
  have C4 := Lib.hid (fun W (hW : Below w.heap.size w W) => map_any (n := some (.bucket h t)) (NodeAt.move (Moves.below hW) _ _ hn))
  simp only [NodeAt] at hn
  obtain ⟨b, tv, rfl, _⟩ := hn

  have hm := kindm_bucket
  go_enter Tryz.func20, Tryz.ntmps20
  go_wp2_with fail
  obtain ⟨W1, hW1⟩ : ∃ W1, (w.alloc (.cells #[.int .i64 2, .int .u64 (gx : Nat), .slice A1 l1 c1, .slice A2 l2 c2, .slice A3 l3 c3] 37)) = W1 := ⟨_, rfl⟩
  have hB1 : Below w.heap.size w W1 := by rw [← hW1]; (repeat (first | exact Below.refl _ _ | with_reducible assumption | refine Below.drew ?_ | refine b_drewN ?_ _ | (refine Below.alloc ?_ (by simp) _) | (refine Below.alloc ?_ (by simp; omega) _)))
  have hs1 : w.heap.size < W1.heap.size := by rw [← hW1]; simp
  have x0 : W1.cell? ⟨w.heap.size, 0, none⟩ = some (.int .i64 2) := by subst hW1; go_simp
  have x1 : W1.cell? ⟨w.heap.size, 1, none⟩ = some (.int .u64 (gx : Nat)) := by subst hW1; go_simp
  rw [hW1]
  clear hW1
  refine (C1.out _ hB1).mono ?_
  rintro e w1 ⟨rfl, rfl⟩
  simp only [hashO]
  go_wp2_with fail
  refine (C2.out _ hB1).mono ?_
  rintro e w2 ⟨r, rfl, hr, hb2⟩
  simp only [PairTold] at hr
  subst hr
  have x0 := (hb2.cell (p := ⟨w.heap.size, 0, none⟩) hs1).trans x0
  have x1 := (hb2.cell (p := ⟨w.heap.size, 1, none⟩) hs1).trans x1
  have hB2 := hB1.trans (hb2.mono hB1.size)
  have hs2 : w.heap.size < w2.heap.size := Nat.lt_of_lt_of_le hs1 hb2.size
  clear hb2
  have HB2 := Lib.hid hB2
  have hB3 : Below w2.heap.size w2 (w2.alloc (.cells #[.slice none 0 0, .slice none 0 0] 31)) := by (repeat (first | exact Below.refl _ _ | with_reducible assumption | refine Below.drew ?_ | refine b_drewN ?_ _ | (refine Below.alloc ?_ (by simp) _) | (refine Below.alloc ?_ (by simp; omega) _)))
  have HB3 := Lib.hid hB3
  clear hB1 hB2 hB3
  go_wp2_with fail
  refine (C3.out _ (HB2.out.trans (Below.mono (by (repeat (first | exact Below.refl _ _ | with_reducible assumption | refine Below.drew ?_ | refine b_drewN ?_ _ | (refine Below.alloc ?_ (by simp) _) | (refine Below.alloc ?_ (by simp; omega) _)))) HB2.out.size))).mono ?_
  rintro e w3 ⟨⟨r, rfl, ht⟩, rfl⟩
  simp only [TreeTold] at ht
  obtain ⟨tv2, rfl, htv⟩ := ht
  obtain ⟨AT, rfl⟩ := htv.form
  have HTV := Lib.hid htv
  clear htv
  go_wp2_with fail
  refine (C4.out _ (HB2.out.trans (Below.mono (by (repeat (first | exact Below.refl _ _ | with_reducible assumption | refine Below.drew ?_ | refine b_drewN ?_ _ | (refine Below.alloc ?_ (by simp) _) | (refine Below.alloc ?_ (by simp; omega) _)))) HB2.out.size))).mono ?_
  rintro e w3 ⟨rfl, rfl⟩
  simp only [mapO]
  go_wp2_with fail
  have CK := Lib.hid (fun W => (kind_bucket ⟨b, 0, none⟩ W).mono (R' := fun e w' => e = .returned (.int .i64 2) ∧ w' = W) (fun _ _ h => ⟨h.1, h.2.symm⟩))
  go_quiet ((go_at_call 141; exact Calls.quiet_of_same (CK.out _)))
  go_wp2
  go_ret
  exact ⟨rfl, HB2.out.trans (Below.mono (b_drewN HB3.out _) HB2.out.size)⟩

set_option maxRecDepth 100000 in
set_option maxHeartbeats 1000000 in
theorem sg_branch_kind {m : Nat} {kids : List Bw.N} {kx gx l1 c1 l2 c2 l3 c3 : Nat} {A1 A2 A3 : Option Addr} {nv : Value} {w : World} (hn : NodeAt nt AllB w nv (.branch m kids)) (h0 : kx ≠ 0) (hk : kx ≠ 3) :
    Calls Tryz.prog 20 #[nv, .agg #[.int .i64 (kx : Nat), .int .u64 (gx : Nat), .slice A1 l1 c1, .slice A2 l2 c2, .slice A3 l3 c3]] w fun e w' => e = .returned (.bool false) ∧ Below w.heap.size w w' := by
  have hk0 : ((kx : Int) == 0) = false := by rw [beq_eq_false_iff_ne]; omega
  have hkk : ((3 : Int) != (kx : Int)) = true := by rw [bne_iff_ne]; omega
  clear h0 hk
  have C1 := Lib.hid (fun W (hW : Below w.heap.size w W) => hash_any (n := some (.branch m kids)) (NodeAt.move (Moves.below hW) _ _ hn))
  have C2 := Lib.hid (fun W (hW : Below w.heap.size w W) => pair_any (n := some (.branch m kids)) (NodeAt.move (Moves.below hW) _ _ hn) (by intro hh p' e; cases e))
  have C3 := Lib.hid (fun W (hW : Below w.heap.size w W) => tree_any (n := some (.branch m kids)) (NodeAt.move (Moves.below hW) _ _ hn))
  have C4 := Lib.hid (fun W (hW : Below w.heap.size w W) => map_any (n := some (.branch m kids)) (NodeAt.move (Moves.below hW) _ _ hn))
  simp only [NodeAt] at hn
  obtain ⟨b, g, og, cg, rfl, _⟩ := hn

  have hm := kindm_branch
  go_enter Tryz.func20, Tryz.ntmps20
  go_wp2_with fail
  obtain ⟨W1, hW1⟩ : ∃ W1, (w.alloc (.cells #[.int .i64 (kx : Nat), .int .u64 (gx : Nat), .slice A1 l1 c1, .slice A2 l2 c2, .slice A3 l3 c3] 37)) = W1 := ⟨_, rfl⟩
  have hB1 : Below w.heap.size w W1 := by rw [← hW1]; (repeat (first | exact Below.refl _ _ | with_reducible assumption | refine Below.drew ?_ | refine b_drewN ?_ _ | (refine Below.alloc ?_ (by simp) _) | (refine Below.alloc ?_ (by simp; omega) _)))
  have hs1 : w.heap.size < W1.heap.size := by rw [← hW1]; simp
  have x0 : W1.cell? ⟨w.heap.size, 0, none⟩ = some (.int .i64 (kx : Nat)) := by subst hW1; go_simp
  have x1 : W1.cell? ⟨w.heap.size, 1, none⟩ = some (.int .u64 (gx : Nat)) := by subst hW1; go_simp
  rw [hW1]
  clear hW1
  refine (C1.out _ hB1).mono ?_
  rintro e w1 ⟨rfl, rfl⟩
  simp only [hashO]
  go_wp2_with fail
  refine (C2.out _ hB1).mono ?_
  rintro e w2 ⟨r, rfl, hr, hb2⟩
  simp only [PairTold] at hr
  subst hr
  have x0 := (hb2.cell (p := ⟨w.heap.size, 0, none⟩) hs1).trans x0
  have x1 := (hb2.cell (p := ⟨w.heap.size, 1, none⟩) hs1).trans x1
  have hB2 := hB1.trans (hb2.mono hB1.size)
  have hs2 : w.heap.size < w2.heap.size := Nat.lt_of_lt_of_le hs1 hb2.size
  clear hb2
  have HB2 := Lib.hid hB2
  have hB3 : Below w2.heap.size w2 (w2.alloc (.cells #[.slice none 0 0, .slice none 0 0] 31)) := by (repeat (first | exact Below.refl _ _ | with_reducible assumption | refine Below.drew ?_ | refine b_drewN ?_ _ | (refine Below.alloc ?_ (by simp) _) | (refine Below.alloc ?_ (by simp; omega) _)))
  have HB3 := Lib.hid hB3
  clear hB1 hB2 hB3
  go_wp2_with fail
  refine (C3.out _ (HB2.out.trans (Below.mono (by (repeat (first | exact Below.refl _ _ | with_reducible assumption | refine Below.drew ?_ | refine b_drewN ?_ _ | (refine Below.alloc ?_ (by simp) _) | (refine Below.alloc ?_ (by simp; omega) _)))) HB2.out.size))).mono ?_
  rintro e w3 ⟨⟨r, rfl, ht⟩, rfl⟩
  simp only [TreeTold] at ht
  subst ht
  go_wp2_with fail
  refine (C4.out _ (HB2.out.trans (Below.mono (by (repeat (first | exact Below.refl _ _ | with_reducible assumption | refine Below.drew ?_ | refine b_drewN ?_ _ | (refine Below.alloc ?_ (by simp) _) | (refine Below.alloc ?_ (by simp; omega) _)))) HB2.out.size))).mono ?_
  rintro e w3 ⟨rfl, rfl⟩
  simp only [mapO]
  go_wp2_with fail
  have CK := Lib.hid (fun W => (kind_branch ⟨b, 0, none⟩ W).mono (R' := fun e w' => e = .returned (.int .i64 3) ∧ w' = W) (fun _ _ h => ⟨h.1, h.2.symm⟩))
  go_quiet ((go_at_call 143; exact Calls.quiet_of_same (CK.out _)))
  go_wp2
  go_ret
  exact ⟨rfl, HB2.out.trans (Below.mono (b_drewN HB3.out _) HB2.out.size)⟩

set_option maxRecDepth 100000 in
set_option maxHeartbeats 1000000 in
theorem sg_leaf {h : Nat} {p q : Bw.PV} {nv vp : Value} {l2 c2 l3 c3 : Nat} {A2 A3 : Option Addr} {w : World} (hn : NodeAt nt AllB w nv (.leaf h p)) (hf : Bw.N.fit (.leaf h p)) (hp : SPairsAt AllB w vp [q]) :
    Calls Tryz.prog 20 #[nv, .agg #[.int .i64 1, .int .u64 (h : Nat), vp, .slice A2 l2 c2, .slice A3 l3 c3]] w fun e w' => e = .returned (.bool (p == q)) ∧ Below w.heap.size w w' := by
  have C1 := Lib.hid (fun W (hW : Below w.heap.size w W) => hash_any (n := some (.leaf h p)) (NodeAt.move (Moves.below hW) _ _ hn))
  have C2 := Lib.hid (fun W (hW : Below w.heap.size w W) => pair_any (n := some (.leaf h p)) (NodeAt.move (Moves.below hW) _ _ hn) (by intro hh p' e; cases e; exact hf))
  have C3 := Lib.hid (fun W (hW : Below w.heap.size w W) => tree_any (n := some (.leaf h p)) (NodeAt.move (Moves.below hW) _ _ hn))
  have C4 := Lib.hid (fun W (hW : Below w.heap.size w W) => map_any (n := some (.leaf h p)) (NodeAt.move (Moves.below hW) _ _ hn))
  simp only [NodeAt] at hn
  obtain ⟨b, u1, u2, rfl, _⟩ := hn
  obtain ⟨A1, c1, rfl⟩ := hp.form
  simp only [List.length_nil, List.length_cons, Nat.zero_add] at hp ⊢
  obtain ⟨bp, op, rfl, _, d0, d1⟩ := sp_get hp (j := 0) (p := q) rfl
  simp only [Nat.zero_mul, Nat.add_zero, str] at d0 d1
  have hbl := World.block_lt_of_cell? w _ d0
  dsimp only at hbl
  have hm := kindm_leaf
  clear hf hp
  go_enter Tryz.func20, Tryz.ntmps20
  go_wp2_with fail
  obtain ⟨W1, hW1⟩ : ∃ W1, (w.alloc (.cells #[.int .i64 1, .int .u64 (h : Nat), .slice (some ⟨bp, op, none⟩) 1 c1, .slice A2 l2 c2, .slice A3 l3 c3] 37)) = W1 := ⟨_, rfl⟩
  have hB1 : Below w.heap.size w W1 := by rw [← hW1]; (repeat (first | exact Below.refl _ _ | with_reducible assumption | refine Below.drew ?_ | refine b_drewN ?_ _ | (refine Below.alloc ?_ (by simp) _) | (refine Below.alloc ?_ (by simp; omega) _)))
  have hs1 : w.heap.size < W1.heap.size := by rw [← hW1]; simp
  have x0 : W1.cell? ⟨w.heap.size, 0, none⟩ = some (.int .i64 1) := by subst hW1; go_simp
  have x1 : W1.cell? ⟨w.heap.size, 1, none⟩ = some (.int .u64 (h : Nat)) := by subst hW1; go_simp
  have x2 : W1.cell? ⟨w.heap.size, 2, none⟩ = some (.slice (some ⟨bp, op, none⟩) 1 c1) := by subst hW1; go_simp
  rw [hW1]
  clear hW1
  refine (C1.out _ hB1).mono ?_
  rintro e w1 ⟨rfl, rfl⟩
  simp only [hashO]
  go_wp2_with fail
  refine (C2.out _ hB1).mono ?_
  rintro e w2 ⟨r, rfl, hr, hb2⟩
  simp only [PairTold] at hr
  obtain ⟨v1, v2, rfl, hv1, hv2⟩ := hr
  obtain ⟨V1, k1, rfl⟩ := hv1.form
  obtain ⟨V2, k2, rfl⟩ := hv2.form
  have x0 := (hb2.cell (p := ⟨w.heap.size, 0, none⟩) hs1).trans x0
  have x1 := (hb2.cell (p := ⟨w.heap.size, 1, none⟩) hs1).trans x1
  have x2 := (hb2.cell (p := ⟨w.heap.size, 2, none⟩) hs1).trans x2
  have hB2 := hB1.trans (hb2.mono hB1.size)
  have hs2 : w.heap.size < w2.heap.size := Nat.lt_of_lt_of_le hs1 hb2.size
  have d0 := (hB2.cell (p := ⟨bp, op, none⟩) hbl).trans d0
  have d1 := (hB2.cell (p := ⟨bp, op + 1, none⟩) hbl).trans d1
  have hbl2 : bp < w2.heap.size := Nat.lt_of_lt_of_le hbl hB2.size
  clear hb2
  have HB2 := Lib.hid hB2
  have hB3 : Below w2.heap.size w2 (w2.alloc (.cells #[.slice V1 p.1.length k1, .slice V2 p.2.length k2] 31)) := by (repeat (first | exact Below.refl _ _ | with_reducible assumption | refine Below.drew ?_ | refine b_drewN ?_ _ | (refine Below.alloc ?_ (by simp) _) | (refine Below.alloc ?_ (by simp; omega) _)))
  have HB3 := Lib.hid hB3
  have HV1 := Lib.hid (fun n => run_conv (P := Tryz.prog) 29 9 5 Tryz.underlying29 Tryz.underlying5 Tryz.underlying9 (hv1.move goodByte ((Moves.below hB3).trans hB3.size (Moves.drewN _ n))))
  have HV2 := Lib.hid (fun n => run_conv (P := Tryz.prog) 29 9 5 Tryz.underlying29 Tryz.underlying5 Tryz.underlying9 (hv2.move goodByte ((Moves.below hB3).trans hB3.size (Moves.drewN _ n))))
  clear hv1 hv2 hB1 hB2 hB3
  go_wp2_with fail
  refine (C3.out _ (HB2.out.trans (Below.mono (by (repeat (first | exact Below.refl _ _ | with_reducible assumption | refine Below.drew ?_ | refine b_drewN ?_ _ | (refine Below.alloc ?_ (by simp) _) | (refine Below.alloc ?_ (by simp; omega) _)))) HB2.out.size))).mono ?_
  rintro e w3 ⟨⟨r, rfl, ht⟩, rfl⟩
  simp only [TreeTold] at ht
  subst ht
  go_wp2_with fail
  refine (C4.out _ (HB2.out.trans (Below.mono (by (repeat (first | exact Below.refl _ _ | with_reducible assumption | refine Below.drew ?_ | refine b_drewN ?_ _ | (refine Below.alloc ?_ (by simp) _) | (refine Below.alloc ?_ (by simp; omega) _)))) HB2.out.size))).mono ?_
  rintro e w3 ⟨rfl, rfl⟩
  simp only [mapO]
  go_wp2_with fail
  have CK := Lib.hid (fun W => (kind_leaf ⟨b, 0, none⟩ W).mono (R' := fun e w' => e = .returned (.int .i64 1) ∧ w' = W) (fun _ _ h => ⟨h.1, h.2.symm⟩))
  go_quiet ((go_at_call 139; exact Calls.quiet_of_same (CK.out _)))
  have q1 := HV1.out
  have q2 := HV2.out
  obtain ⟨px, py⟩ := p
  obtain ⟨qx, qy⟩ := q
  dsimp only at *
  by_cases e1 : px = qx
  · by_cases e2 : py = qy
    · subst e1 e2
      go_wp2_with fail
      go_quiet (fail)
      go_wp2
      go_ret
      exact ⟨by simp, HB2.out.trans (Below.mono (b_drewN (b_drewN HB3.out _) _) HB2.out.size)⟩
    · subst e1
      have hb2' : (py == qy) = false := beq_eq_false_iff_ne.2 e2
      have he : ((px, py) == (px, qy)) = false := beq_eq_false_iff_ne.2 fun e => e2 (by injection e)
      have HE := Lib.hid he
      clear e2 he
      go_wp2_with fail
      go_quiet (fail)
      go_wp2
      go_ret
      exact ⟨by rw [HE.out]; rfl, HB2.out.trans (Below.mono (b_drewN (b_drewN HB3.out _) _) HB2.out.size)⟩
  · have hb1' : (px == qx) = false := beq_eq_false_iff_ne.2 e1
    have he : ((px, py) == (qx, qy)) = false := beq_eq_false_iff_ne.2 fun e => e1 (by injection e)
    have HE := Lib.hid he
    clear e1 he
    go_wp2_with fail
    go_quiet (fail)
    go_wp2
    go_ret
    exact ⟨by rw [HE.out]; rfl, HB2.out.trans (Below.mono (b_drewN (b_drewN HB3.out _) _) HB2.out.size)⟩

set_option maxRecDepth 100000 in
set_option maxHeartbeats 1000000 in
theorem sg_bucket {h l2 c2 l3 c3 : Nat} {t : Bw.T} {l : List Bw.PV} {A2 A3 : Option Addr} {nv vp : Value} {w : World} (hn : NodeAt nt AllB w nv (.bucket h t)) (hp : SPairsAt AllB w vp l) (hf : Bw.N.fit (.bucket h t)) :
    Calls Tryz.prog 20 #[nv, .agg #[.int .i64 2, .int .u64 (h : Nat), vp, .slice A2 l2 c2, .slice A3 l3 c3]] w fun e w' => e = .returned (.bool (decide (t.list = l))) ∧ Below w.heap.size w w' := by
  have C1 := Lib.hid (fun W (hW : Below w.heap.size w W) => hash_any (n := some (.bucket h t)) (NodeAt.move (Moves.below hW) _ _ hn))
  have C2 := Lib.hid (fun W (hW : Below w.heap.size w W) => pair_any (n := some (.bucket h t)) (NodeAt.move (Moves.below hW) _ _ hn) (by intro hh p' e; cases e))
  have C3 := Lib.hid (fun W (hW : Below w.heap.size w W) => tree_any (n := some (.bucket h t)) (NodeAt.move (Moves.below hW) _ _ hn))
  have C4 := Lib.hid (fun W (hW : Below w.heap.size w W) => map_any (n := some (.bucket h t)) (NodeAt.move (Moves.below hW) _ _ hn))
  simp only [NodeAt] at hn
  obtain ⟨b, tv, rfl, _⟩ := hn
  obtain ⟨A1, c1, rfl⟩ := hp.form
  obtain ⟨hev, hri, hbd, hsz⟩ := hf
  have hm := kindm_bucket
  have HEV := Lib.hid hev; have HRI := Lib.hid hri; have HBD := Lib.hid hbd; have HSZ := Lib.hid hsz; have HP := Lib.hid hp
  clear hev hri hbd hsz hp
  go_enter Tryz.func20, Tryz.ntmps20
  go_wp2_with fail
  obtain ⟨W1, hW1⟩ : ∃ W1, (w.alloc (.cells #[.int .i64 2, .int .u64 (h : Nat), .slice A1 l.length c1, .slice A2 l2 c2, .slice A3 l3 c3] 37)) = W1 := ⟨_, rfl⟩
  have hB1 : Below w.heap.size w W1 := by rw [← hW1]; (repeat (first | exact Below.refl _ _ | with_reducible assumption | refine Below.drew ?_ | refine b_drewN ?_ _ | (refine Below.alloc ?_ (by simp) _) | (refine Below.alloc ?_ (by simp; omega) _)))
  have hs1 : w.heap.size < W1.heap.size := by rw [← hW1]; simp
  have x0 : W1.cell? ⟨w.heap.size, 0, none⟩ = some (.int .i64 2) := by subst hW1; go_simp
  have x1 : W1.cell? ⟨w.heap.size, 1, none⟩ = some (.int .u64 (h : Nat)) := by subst hW1; go_simp
  have x2 : W1.cell? ⟨w.heap.size, 2, none⟩ = some (.slice A1 l.length c1) := by subst hW1; go_simp
  rw [hW1]
  clear hW1
  refine (C1.out _ hB1).mono ?_
  rintro e w1 ⟨rfl, rfl⟩
  simp only [hashO]
  go_wp2_with fail
  refine (C2.out _ hB1).mono ?_
  rintro e w2 ⟨r, rfl, hr, hb2⟩
  simp only [PairTold] at hr
  subst hr
  have x0 := (hb2.cell (p := ⟨w.heap.size, 0, none⟩) hs1).trans x0
  have x1 := (hb2.cell (p := ⟨w.heap.size, 1, none⟩) hs1).trans x1
  have x2 := (hb2.cell (p := ⟨w.heap.size, 2, none⟩) hs1).trans x2
  have hB2 := hB1.trans (hb2.mono hB1.size)
  have hs2 : w.heap.size < w2.heap.size := Nat.lt_of_lt_of_le hs1 hb2.size
  clear hb2
  have HB2 := Lib.hid hB2
  have hB3 : Below w2.heap.size w2 (w2.alloc (.cells #[.slice none 0 0, .slice none 0 0] 31)) := by (repeat (first | exact Below.refl _ _ | with_reducible assumption | refine Below.drew ?_ | refine b_drewN ?_ _ | (refine Below.alloc ?_ (by simp) _) | (refine Below.alloc ?_ (by simp; omega) _)))
  have HB3 := Lib.hid hB3
  clear hB1 hB2 hB3
  go_wp2_with fail
  refine (C3.out _ (HB2.out.trans (Below.mono (by (repeat (first | exact Below.refl _ _ | with_reducible assumption | refine Below.drew ?_ | refine b_drewN ?_ _ | (refine Below.alloc ?_ (by simp) _) | (refine Below.alloc ?_ (by simp; omega) _)))) HB2.out.size))).mono ?_
  rintro e w3 ⟨⟨r, rfl, ht⟩, rfl⟩
  simp only [TreeTold] at ht
  obtain ⟨tv2, rfl, htv⟩ := ht
  obtain ⟨AT, rfl⟩ := htv.form
  have HTV := Lib.hid htv
  clear htv
  go_wp2_with fail
  refine (C4.out _ (HB2.out.trans (Below.mono (by (repeat (first | exact Below.refl _ _ | with_reducible assumption | refine Below.drew ?_ | refine b_drewN ?_ _ | (refine Below.alloc ?_ (by simp) _) | (refine Below.alloc ?_ (by simp; omega) _)))) HB2.out.size))).mono ?_
  rintro e w3 ⟨rfl, rfl⟩
  simp only [mapO]
  go_wp2_with fail
  have CK := Lib.hid (fun W => (kind_bucket ⟨b, 0, none⟩ W).mono (R' := fun e w' => e = .returned (.int .i64 2) ∧ w' = W) (fun _ _ h => ⟨h.1, h.2.symm⟩))
  go_quiet ((go_at_call 141; exact Calls.quiet_of_same (CK.out _)))
  go_wp2_with fail
  obtain ⟨W4, hW4⟩ : ∃ W4, (w2.alloc (.cells #[.slice none 0 0, .slice none 0 0] 31)).drewN nq = W4 := ⟨_, rfl⟩
  have hs4 : w.heap.size < W4.heap.size := by subst hW4; simp; omega
  have hx4 : W4.cell? ⟨w.heap.size, 2, none⟩ = some (.slice A1 l.length c1) := by subst hW4; go_simp
  have HB4 : Hid (Below w.heap.size w W4) := Lib.hid (by subst hW4; exact HB2.out.trans (Below.mono (b_drewN HB3.out _) HB2.out.size))
  have HTV4 : Hid (TreeAt AllB W4 (.pointer AT) t) := Lib.hid (by subst hW4; exact HTV.out.move (Moves.drewN _ _))
  rw [hW4]
  clear hW4 x0 x1 x2
  have CSO := Lib.hid (fun W (hW : Below W4.heap.size W4 W) => sound_any (HTV4.out.move (Moves.below hW)) HEV.out HRI.out HSZ.out)
  have CLI := Lib.hid (fun W (hW : Below W4.heap.size W4 W) => list_any (HTV4.out.move (Moves.below hW)) HBD.out HSZ.out)
  have HXS : Hid (∀ W, Below W4.heap.size W4 W → W.cell? ⟨w.heap.size, 2, none⟩ = some (.slice A1 l.length c1)) := Lib.hid fun W hW => (hW.cell (p := ⟨w.heap.size, 2, none⟩) hs4).trans hx4
  have hX4d := HXS.out W4.drew (by (repeat (first | exact Below.refl _ _ | with_reducible assumption | refine Below.drew ?_ | refine b_drewN ?_ _ | (refine Below.alloc ?_ (by simp) _) | (refine Below.alloc ?_ (by simp; omega) _))))
  have HP4 := Lib.hid (fun W (hW : Below W4.heap.size W4 W) => HP.out.move goodSp (Moves.below (HB4.out.trans (hW.mono HB4.out.size))))
  have HLL : Hid (t.list.length ≤ 1048576) := Lib.hid (by rw [Bw.T.length_list]; exact HSZ.out)
  go_region_held3 (fun w' => w'.cell? ⟨w.heap.size, 2, none⟩ = some (.slice A1 l.length c1))
    (first | with_reducible exact hX7 | with_reducible exact hX6 | with_reducible exact hX5 | with_reducible exact hX4d)
    ((first
      | (go_at_call 37; (with_reducible refine (CSO.out _ (by (repeat (first | exact Below.refl _ _ | with_reducible assumption | refine Below.drew ?_ | refine b_drewN ?_ _ | (refine Below.alloc ?_ (by simp) _) | (refine Below.alloc ?_ (by simp; omega) _))))).mono ?_); rintro e w5 ⟨rfl, hb5⟩; have hw5 : Below W4.heap.size W4 w5 := Below.trans (by (repeat (first | exact Below.refl _ _ | with_reducible assumption | refine Below.drew ?_ | refine b_drewN ?_ _ | (refine Below.alloc ?_ (by simp) _) | (refine Below.alloc ?_ (by simp; omega) _)))) (hb5.mono (by simp)); have hX5 := HXS.out w5 hw5)
      | (go_at_call 39; (with_reducible refine (CLI.out _ hw5).mono ?_); rintro e w6 ⟨q6, rfl, hq6, hb6⟩; obtain ⟨A6, c6, rfl⟩ := hq6.form; have hw6 : Below W4.heap.size W4 w6 := hw5.trans (hb6.mono hw5.size); have hX6 := HXS.out w6 hw6; have HQ6 := Lib.hid hq6; clear hq6)
      | (go_at_call 38; (with_reducible refine (ris_any HLL.out HQ6.out (HP4.out _ hw6)).mono ?_); rintro e w7 ⟨rfl, n7, rfl⟩; have hw7 : Below W4.heap.size W4 (w6.drewN n7) := b_drewN hw6 _; have hX7 := HXS.out _ hw7)))
  all_goals go_wp2
  all_goals go_ret
  all_goals exact ⟨rfl, HB4.out.trans (hw7.mono HB4.out.size)⟩

end Go.Proofs.YtehkjnmnbplcoaaGreatDoor
