
import Derived.Test.YtadaoceidkagfaaGreatDoorTput
import Derived.Test.YtadaoceidkagfaaGreatDoorFork
import Derived.Test.YtadaoceidkagfaaGreatDoorNodeC
import Derived.Test.YtadaoceidkagfaaGreatDoorBwG
import Derived.Deep.RegionHeld3
namespace Go.Proofs.YtadaoceidkagfaaGreatDoor
open Go.RowKit Go.Bw
theorem Tab.turns {w w' : World} {mb : Option Nat} (h : Tab w) (hT : Turns w w' mb) (h0 : some 2 ≠ mb) : Tab w' := fun i t ht => hT.cell (h i t ht) h0
structure PutIn (ok okb : Nat -> Prop) (mb : Option Nat) (f level : Nat) (o : Option Bw.N) (l : List Bw.En) (h : Nat) (p : Bw.PV) (c : Nat × Nat) (w : World) (v u1 u2 mv : Value) : Prop where
  fuel : level + f = 13
  lays : Bw.OLays level o l
  unlike : Bw.Unlike l
  bytes : ∀ e ∈ l, e.2.1.length <= 1048576 /\ e.2.2.length <= 1048576
  hash : ∀ e ∈ l, e.1 < 18446744073709551616
  len : l.length <= 1048560
  pre : ∀ e ∈ l, e.1 % 32 ^ level = h % 32 ^ level
  cons : ∀ e ∈ l, e.2.1 = p.1 -> e.1 = h
  hh : h < 18446744073709551616
  p1 : p.1.length <= 1048576
  p2 : p.2.length <= 1048576
  node : ONodeAt nt ok w v o
  b1 : BytesAt okb w u1 p.1
  b2 : BytesAt okb w u2 p.2
  meter : MeterAt w mv c mb
  hokm : ∀ k, ok k -> some k ≠ mb
  hokb : ∀ k, okb k -> some k ≠ mb
  m0 : some 2 ≠ mb
  hok : ∀ k, w.heap.size <= k -> ok k
  tab : Tab w
  c1 : c.1 + f < 4611686018420000000
  c2 : c.2 + f < 4611686018420000000
def IntoEnds (ok : Nat -> Prop) (mb : Option Nat) (level : Nat) (l : List Bw.En) (h : Nat) (p : Bw.PV) (c : Nat × Nat) (w : World) (mv : Value) (e : Ending) (w' : World) : Prop :=
  ∃ nv n fr, e = .returned (.tuple #[nv, .bool fr]) /\ NodeAt nt ok w' nv n /\ Bw.Lays level n (Bw.PutS (fun e => e ∈ l) h p) /\ (fr = true ↔ ∀ e ∈ l, e.2.1 ≠ p.1) /\ MeterAt w' mv c mb /\ Turns w w' mb
abbrev recv (h : Nat) (u1 u2 mv : Value) : Value := .agg #[.int .u64 (h : Nat), u1, u2, mv]
theorem PutIn.forms {ok okb : Nat -> Prop} {mb : Option Nat} {f level : Nat} {o : Option Bw.N} {l : List Bw.En} {h : Nat} {p : Bw.PV} {c : Nat × Nat} {w : World} {v u1 u2 mv : Value} (H : PutIn ok okb mb f level o l h p c w v u1 u2 mv) :
    (∃ A n, u1 = .slice A p.1.length n) /\ (∃ A n, u2 = .slice A p.2.length n) /\ ∃ A, mv = .pointer A := by
  exact ⟨H.b1.form, H.b2.form, H.meter.form⟩
set_option maxRecDepth 100000 in
theorem eql_nn (W : World) : (binOp .eql 28 .nilIface .nilIface).run Tryz.prog W = .ok (.bool true) W := by rfl
set_option maxRecDepth 100000 in
set_option maxHeartbeats 1000000 in
theorem into_none {ok okb : Nat -> Prop} {mb : Option Nat} {f level : Nat} {l : List Bw.En} {h : Nat} {p : Bw.PV} {c : Nat × Nat} {w : World} {v u1 u2 mv : Value} (H : PutIn ok okb mb f level none l h p c w v u1 u2 mv) :
    Calls Tryz.prog 73 #[recv h u1 u2 mv, v, .int .i64 (level : Nat)] w (IntoEnds ok mb level l h p c w mv) := by
  obtain rfl : v = .nilIface := H.node
  have hlays : l = [] := H.lays
  subst hlays
  obtain ⟨⟨U, cu, rfl⟩, ⟨V, cv, rfl⟩, ⟨AM, rfl⟩⟩ := H.forms
  obtain ⟨wb, hwb⟩ : ∃ wb, w.alloc (.cells #[.int .u64 (h : Nat), .slice U p.1.length cu, .slice V p.2.length cv, .pointer AM] 153) = wb := ⟨_, rfl⟩
  have hB : Below w.heap.size w wb := by rw [<- hwb]; exact gB3
  have x0 : wb.cell? ⟨w.heap.size, 0, none⟩ = some (.int .u64 (h : Nat)) := by rw [<- hwb]; exact cell_new w 0 _ _ 0 _ rfl
  have x1 : wb.cell? ⟨w.heap.size, 1, none⟩ = some (.slice U p.1.length cu) := by rw [<- hwb]; exact cell_new w 0 _ _ 1 _ rfl
  have x2 : wb.cell? ⟨w.heap.size, 2, none⟩ = some (.slice V p.2.length cv) := by rw [<- hwb]; exact cell_new w 0 _ _ 2 _ rfl
  have CL := Lib.hid (leaf_any (h := h) wb (H.b1.move goodByte (Moves.below hB)) (H.b2.move goodByte (Moves.below hB)) H.p1 H.p2)
  have he := eql_nn
  have HH := Lib.hid H
  have HB := Lib.hid hB
  have HWB := Lib.hid hwb
  clear H hB hwb
  go_enter Tryz.func73, Tryz.ntmps73
  go_wp2_with fail
  rw [HWB.out]
  go_wp2_with fail
  refine CL.out.mono ?_
  rintro e w1 ⟨r, rfl, hr, hb1⟩
  obtain ⟨t1, b1, rfl⟩ := hr.form
  have HR := Lib.hid hr
  have HB1 := Lib.hid (HB.out.trans (hb1.mono HB.out.size))
  clear hr hb1
  go_wp2
  go_ret2
  exact ⟨_, _, true, rfl, NodeAt.move (Moves.weaken fun k hk _ => HH.out.hok k (Nat.le_trans HB.out.size hk)) _ _ HR.out, Bw.lays_leaf_new (by simp), by simp, HH.out.meter.below HB1.out, Turns.of_below mb HB1.out⟩
open Go.RowKit Go.Bw
set_option maxRecDepth 100000 in
set_option maxHeartbeats 1600000 in
theorem into_leaf_fork {ok okb : Nat -> Prop} {mb : Option Nat} {f level g : Nat} {q : Bw.PV} {l : List Bw.En} {h : Nat} {p : Bw.PV} {c : Nat × Nat} {w : World} {v u1 u2 mv : Value} (H : PutIn ok okb mb f level (some (.leaf g q)) l h p c w v u1 u2 mv) (hne : g ≠ h) :
    Calls Tryz.prog 73 #[recv h u1 u2 mv, v, .int .i64 (level : Nat)] w (IntoEnds ok mb level l h p (c.1 + 1, c.2) w mv) := by
  have hL : Bw.Lays level (.leaf g q) fun e => e ∈ l := H.lays
  have hmem : (g, q) ∈ l := by cases hL with | leaf hs => exact (hs _).2 rfl
  obtain ⟨n', hn', hL'⟩ := Bw.lays_fork_put rfl hL hne (H.hash _ hmem) H.hh H.cons f H.fuel (H.pre _ hmem)
  have hnk : ∀ e ∈ l, e.2.1 ≠ p.1 := fun e he hk => hne ((Bw.lays_hash rfl hL e he).symm.trans (H.cons e he hk))
  have hnode : NodeAt nt ok w v (.leaf g q) := H.node
  obtain ⟨b, hv⟩ : ∃ b, v = .iface 114 (.pointer (some ⟨b, 0, none⟩)) := by
    have h0 := hnode
    simp only [NodeAt] at h0
    obtain ⟨b, _, _, rfl, _⟩ := h0
    exact ⟨b, rfl⟩
  subst hv
  obtain ⟨⟨U, cu, rfl⟩, ⟨V, cv, rfl⟩, ⟨AM, rfl⟩⟩ := H.forms
  obtain ⟨wb, hwb⟩ : ∃ wb, w.alloc (.cells #[.int .u64 (h : Nat), .slice U p.1.length cu, .slice V p.2.length cv, .pointer AM] 153) = wb := ⟨_, rfl⟩
  have hB : Below w.heap.size w wb := by rw [<- hwb]; exact gB3
  have hsb : wb.heap.size = w.heap.size + 1 := by rw [<- hwb]; simp
  have x0 : wb.cell? ⟨w.heap.size, 0, none⟩ = some (.int .u64 (h : Nat)) := by rw [<- hwb]; exact cell_new w 0 _ _ 0 _ rfl
  have x1 : wb.cell? ⟨w.heap.size, 1, none⟩ = some (.slice U p.1.length cu) := by rw [<- hwb]; exact cell_new w 0 _ _ 1 _ rfl
  have x2 : wb.cell? ⟨w.heap.size, 2, none⟩ = some (.slice V p.2.length cv) := by rw [<- hwb]; exact cell_new w 0 _ _ 2 _ rfl
  have x3 : wb.cell? ⟨w.heap.size, 3, none⟩ = some (.pointer AM) := by rw [<- hwb]; exact cell_new w 0 _ _ 3 _ rfl
  have hwm : some w.heap.size ≠ mb := H.hokm _ (H.hok _ (Nat.le_refl _))
  have hTW : ∀ W, Turns wb W mb -> Moves ok ok w W := fun W hW => (Moves.below hB).trans hB.size (hW.moves H.hokm)
  have hTB : ∀ W, Turns wb W mb -> Moves okb okb w W := fun W hW => (Moves.below hB).trans hB.size (hW.moves H.hokb)
  have hsW : ∀ W, Turns wb W mb -> ∀ k, W.heap.size <= k -> ok k := fun W hW k hk => H.hok k (Nat.le_trans (Nat.le_trans hB.size hW.size) hk)
  have hwW : ∀ W, Turns wb W mb -> Turns w W mb := fun W hW => (Turns.of_below mb hB).trans hW
  have SK : Hid (∀ W, Turns wb W mb -> W.cell? ⟨w.heap.size, 0, none⟩ = some (.int .u64 (h : Nat)) /\ W.cell? ⟨w.heap.size, 1, none⟩ = some (.slice U p.1.length cu) /\ W.cell? ⟨w.heap.size, 2, none⟩ = some (.slice V p.2.length cv) /\ W.cell? ⟨w.heap.size, 3, none⟩ = some (.pointer AM)) :=
    Lib.hid fun W hW => ⟨hW.cell x0 hwm, hW.cell x1 hwm, hW.cell x2 hwm, hW.cell x3 hwm⟩
  have CV := Lib.hid (visit_any (H.meter.below hB) (by have := H.c1; omega))
  have CL := Lib.hid (fun (W : World) (hW : Turns wb W mb) => leaf_any (h := h) W (H.b1.move goodByte (hTB W hW)) (H.b2.move goodByte (hTB W hW)) H.p1 H.p2)
  have HTW := Lib.hid hwW
  have HSZ := Lib.hid hB.size
  have CH := Lib.hid (fun (W : World) (hW : Turns wb W mb) => hash_any (n := some (.leaf g q)) (v := .iface 114 (.pointer (some ⟨b, 0, none⟩))) (w := W) (ok := ok) (NodeAt.move (hTW W hW) _ _ hnode))
  simp only [hashO] at CH
  have CF := Lib.hid (fun (W : World) (x : Value) (hx : NodeAt nt ok W x (.leaf h p)) (hW : Turns wb W mb) => fork_any hne (H.hash _ hmem) H.hh (by simp [Bw.N.count]) f level _ x W n' H.fuel (H.pre _ hmem) hn' (NodeAt.move (hTW W hW) _ _ hnode) hx (hsW W hW))
  have hgh : ((g : Int) != (h : Int)) = true := by rw [bne_iff_ne]; omega
  have HOK := Lib.hid (fun W (hW : Turns wb W mb) => hsW W hW)
  have HL' := Lib.hid hL'
  have HNK := Lib.hid hnk
  have hm := kindm_leaf
  have HWB := Lib.hid hwb
  clear H hB hwb hTW hTB hsW hwW hL hL' hn' hnk hnode hmem hsb x0 x1 x2 x3 hne
  go_enter Tryz.func73, Tryz.ntmps73
  go_wp2_with fail
  rw [HWB.out]
  have hTb := Turns.refl wb mb
  obtain ⟨y0, y1, y2, y3⟩ := SK.out wb hTb
  go_wp2_with (first
    | (go_at_call 175; (with_reducible refine (kind_leaf _ _).mono ?_); rintro e w' ⟨rfl, rfl⟩)
    | (go_at_call 81; (with_reducible refine CV.out.mono ?_); rintro e w1 ⟨rfl, hm1, hT1⟩; obtain ⟨z0, z1, z2, z3⟩ := SK.out w1 hT1)
    | (go_at_call 29; (with_reducible refine (CH.out _ hT1).mono ?_); rintro e w' ⟨rfl, rfl⟩))
  go_region_held3 (fun W => W.cell? ⟨w.heap.size, 0, none⟩ = some (.int .u64 (h : Nat)) /\ W.cell? ⟨w.heap.size, 1, none⟩ = some (.slice U p.1.length cu) /\ W.cell? ⟨w.heap.size, 2, none⟩ = some (.slice V p.2.length cv) /\ W.cell? ⟨w.heap.size, 3, none⟩ = some (.pointer AM))
    (first | with_reducible exact SK.out _ hT3 | with_reducible exact SK.out _ hT2 | with_reducible exact SK.out _ (hT1.trans (Turns.of_below _ (by exact gB3))))
    ((first
      | (go_at_call 98; (with_reducible refine (CL.out _ (hT1.trans (Turns.of_below _ (by exact gB3)))).mono ?_); rintro e w2 ⟨r2, rfl, hr2, hb2⟩; obtain ⟨t2, b2, rfl⟩ := hr2.form; have hb12 : Below w1.heap.size w1 w2 := Below.trans (by exact gB3) (hb2.mono (by simp)); have hT2 : Turns wb w2 mb := hT1.trans (Turns.of_below _ hb12))
      | (go_at_call 100; (with_reducible refine (CF.out _ _ (NodeAt.move (Moves.weaken fun k hk _ => HOK.out _ hT1 k (Nat.le_trans (by simp) hk)) _ _ hr2) hT2).mono ?_); rintro e w3 ⟨r3, rfl, hr3, hb3⟩; obtain ⟨t3, b3, rfl⟩ := hr3.form; have hT3 : Turns wb w3 mb := hT2.trans (Turns.of_below _ hb3))))
  go_wp2
  go_ret2
  exact ⟨_, _, true, rfl, hr3, HL'.out, ⟨fun _ => HNK.out, fun _ => rfl⟩, (hm1.below hb12).below hb3, HTW.out _ hT3⟩
set_option maxRecDepth 100000 in
set_option maxHeartbeats 1600000 in
theorem into_bucket_fork {ok okb : Nat -> Prop} {mb : Option Nat} {f level g : Nat} {t : Bw.T} {l : List Bw.En} {h : Nat} {p : Bw.PV} {c : Nat × Nat} {w : World} {v u1 u2 mv : Value} (H : PutIn ok okb mb f level (some (.bucket g t)) l h p c w v u1 u2 mv) (hne : g ≠ h) :
    Calls Tryz.prog 73 #[recv h u1 u2 mv, v, .int .i64 (level : Nat)] w (IntoEnds ok mb level l h p c w mv) := by
  have hL : Bw.Lays level (.bucket g t) fun e => e ∈ l := H.lays
  obtain ⟨em, hmem⟩ := hL.some
  have hge : em.1 = g := Bw.lays_hash rfl hL em hmem
  have hg64 : g < 18446744073709551616 := hge ▸ H.hash _ hmem
  have hgp : g % 32 ^ level = h % 32 ^ level := hge ▸ H.pre _ hmem
  obtain ⟨n', hn', hL'⟩ := Bw.lays_fork_put rfl hL hne hg64 H.hh H.cons f H.fuel hgp
  have hnk : ∀ e ∈ l, e.2.1 ≠ p.1 := fun e he hk => hne ((Bw.lays_hash rfl hL e he).symm.trans (H.cons e he hk))
  have hnode : NodeAt nt ok w v (.bucket g t) := H.node
  have hsz : t.size <= 1048576 := by have := Bw.lays_count hL l H.unlike (fun _ => Iff.rfl); simp only [Bw.N.count] at this; rw [this]; have := H.len; omega
  obtain ⟨b, hv⟩ : ∃ b, v = .iface 117 (.pointer (some ⟨b, 0, none⟩)) := by
    have h0 := hnode
    simp only [NodeAt] at h0
    obtain ⟨b, _, rfl, _⟩ := h0
    exact ⟨b, rfl⟩
  subst hv
  obtain ⟨⟨U, cu, rfl⟩, ⟨V, cv, rfl⟩, ⟨AM, rfl⟩⟩ := H.forms
  obtain ⟨wb, hwb⟩ : ∃ wb, w.alloc (.cells #[.int .u64 (h : Nat), .slice U p.1.length cu, .slice V p.2.length cv, .pointer AM] 153) = wb := ⟨_, rfl⟩
  have hB : Below w.heap.size w wb := by rw [<- hwb]; exact gB3
  have hsb : wb.heap.size = w.heap.size + 1 := by rw [<- hwb]; simp
  have x0 : wb.cell? ⟨w.heap.size, 0, none⟩ = some (.int .u64 (h : Nat)) := by rw [<- hwb]; exact cell_new w 0 _ _ 0 _ rfl
  have x1 : wb.cell? ⟨w.heap.size, 1, none⟩ = some (.slice U p.1.length cu) := by rw [<- hwb]; exact cell_new w 0 _ _ 1 _ rfl
  have x2 : wb.cell? ⟨w.heap.size, 2, none⟩ = some (.slice V p.2.length cv) := by rw [<- hwb]; exact cell_new w 0 _ _ 2 _ rfl
  have x3 : wb.cell? ⟨w.heap.size, 3, none⟩ = some (.pointer AM) := by rw [<- hwb]; exact cell_new w 0 _ _ 3 _ rfl
  have hwm : some w.heap.size ≠ mb := H.hokm _ (H.hok _ (Nat.le_refl _))
  have hTW : ∀ W, Turns wb W mb -> Moves ok ok w W := fun W hW => (Moves.below hB).trans hB.size (hW.moves H.hokm)
  have hTB : ∀ W, Turns wb W mb -> Moves okb okb w W := fun W hW => (Moves.below hB).trans hB.size (hW.moves H.hokb)
  have hsW : ∀ W, Turns wb W mb -> ∀ k, W.heap.size <= k -> ok k := fun W hW k hk => H.hok k (Nat.le_trans (Nat.le_trans hB.size hW.size) hk)
  have hwW : ∀ W, Turns wb W mb -> Turns w W mb := fun W hW => (Turns.of_below mb hB).trans hW
  have SK : Hid (∀ W, Turns wb W mb -> W.cell? ⟨w.heap.size, 0, none⟩ = some (.int .u64 (h : Nat)) /\ W.cell? ⟨w.heap.size, 1, none⟩ = some (.slice U p.1.length cu) /\ W.cell? ⟨w.heap.size, 2, none⟩ = some (.slice V p.2.length cv) /\ W.cell? ⟨w.heap.size, 3, none⟩ = some (.pointer AM)) :=
    Lib.hid fun W hW => ⟨hW.cell x0 hwm, hW.cell x1 hwm, hW.cell x2 hwm, hW.cell x3 hwm⟩
  have CV := Lib.hid (visit_any (H.meter.below hB) (by have := H.c1; omega))
  have CL := Lib.hid (fun (W : World) (hW : Turns wb W mb) => leaf_any (h := h) W (H.b1.move goodByte (hTB W hW)) (H.b2.move goodByte (hTB W hW)) H.p1 H.p2)
  have HTW := Lib.hid hwW
  have HSZ := Lib.hid hB.size
  have CH := Lib.hid (fun (W : World) (hW : Turns wb W mb) => hash_any (n := some (.bucket g t)) (v := .iface 117 (.pointer (some ⟨b, 0, none⟩))) (w := W) (ok := ok) (NodeAt.move (hTW W hW) _ _ hnode))
  simp only [hashO] at CH
  have CF := Lib.hid (fun (W : World) (x : Value) (hx : NodeAt nt ok W x (.leaf h p)) (hW : Turns wb W mb) => fork_any hne hg64 H.hh (by have := hsz; simp only [Bw.N.count]; omega) f level _ x W n' H.fuel hgp hn' (NodeAt.move (hTW W hW) _ _ hnode) hx (hsW W hW))
  have hgh : ((g : Int) != (h : Int)) = true := by rw [bne_iff_ne]; omega
  have HOK := Lib.hid (fun W (hW : Turns wb W mb) => hsW W hW)
  have HL' := Lib.hid hL'
  have HNK := Lib.hid hnk
  have hm := kindm_bucket
  have HMB := Lib.hid (H.meter.below hB)
  have HWB := Lib.hid hwb
  clear H hB hwb hTW hTB hsW hwW hL hL' hn' hnk hnode hmem hsb x0 x1 x2 x3 hne hge hg64 hgp hsz CV
  go_enter Tryz.func73, Tryz.ntmps73
  go_wp2_with fail
  rw [HWB.out]
  have hTb := Turns.refl wb mb
  obtain ⟨y0, y1, y2, y3⟩ := SK.out wb hTb
  go_wp2_with (first
    | (go_at_call 177; (with_reducible refine (kind_bucket _ _).mono ?_); rintro e w' ⟨rfl, rfl⟩)
    | (go_at_call 29; (with_reducible refine (CH.out _ hTb).mono ?_); rintro e w' ⟨rfl, rfl⟩))
  go_region_held3 (fun W => W.cell? ⟨w.heap.size, 0, none⟩ = some (.int .u64 (h : Nat)) /\ W.cell? ⟨w.heap.size, 1, none⟩ = some (.slice U p.1.length cu) /\ W.cell? ⟨w.heap.size, 2, none⟩ = some (.slice V p.2.length cv) /\ W.cell? ⟨w.heap.size, 3, none⟩ = some (.pointer AM))
    (first | with_reducible exact SK.out _ hT3 | with_reducible exact SK.out _ hT2 | with_reducible exact SK.out _ (hTb.trans (Turns.of_below _ (by exact gB3))))
    ((first
      | (go_at_call 98; (with_reducible refine (CL.out _ (hTb.trans (Turns.of_below _ (by exact gB3)))).mono ?_); rintro e w2 ⟨r2, rfl, hr2, hb2⟩; obtain ⟨t2, b2, rfl⟩ := hr2.form; have hb12 : Below wb.heap.size wb w2 := Below.trans (by exact gB3) (hb2.mono (by simp)); have hT2 : Turns wb w2 mb := hTb.trans (Turns.of_below _ hb12))
      | (go_at_call 100; (with_reducible refine (CF.out _ _ (NodeAt.move (Moves.weaken fun k hk _ => HOK.out _ hTb k (Nat.le_trans (by simp) hk)) _ _ hr2) hT2).mono ?_); rintro e w3 ⟨r3, rfl, hr3, hb3⟩; obtain ⟨t3, b3, rfl⟩ := hr3.form; have hT3 : Turns wb w3 mb := hT2.trans (Turns.of_below _ hb3))))
  go_wp2
  go_ret2
  exact ⟨_, _, true, rfl, hr3, HL'.out, ⟨fun _ => HNK.out, fun _ => rfl⟩, (HMB.out.below hb12).below hb3, HTW.out _ hT3⟩
set_option maxRecDepth 100000 in
set_option maxHeartbeats 1600000 in
theorem into_leaf_same {ok okb : Nat -> Prop} {mb : Option Nat} {f level g : Nat} {q : Bw.PV} {l : List Bw.En} {h : Nat} {p : Bw.PV} {c : Nat × Nat} {w : World} {v u1 u2 mv : Value} (H : PutIn ok okb mb f level (some (.leaf g q)) l h p c w v u1 u2 mv) (hge : g = h) (hkey : q.1 = p.1) :
    Calls Tryz.prog 73 #[recv h u1 u2 mv, v, .int .i64 (level : Nat)] w (IntoEnds ok mb level l h p (c.1 + 1, c.2 + 1) w mv) := by
  have hL : Bw.Lays level (.leaf g q) fun e => e ∈ l := H.lays
  have hmem : (g, q) ∈ l := by cases hL with | leaf hs => exact (hs _).2 rfl
  have hge' := hge.symm
  subst hge'
  have hL' := Bw.lays_leaf_same hL hkey
  have hq := H.bytes _ hmem
  have hnode : NodeAt nt ok w v (.leaf h q) := H.node
  obtain ⟨b, hv⟩ : ∃ b, v = .iface 114 (.pointer (some ⟨b, 0, none⟩)) := by
    have h0 := hnode
    simp only [NodeAt] at h0
    obtain ⟨b, _, _, rfl, _⟩ := h0
    exact ⟨b, rfl⟩
  subst hv
  obtain ⟨⟨U, cu, rfl⟩, ⟨V, cv, rfl⟩, ⟨AM, rfl⟩⟩ := H.forms
  obtain ⟨wb, hwb⟩ : ∃ wb, w.alloc (.cells #[.int .u64 (h : Nat), .slice U p.1.length cu, .slice V p.2.length cv, .pointer AM] 153) = wb := ⟨_, rfl⟩
  have hB : Below w.heap.size w wb := by rw [<- hwb]; exact gB3
  have hsb : wb.heap.size = w.heap.size + 1 := by rw [<- hwb]; simp
  have x0 : wb.cell? ⟨w.heap.size, 0, none⟩ = some (.int .u64 (h : Nat)) := by rw [<- hwb]; exact cell_new w 0 _ _ 0 _ rfl
  have x1 : wb.cell? ⟨w.heap.size, 1, none⟩ = some (.slice U p.1.length cu) := by rw [<- hwb]; exact cell_new w 0 _ _ 1 _ rfl
  have x2 : wb.cell? ⟨w.heap.size, 2, none⟩ = some (.slice V p.2.length cv) := by rw [<- hwb]; exact cell_new w 0 _ _ 2 _ rfl
  have x3 : wb.cell? ⟨w.heap.size, 3, none⟩ = some (.pointer AM) := by rw [<- hwb]; exact cell_new w 0 _ _ 3 _ rfl
  have hwm : some w.heap.size ≠ mb := H.hokm _ (H.hok _ (Nat.le_refl _))
  have hTW : ∀ W, Turns wb W mb -> Moves ok ok w W := fun W hW => (Moves.below hB).trans hB.size (hW.moves H.hokm)
  have hTB : ∀ W, Turns wb W mb -> Moves okb okb w W := fun W hW => (Moves.below hB).trans hB.size (hW.moves H.hokb)
  have hsW : ∀ W, Turns wb W mb -> ∀ k, W.heap.size <= k -> ok k := fun W hW k hk => H.hok k (Nat.le_trans (Nat.le_trans hB.size hW.size) hk)
  have hwW : ∀ W, Turns wb W mb -> Turns w W mb := fun W hW => (Turns.of_below mb hB).trans hW
  have SK : Hid (∀ W, Turns wb W mb -> W.cell? ⟨w.heap.size, 0, none⟩ = some (.int .u64 (h : Nat)) /\ W.cell? ⟨w.heap.size, 1, none⟩ = some (.slice U p.1.length cu) /\ W.cell? ⟨w.heap.size, 2, none⟩ = some (.slice V p.2.length cv) /\ W.cell? ⟨w.heap.size, 3, none⟩ = some (.pointer AM)) :=
    Lib.hid fun W hW => ⟨hW.cell x0 hwm, hW.cell x1 hwm, hW.cell x2 hwm, hW.cell x3 hwm⟩
  have CV := Lib.hid (visit_any (H.meter.below hB) (by have := H.c1; omega))
  have CL := Lib.hid (fun (W : World) (hW : Turns wb W mb) => leaf_any (h := h) W (H.b1.move goodByte (hTB W hW)) (H.b2.move goodByte (hTB W hW)) H.p1 H.p2)
  have HTW := Lib.hid hwW
  have HSZ := Lib.hid hB.size
  have CH := Lib.hid (fun (W : World) (hW : Turns wb W mb) => hash_any (n := some (.leaf h q)) (v := .iface 114 (.pointer (some ⟨b, 0, none⟩))) (w := W) (ok := ok) (NodeAt.move (hTW W hW) _ _ hnode))
  simp only [hashO] at CH
  have hmlt : ∀ W, Turns wb W mb -> ∀ k, W.heap.size < k -> some k ≠ mb := fun W hW k hk => H.hokm k (hsW W hW k (by omega))
  have CP := Lib.hid (fun (W : World) (hW : Turns wb W mb) => pair_leaf (NodeAt.move (hTW W hW) _ _ hnode) hq.1 hq.2)
  have CC := Lib.hid (fun (W : World) (hW : Turns wb W mb) (hm : MeterAt W (.pointer AM) (c.1 + 1, c.2) mb) (n0 : Nat) (hn0 : wb.heap.size <= n0) (u : Value) (hu : BytesAt (fun k => n0 < k) W u q.1) => mcmp_any hm (by have := H.c2; simp only; omega) (H.b1.move goodByte (hTB W hW)) hu H.hokb (fun k hk => hmlt wb (Turns.refl _ _) k (by omega)))
  rw [show Lib.compareBytes p.1 q.1 = 0 from (Bw.cmp_eq_zero _ _).2 hkey.symm] at CC
  have hgh : ((h : Int) != (h : Int)) = false := by simp
  have HOK := Lib.hid (fun W (hW : Turns wb W mb) => hsW W hW)
  have HL' := Lib.hid hL'
  have HKY : Hid (false = true ↔ ∀ e ∈ l, e.2.1 ≠ p.1) := Lib.hid ⟨fun x => (by cases x), fun x => absurd hkey (x _ hmem)⟩
  have hm := kindm_leaf
  have HWB := Lib.hid hwb
  clear H hB hwb hTW hTB hsW hwW hL hL' hnode hmem hsb x0 x1 x2 x3 hmlt hq hkey
  go_enter Tryz.func73, Tryz.ntmps73
  go_wp2_with fail
  rw [HWB.out]
  have hTb := Turns.refl wb mb
  obtain ⟨y0, y1, y2, y3⟩ := SK.out wb hTb
  go_wp2_with (first
    | (go_at_call 175; (with_reducible refine (kind_leaf _ _).mono ?_); rintro e w' ⟨rfl, rfl⟩)
    | (go_at_call 81; (with_reducible refine CV.out.mono ?_); rintro e w1 ⟨rfl, hm1, hT1⟩; obtain ⟨z0, z1, z2, z3⟩ := SK.out w1 hT1)
    | (go_at_call 29; (with_reducible refine (CH.out _ hT1).mono ?_); rintro e w' ⟨rfl, rfl⟩)
    | (go_at_call 30; (with_reducible refine (CP.out _ hT1).mono ?_); rintro e w2 ⟨r2, rfl, ⟨P, Q, rfl, hP, hQ⟩, hb2⟩; obtain ⟨P1, cp, rfl⟩ := hP.form; obtain ⟨Q1, cq, rfl⟩ := hQ.form; have hT2 : Turns wb w2 mb := hT1.trans (Turns.of_below _ hb2); obtain ⟨s0, s1, s2, s3⟩ := SK.out w2 hT2; have hlt2 : w.heap.size < w2.heap.size := World.block_lt_of_cell? w2 _ s0)
    | (go_at_call 82; (with_reducible refine (CC.out _ (hT2.trans (Turns.of_below _ (by exact gB3))) ((hm1.below hb2).below (by exact gB3)) _ hT1.size _ (hP.move goodByte (Moves.below (by exact gB3)))).mono ?_); rintro e w3 ⟨rfl, hm3, ht3⟩; have hT3 : Turns wb w3 mb := hT2.trans ((Turns.of_below _ (by exact gB3)).trans ht3); obtain ⟨r0, r1, r2, r3⟩ := SK.out w3 hT3)
    | (go_at_call 98; (with_reducible refine (CL.out _ hT3).mono ?_); rintro e w4 ⟨r4, rfl, hr4, hb4⟩; obtain ⟨t4, b4, rfl⟩ := hr4.form; have HR4 := Lib.hid hr4; have HB4 := Lib.hid hb4; clear hr4 hb4))
  go_ret2
  exact ⟨_, _, false, rfl, NodeAt.move (Moves.weaken fun k hk _ => HOK.out _ hT3 k hk) _ _ HR4.out, HL'.out, HKY.out, hm3.below HB4.out, HTW.out _ (hT3.trans (Turns.of_below _ HB4.out))⟩
open Go.RowKit Go.Bw
set_option maxRecDepth 100000 in
set_option maxHeartbeats 1600000 in
theorem into_bucket_put {ok okb : Nat -> Prop} {mb : Option Nat} {f level : Nat} {t : Bw.T} {l : List Bw.En} {h : Nat} {p : Bw.PV} {c : Nat × Nat} {w : World} {v u1 u2 mv : Value} (H : PutIn ok okb mb f level (some (.bucket h t)) l h p c w v u1 u2 mv) :
    Calls Tryz.prog 73 #[recv h u1 u2 mv, v, .int .i64 (level : Nat)] w (IntoEnds ok mb level l h p (c.1 + t.steps p.1, c.2 + t.steps p.1) w mv) := by
  have hL : Bw.Lays level (.bucket h t) fun e => e ∈ l := H.lays
  obtain ⟨hbk, hL'⟩ := Bw.lays_bucket_put (p := p) hL
  have hnode : NodeAt nt ok w v (.bucket h t) := H.node
  have hsz : t.size <= 1048560 := by have := Bw.lays_count hL l H.unlike (fun _ => Iff.rfl); simp only [Bw.N.count] at this; rw [this]; exact H.len
  obtain ⟨hev, hri, hme⟩ : t.even /\ Bw.Rises t.list /\ ∀ e : Bw.En, e ∈ l ↔ e.1 = h /\ e.2 ∈ t.list := by
    cases hL with
    | bucket a b _ d => exact ⟨a, b, d⟩
  have hbd : ∀ x ∈ (t.put p).list, x.1.length <= 1048576 /\ x.2.length <= 1048576 := fun x hx => by
    rcases Bw.mem_T_put t hx with rfl | hx
    · exact ⟨H.p1, H.p2⟩
    · exact H.bytes (h, x) ((hme _).2 ⟨rfl, hx⟩)
  have hfr : (decide (t.size < (t.put p).size)) = true ↔ ∀ e ∈ l, e.2.1 ≠ p.1 := by
    rw [decide_eq_true_iff, <- Bw.T.length_list, <- Bw.T.length_list, Bw.T.list_put p t hri, Bw.length_put_get hri]
    cases hg : (Bw.get t.list p.1).isSome with
    | true =>
      obtain ⟨x, hx, hxk⟩ := Bw.get_isSome.1 hg
      exact ⟨fun hlt => by simp at hlt, fun hall => absurd hxk (hall (h, x) ((hme _).2 ⟨rfl, hx⟩))⟩
    | false =>
      refine ⟨fun _ e he hk => ?_, fun _ => by simp⟩
      have := Bw.get_isSome.2 ⟨e.2, ((hme e).1 he).2, hk⟩
      rw [this] at hg; cases hg
  obtain ⟨b, hv⟩ : ∃ b, v = .iface 117 (.pointer (some ⟨b, 0, none⟩)) := by
    have h0 := hnode
    simp only [NodeAt] at h0
    obtain ⟨b, _, rfl, _⟩ := h0
    exact ⟨b, rfl⟩
  subst hv
  obtain ⟨⟨U, cu, rfl⟩, ⟨V, cv, rfl⟩, ⟨AM, rfl⟩⟩ := H.forms
  obtain ⟨wb, hwb⟩ : ∃ wb, w.alloc (.cells #[.int .u64 (h : Nat), .slice U p.1.length cu, .slice V p.2.length cv, .pointer AM] 153) = wb := ⟨_, rfl⟩
  have hB : Below w.heap.size w wb := by rw [<- hwb]; exact gB3
  have hsb : wb.heap.size = w.heap.size + 1 := by rw [<- hwb]; simp
  have x0 : wb.cell? ⟨w.heap.size, 0, none⟩ = some (.int .u64 (h : Nat)) := by rw [<- hwb]; exact cell_new w 0 _ _ 0 _ rfl
  have x1 : wb.cell? ⟨w.heap.size, 1, none⟩ = some (.slice U p.1.length cu) := by rw [<- hwb]; exact cell_new w 0 _ _ 1 _ rfl
  have x2 : wb.cell? ⟨w.heap.size, 2, none⟩ = some (.slice V p.2.length cv) := by rw [<- hwb]; exact cell_new w 0 _ _ 2 _ rfl
  have x3 : wb.cell? ⟨w.heap.size, 3, none⟩ = some (.pointer AM) := by rw [<- hwb]; exact cell_new w 0 _ _ 3 _ rfl
  have hwm : some w.heap.size ≠ mb := H.hokm _ (H.hok _ (Nat.le_refl _))
  have hTW : ∀ W, Turns wb W mb -> Moves ok ok w W := fun W hW => (Moves.below hB).trans hB.size (hW.moves H.hokm)
  have hTB : ∀ W, Turns wb W mb -> Moves okb okb w W := fun W hW => (Moves.below hB).trans hB.size (hW.moves H.hokb)
  have hsW : ∀ W, Turns wb W mb -> ∀ k, W.heap.size <= k -> ok k := fun W hW k hk => H.hok k (Nat.le_trans (Nat.le_trans hB.size hW.size) hk)
  have hwW : ∀ W, Turns wb W mb -> Turns w W mb := fun W hW => (Turns.of_below mb hB).trans hW
  have SK : Hid (∀ W, Turns wb W mb -> W.cell? ⟨w.heap.size, 0, none⟩ = some (.int .u64 (h : Nat)) /\ W.cell? ⟨w.heap.size, 1, none⟩ = some (.slice U p.1.length cu) /\ W.cell? ⟨w.heap.size, 2, none⟩ = some (.slice V p.2.length cv) /\ W.cell? ⟨w.heap.size, 3, none⟩ = some (.pointer AM)) :=
    Lib.hid fun W hW => ⟨hW.cell x0 hwm, hW.cell x1 hwm, hW.cell x2 hwm, hW.cell x3 hwm⟩
  have CV := Lib.hid (visit_any (H.meter.below hB) (by have := H.c1; omega))
  have CL := Lib.hid (fun (W : World) (hW : Turns wb W mb) => leaf_any (h := h) W (H.b1.move goodByte (hTB W hW)) (H.b2.move goodByte (hTB W hW)) H.p1 H.p2)
  have HTW := Lib.hid hwW
  have HSZ := Lib.hid hB.size
  have CH := Lib.hid (fun (W : World) (hW : Turns wb W mb) => hash_any (n := some (.bucket h t)) (v := .iface 117 (.pointer (some ⟨b, 0, none⟩))) (w := W) (ok := ok) (NodeAt.move (hTW W hW) _ _ hnode))
  simp only [hashO] at CH
  have CP := Lib.hid (fun (W : World) => pair_other b 117 (.inl rfl) W)
  have CT := Lib.hid (fun (W : World) (hW : Turns wb W mb) => (tree_any (n := some (.bucket h t)) (v := .iface 117 (.pointer (some ⟨b, 0, none⟩))) (w := W) (ok := ok) (NodeAt.move (hTW W hW) _ _ hnode)))
  simp only [TreeTold] at CT
  have CU := Lib.hid (fun (W : World) (hW : Turns wb W mb) (tv : Value) (ht : TreeAt ok W tv t) (hm : MeterAt W (.pointer AM) c mb) => tPut_any (mb := mb) (p := p) ht hev (H.b1.move goodByte (hTB W hW)) (H.b2.move goodByte (hTB W hW)) H.p1 H.p2 hm H.hokm (hsW W hW) (by omega) (by have := H.c1; omega) (by have := H.c2; omega))
  have CB := Lib.hid (fun (W : World) (hW : Turns wb W mb) (tv : Value) (ht : TreeAt ok W tv (t.put p)) => bucket_any (h := h) ht hbd (hsW W hW))
  rw [hbk] at CB
  have CS := Lib.hid (fun (W : World) (tv : Value) (t' : Bw.T) (ht : TreeAt ok W tv t') => size_any ht)
  have hgh : ((h : Int) != (h : Int)) = false := by simp
  have HL' := Lib.hid hL'
  have HFR := Lib.hid hfr
  have HOKM := Lib.hid H.hokm
  have hm := kindm_bucket
  have HMB := Lib.hid (H.meter.below hB)
  have HWB := Lib.hid hwb
  generalize hup : t.put p = tp at *
  clear H hB hwb hTW hTB hsW hwW hL hL' hnode hsb x0 x1 x2 x3 hsz hev hri hme hbd hfr hup hbk CV CL
  go_enter Tryz.func73, Tryz.ntmps73
  go_wp2_with fail
  rw [HWB.out]
  have hTb := Turns.refl wb mb
  obtain ⟨y0, y1, y2, y3⟩ := SK.out wb hTb
  go_wp2_with (first
    | (go_at_call 177; (with_reducible refine (kind_bucket _ _).mono ?_); rintro e w' ⟨rfl, rfl⟩)
    | (go_at_call 29; (with_reducible refine (CH.out _ hTb).mono ?_); rintro e w' ⟨rfl, rfl⟩)
    | (go_at_call 30; (with_reducible refine (CP.out _).mono ?_); rintro e w2 ⟨rfl, hb2⟩; have hT2 : Turns wb w2 mb := Turns.of_below _ hb2; obtain ⟨s0, s1, s2, s3⟩ := SK.out w2 hT2; have hlt2 : w.heap.size < w2.heap.size := World.block_lt_of_cell? w2 _ s0)
    | (go_at_call 31; (with_reducible refine (CT.out _ (hT2.trans (Turns.of_below _ (by exact gB3)))).mono ?_); rintro e w' ⟨⟨r, rfl, tv, rfl, htv⟩, rfl⟩; obtain ⟨TV, rfl⟩ := htv.form)
    | (go_at_call 102; (with_reducible refine (CU.out _ (hT2.trans (Turns.of_below _ (by exact gB3))) _ htv ((HMB.out.below hb2).below (by exact gB3))).mono ?_); rintro e w3 ⟨r3, rfl, hr3, hm3, ht3⟩; obtain ⟨R3, rfl⟩ := hr3.form; have hT3 : Turns wb w3 mb := hT2.trans ((Turns.of_below _ (by exact gB3)).trans ht3); obtain ⟨r0, r1, r2, r3⟩ := SK.out w3 hT3; have HTV3 := Lib.hid (htv.move (ht3.moves HOKM.out)))
    | (go_at_call 96; (with_reducible refine (CB.out _ hT3 _ hr3).mono ?_); rintro e w4 ⟨r4, rfl, hr4, hb4⟩; simp only [ONodeAt] at hr4; obtain ⟨t4, b4, rfl⟩ := hr4.form; have HR4 := Lib.hid hr4; have HB4 := Lib.hid hb4; have HS1 := Lib.hid (hr3.move (Moves.below hb4)); have HS2 := Lib.hid (HTV3.out.move (Moves.below hb4)); clear hr4 hb4)
    | (go_at_call 56; first | ((with_reducible refine (CS.out _ _ _ HS1.out).mono ?_); rintro e w' ⟨rfl, rfl⟩) | ((with_reducible refine (CS.out _ _ _ HS2.out).mono ?_); rintro e w' ⟨rfl, rfl⟩)))
  go_ret2
  exact ⟨_, _, _, rfl, HR4.out, HL'.out, HFR.out, hm3.below HB4.out, HTW.out _ (hT3.trans (Turns.of_below _ HB4.out))⟩
open Go.RowKit Go.Bw
theorem heap_drew_new (w : World) (o : Obj) : (w.alloc o).drew.heap[w.heap.size]? = some o := heap_alloc_new w o
set_option maxRecDepth 100000 in
set_option maxHeartbeats 1600000 in
theorem into_leaf_other {ok okb : Nat -> Prop} {mb : Option Nat} {f level g : Nat} {q : Bw.PV} {l : List Bw.En} {h : Nat} {p : Bw.PV} {c : Nat × Nat} {w : World} {v u1 u2 mv : Value} (H : PutIn ok okb mb f level (some (.leaf g q)) l h p c w v u1 u2 mv) (hge : g = h) (hkey : q.1 ≠ p.1) :
    Calls Tryz.prog 73 #[recv h u1 u2 mv, v, .int .i64 (level : Nat)] w (IntoEnds ok mb level l h p (c.1 + 1, c.2 + 1) w mv) := by
  have hL : Bw.Lays level (.leaf g q) fun e => e ∈ l := H.lays
  have hmem : (g, q) ∈ l := by cases hL with | leaf hs => exact (hs _).2 rfl
  have hge' := hge.symm
  subst hge'
  obtain ⟨hbk, hL'⟩ := Bw.lays_bucket_new hL hkey
  have hq := H.bytes _ hmem
  have hqe : ∀ e, e ∈ l ↔ e = (h, q) := by cases hL with | leaf hs => exact hs
  have hnode : NodeAt nt ok w v (.leaf h q) := H.node
  obtain ⟨b, hv⟩ : ∃ b, v = .iface 114 (.pointer (some ⟨b, 0, none⟩)) := by
    have h0 := hnode
    simp only [NodeAt] at h0
    obtain ⟨b, _, _, rfl, _⟩ := h0
    exact ⟨b, rfl⟩
  subst hv
  obtain ⟨⟨U, cu, rfl⟩, ⟨V, cv, rfl⟩, ⟨AM, rfl⟩⟩ := H.forms
  obtain ⟨wb, hwb⟩ : ∃ wb, w.alloc (.cells #[.int .u64 (h : Nat), .slice U p.1.length cu, .slice V p.2.length cv, .pointer AM] 153) = wb := ⟨_, rfl⟩
  have hB : Below w.heap.size w wb := by rw [<- hwb]; exact gB3
  have hsb : wb.heap.size = w.heap.size + 1 := by rw [<- hwb]; simp
  have x0 : wb.cell? ⟨w.heap.size, 0, none⟩ = some (.int .u64 (h : Nat)) := by rw [<- hwb]; exact cell_new w 0 _ _ 0 _ rfl
  have x1 : wb.cell? ⟨w.heap.size, 1, none⟩ = some (.slice U p.1.length cu) := by rw [<- hwb]; exact cell_new w 0 _ _ 1 _ rfl
  have x2 : wb.cell? ⟨w.heap.size, 2, none⟩ = some (.slice V p.2.length cv) := by rw [<- hwb]; exact cell_new w 0 _ _ 2 _ rfl
  have x3 : wb.cell? ⟨w.heap.size, 3, none⟩ = some (.pointer AM) := by rw [<- hwb]; exact cell_new w 0 _ _ 3 _ rfl
  have hwm : some w.heap.size ≠ mb := H.hokm _ (H.hok _ (Nat.le_refl _))
  have hTW : ∀ W, Turns wb W mb -> Moves ok ok w W := fun W hW => (Moves.below hB).trans hB.size (hW.moves H.hokm)
  have hTB : ∀ W, Turns wb W mb -> Moves okb okb w W := fun W hW => (Moves.below hB).trans hB.size (hW.moves H.hokb)
  have hsW : ∀ W, Turns wb W mb -> ∀ k, W.heap.size <= k -> ok k := fun W hW k hk => H.hok k (Nat.le_trans (Nat.le_trans hB.size hW.size) hk)
  have hwW : ∀ W, Turns wb W mb -> Turns w W mb := fun W hW => (Turns.of_below mb hB).trans hW
  have SK : Hid (∀ W, Turns wb W mb -> W.cell? ⟨w.heap.size, 0, none⟩ = some (.int .u64 (h : Nat)) /\ W.cell? ⟨w.heap.size, 1, none⟩ = some (.slice U p.1.length cu) /\ W.cell? ⟨w.heap.size, 2, none⟩ = some (.slice V p.2.length cv) /\ W.cell? ⟨w.heap.size, 3, none⟩ = some (.pointer AM)) :=
    Lib.hid fun W hW => ⟨hW.cell x0 hwm, hW.cell x1 hwm, hW.cell x2 hwm, hW.cell x3 hwm⟩
  have CV := Lib.hid (visit_any (H.meter.below hB) (by have := H.c1; omega))
  have CL := Lib.hid (fun (W : World) (hW : Turns wb W mb) => leaf_any (h := h) W (H.b1.move goodByte (hTB W hW)) (H.b2.move goodByte (hTB W hW)) H.p1 H.p2)
  have HTW := Lib.hid hwW
  have HSZ := Lib.hid hB.size
  have CH := Lib.hid (fun (W : World) (hW : Turns wb W mb) => hash_any (n := some (.leaf h q)) (v := .iface 114 (.pointer (some ⟨b, 0, none⟩))) (w := W) (ok := ok) (NodeAt.move (hTW W hW) _ _ hnode))
  simp only [hashO] at CH
  have hmlt : ∀ W, Turns wb W mb -> ∀ k, W.heap.size < k -> some k ≠ mb := fun W hW k hk => H.hokm k (hsW W hW k (by omega))
  have CP := Lib.hid (fun (W : World) (hW : Turns wb W mb) => pair_leaf (NodeAt.move (hTW W hW) _ _ hnode) hq.1 hq.2)
  have CC := Lib.hid (fun (W : World) (hW : Turns wb W mb) (hm : MeterAt W (.pointer AM) (c.1 + 1, c.2) mb) (n0 : Nat) (hn0 : wb.heap.size <= n0) (u : Value) (hu : BytesAt (fun k => n0 < k) W u q.1) => mcmp_any hm (by have := H.c2; simp only; omega) (H.b1.move goodByte (hTB W hW)) hu H.hokb (fun k hk => hmlt wb (Turns.refl _ _) k (by omega)))
  have hcmp : (Lib.compareBytes p.1 q.1 == 0) = false := by rw [beq_eq_false_iff_ne]; exact fun x => hkey ((Bw.cmp_eq_zero _ _).1 x).symm
  generalize Lib.compareBytes p.1 q.1 = cmp at *
  have hgh : ((h : Int) != (h : Int)) = false := by simp
  have HML := Lib.hid (fun W (hW : Turns wb W mb) (k : Nat) (hk : W.heap.size <= k) => H.hokm k (hsW W hW k hk))
  have HOK := Lib.hid (fun W (hW : Turns wb W mb) => hsW W hW)
  have HL' := Lib.hid hL'
  have HKY : Hid (true = true ↔ ∀ e ∈ l, e.2.1 ≠ p.1) := Lib.hid ⟨fun _ e he => by have := (hqe e).1 he; rw [this]; exact hkey, fun _ => rfl⟩
  have CFr := Lib.hid (fun (W : World) (g0 : Nat) (x y : Value) (t : TypeId) (hx : BytesAt AllB W x q.1) (hy : BytesAt AllB W y q.2) (hh : W.heap[g0]? = some (.cells #[x, y] t (0, 0))) => from_any 1 [q] (.slice (some ⟨g0, 0, none⟩) 1 1) AllB W (by simp) (by decide) (by simp; exact hq) (RowAt.single goodPair (cs := #[x, y]) (pairK_mk hx hy) trivial hh))
  have CU := Lib.hid (fun (W : World) (hW : Turns wb W mb) (tv : Value) (ht : TreeAt ok W tv (Bw.T.from [q])) => tPut_any (mb := none) (p := p) (c := (0, 0)) (mv := .pointer none) ht (Bw.T.even_from _) (H.b1.move goodByte (hTB W hW)) (H.b2.move goodByte (hTB W hW)) H.p1 H.p2 rfl (fun k _ => by simp) (hsW W hW) (by rw [Bw.T.size_from]; simp) (by rw [Bw.T.size_from]; simp) (by rw [Bw.T.size_from]; simp))
  have hbd : ∀ x ∈ ((Bw.T.from [q]).put p).list, x.1.length <= 1048576 /\ x.2.length <= 1048576 := fun x hx => by
    rcases Bw.mem_T_put _ hx with rfl | hx
    · exact ⟨H.p1, H.p2⟩
    · rw [Bw.T.list_from, List.mem_singleton] at hx
      subst hx; exact hq
  have CB := Lib.hid (fun (W : World) (hW : Turns wb W mb) (tv : Value) (ht : TreeAt ok W tv ((Bw.T.from [q]).put p)) => bucket_any (h := h) ht hbd (hsW W hW))
  rw [hbk] at CB
  have hm := kindm_leaf
  have HWB := Lib.hid hwb
  clear H hB hwb hTW hTB hsW hwW hL hL' hnode hmem hsb x0 x1 x2 x3 hmlt hq hkey hqe hbd hbk CL
  go_enter Tryz.func73, Tryz.ntmps73
  go_wp2_with fail
  rw [HWB.out]
  have hTb := Turns.refl wb mb
  obtain ⟨y0, y1, y2, y3⟩ := SK.out wb hTb
  go_wp2_with (first
    | (go_at_call 175; (with_reducible refine (kind_leaf _ _).mono ?_); rintro e w' ⟨rfl, rfl⟩)
    | (go_at_call 81; (with_reducible refine CV.out.mono ?_); rintro e w1 ⟨rfl, hm1, hT1⟩; obtain ⟨z0, z1, z2, z3⟩ := SK.out w1 hT1)
    | (go_at_call 29; (with_reducible refine (CH.out _ hT1).mono ?_); rintro e w' ⟨rfl, rfl⟩)
    | (go_at_call 30; (with_reducible refine (CP.out _ hT1).mono ?_); rintro e w2 ⟨r2, rfl, ⟨P, Q, rfl, hP, hQ⟩, hb2⟩; obtain ⟨P1, cp, rfl⟩ := hP.form; obtain ⟨Q1, cq, rfl⟩ := hQ.form; have hT2 : Turns wb w2 mb := hT1.trans (Turns.of_below _ hb2); obtain ⟨s0, s1, s2, s3⟩ := SK.out w2 hT2; have hlt2 : w.heap.size < w2.heap.size := World.block_lt_of_cell? w2 _ s0)
    | (go_at_call 82; ((with_reducible refine (CC.out _ (hT2.trans (Turns.of_below _ (by exact gB3))) ((hm1.below hb2).below (by exact gB3)) _ hT1.size _ (hP.move goodByte (Moves.below (by exact gB3)))).mono ?_); rintro e w3 ⟨rfl, hm3, ht3⟩; have hT3 : Turns wb w3 mb := hT2.trans ((Turns.of_below _ (by exact gB3)).trans ht3); obtain ⟨r0, r1, r2, r3⟩ := SK.out w3 hT3; have mv23 : Moves (fun k => w1.heap.size < k) AllB w2 w3 := (Moves.below (ok := fun k => w1.heap.size < k) (by exact gB3)).trans (by simp) ((Moves.grown ht3 (fun k hk => HML.out w1 hT1 k (Nat.le_of_lt hk))).trans (Nat.le_trans (by simp) ht3.size) (Moves.weaken fun _ _ _ => trivial)); have HP3 := Lib.hid (hP.move goodByte mv23); have HQ3 := Lib.hid (hQ.move goodByte mv23); have hne2 : some w2.heap.size ≠ mb := HML.out w1 hT1 _ hb2.size; have e0 : w3.cell? ⟨w2.heap.size, 0, none⟩ = some (.slice P1 q.1.length cp) := ht3.cell (cell_new w2 0 _ _ 0 _ rfl) hne2; have e1 : w3.cell? ⟨w2.heap.size, 1, none⟩ = some (.slice Q1 q.2.length cq) := ht3.cell (cell_new w2 0 _ _ 1 _ rfl) hne2; have hlt3 : w2.heap.size < w3.heap.size := World.block_lt_of_cell? w3 _ e0; have SP : Hid (∀ W, Turns wb W mb -> Below w3.heap.size w3 W -> W.cell? ⟨w.heap.size, 0, none⟩ = some (.int .u64 (h : Nat)) /\ W.cell? ⟨w.heap.size, 1, none⟩ = some (.slice U p.1.length cu) /\ W.cell? ⟨w.heap.size, 2, none⟩ = some (.slice V p.2.length cv) /\ W.cell? ⟨w.heap.size, 3, none⟩ = some (.pointer AM) /\ W.cell? ⟨w2.heap.size, 0, none⟩ = some (.slice P1 q.1.length cp) /\ W.cell? ⟨w2.heap.size, 1, none⟩ = some (.slice Q1 q.2.length cq)) := Lib.hid (fun W hW hWB => ⟨(SK.out W hW).1, (SK.out W hW).2.1, (SK.out W hW).2.2.1, (SK.out W hW).2.2.2, (hWB.cell (p := ⟨w2.heap.size, 0, none⟩) hlt3).trans e0, (hWB.cell (p := ⟨w2.heap.size, 1, none⟩) hlt3).trans e1⟩))))
  go_region_held3 (fun W => W.cell? ⟨w.heap.size, 0, none⟩ = some (.int .u64 (h : Nat)) /\ W.cell? ⟨w.heap.size, 1, none⟩ = some (.slice U p.1.length cu) /\ W.cell? ⟨w.heap.size, 2, none⟩ = some (.slice V p.2.length cv) /\ W.cell? ⟨w.heap.size, 3, none⟩ = some (.pointer AM) /\ W.cell? ⟨w2.heap.size, 0, none⟩ = some (.slice P1 q.1.length cp) /\ W.cell? ⟨w2.heap.size, 1, none⟩ = some (.slice Q1 q.2.length cq))
    (first | with_reducible exact SP.out _ hT7 hB7 | with_reducible exact SP.out _ hT6 hB6 | with_reducible exact SP.out _ hT5 hB5 | with_reducible exact SP.out _ (hT3.trans (Turns.of_below _ (by exact gB3))) (by exact gB3))
    ((first
      | (go_at_call 101; ((with_reducible refine (CFr.out _ _ _ _ 62 ((HP3.out).move goodByte (Moves.below (by exact gB3))) ((HQ3.out).move goodByte (Moves.below (by exact gB3))) (heap_drew_new _ _)).mono ?_); rintro e w5 ⟨r5, rfl, hr5, hb5⟩; obtain ⟨R5, rfl⟩ := hr5.form; have hB5 : Below w3.heap.size w3 w5 := Below.trans (by exact gB3) (hb5.mono (by simp)); have hT5 : Turns wb w5 mb := hT3.trans (Turns.of_below _ hB5); have HR5 := Lib.hid (hr5.move (ok' := ok) (Moves.weaken fun k hk _ => HOK.out w3 hT3 k (Nat.le_trans (by simp) hk)))))
      | (go_at_call 102; (with_reducible refine (CU.out _ hT5 _ HR5.out).mono ?_); rintro e w6 ⟨r6, rfl, hr6, _, ht6⟩; obtain ⟨R6, rfl⟩ := hr6.form; have hb56 := Turns.below ht6; have hB6 : Below w3.heap.size w3 w6 := hB5.trans (hb56.mono hB5.size); have hT6 : Turns wb w6 mb := hT3.trans (Turns.of_below _ hB6))
      | (go_at_call 96; (with_reducible refine (CB.out _ hT6 _ hr6).mono ?_); rintro e w7 ⟨r7, rfl, hr7, hb7⟩; simp only [ONodeAt] at hr7; obtain ⟨t7, b7, rfl⟩ := hr7.form; have hB7 : Below w3.heap.size w3 w7 := hB6.trans (hb7.mono hB6.size); have hT7 : Turns wb w7 mb := hT3.trans (Turns.of_below _ hB7))))
  go_wp2
  go_ret2
  exact ⟨_, _, true, rfl, hr7, HL'.out, ⟨fun _ => HKY.out.1 trivial, fun _ => rfl⟩, hm3.below hB7, HTW.out _ hT7⟩
open Go.RowKit Go.Bw
theorem countOs_leI {B : Nat} : ∀ (l : List (Option Bw.N)), (∀ o ∈ l, countO o <= B) -> countOs l <= l.length * B
  | [], _ => by simp [countOs]
  | o :: r, h => by
    have h1 := countOs_leI r (fun x hx => h x (by simp [hx]))
    have h2 := h o (by simp)
    simp only [countOs, List.map_cons, List.sum_cons, List.length_cons, Nat.succ_mul] at h1 ⊢
    omega
theorem _root_.Bw.count_put {level : Nat} {n : Bw.N} {l : List Bw.En} {h : Nat} {p : Bw.PV} (hL : Bw.Lays level n (Bw.PutS (fun e => e ∈ l) h p)) (hu : Bw.Unlike l) : n.count <= l.length + 1 := by
  have hu' : Bw.Unlike ((h, p) :: l.filter fun e => !(e.2.1 == p.1)) := by
    refine List.pairwise_cons.2 ⟨fun e he => ?_, hu.filter _⟩
    have := (List.mem_filter.1 he).2
    intro hk
    rw [<- hk] at this
    simp at this
  rw [Bw.lays_count hL _ hu' fun e => by
    unfold Bw.PutS
    rw [List.mem_cons, List.mem_filter]
    simp]
  have := List.length_filter_le (fun e : Bw.En => !(e.2.1 == p.1)) l
  simp only [List.length_cons]
  omega
theorem PutIn.turn {ok okb : Nat -> Prop} {mb : Option Nat} {f level : Nat} {o : Option Bw.N} {l : List Bw.En} {h : Nat} {p : Bw.PV} {c c' : Nat × Nat} {w W : World} {v u1 u2 mv : Value} (H : PutIn ok okb mb f level o l h p c w v u1 u2 mv) (hT : Turns w W mb) (hm : MeterAt W mv c' mb) (h1 : c'.1 + f < 4611686018420000000) (h2 : c'.2 + f < 4611686018420000000) :
    PutIn ok okb mb f level o l h p c' W v u1 u2 mv :=
  { H with node := H.node.move (hT.moves H.hokm), b1 := H.b1.move goodByte (hT.moves H.hokb), b2 := H.b2.move goodByte (hT.moves H.hokb), meter := hm, hok := fun k hk => H.hok k (Nat.le_trans hT.size hk), tab := H.tab.turns hT H.m0, c1 := h1, c2 := h2 }
theorem PutIn.kid {ok okb : Nat -> Prop} {mb : Option Nat} {f level m : Nat} {kids : List Bw.N} {l : List Bw.En} {h : Nat} {p : Bw.PV} {c c' : Nat × Nat} {w W : World} {v u1 u2 mv kv : Value} (H : PutIn ok okb mb (f + 1) level (some (.branch m kids)) l h p c w v u1 u2 mv) (hT : Turns w W mb) (hm : MeterAt W mv c' mb) (h1 : c'.1 + f < 4611686018420000000) (h2 : c'.2 + f < 4611686018420000000)
    (hkv : ONodeAt nt ok W kv (Bw.kidO m kids (Bw.chunkAt h level))) : PutIn ok okb mb f (level + 1) (Bw.kidO m kids (Bw.chunkAt h level)) (Bw.partOf level (Bw.chunkAt h level) l) h p c' W kv u1 u2 mv where
  fuel := by have := H.fuel; omega
  lays := Bw.olays_kid H.lays _
  unlike := H.unlike.filter _
  bytes := fun e he => H.bytes e (Bw.mem_partOf.1 he).1
  hash := fun e he => H.hash e (Bw.mem_partOf.1 he).1
  len := Nat.le_trans (List.length_filter_le _ _) H.len
  pre := fun e he => Bw.chunk_inj (H.pre e (Bw.mem_partOf.1 he).1) (Bw.mem_partOf.1 he).2
  cons := fun e he => H.cons e (Bw.mem_partOf.1 he).1
  hh := H.hh
  p1 := H.p1
  p2 := H.p2
  node := hkv
  b1 := H.b1.move goodByte (hT.moves H.hokb)
  b2 := H.b2.move goodByte (hT.moves H.hokb)
  meter := hm
  hokm := H.hokm
  hokb := H.hokb
  m0 := H.m0
  hok := fun k hk => H.hok k (Nat.le_trans hT.size hk)
  tab := H.tab.turns hT H.m0
  c1 := h1
  c2 := h2
def costAt (c : Nat × Nat) (d : Nat × Nat) : Nat × Nat := (c.1 + d.1, c.2 + d.2)
def IntoP (ok okb : Nat -> Prop) (mb : Option Nat) (h : Nat) (p : Bw.PV) (f : Nat) : Prop := ∀ (level : Nat) (o : Option Bw.N) (l : List Bw.En) (c : Nat × Nat) (w : World) (v u1 u2 mv : Value), PutIn ok okb mb f level o l h p c w v u1 u2 mv ->
  Calls Tryz.prog 73 #[recv h u1 u2 mv, v, .int .i64 (level : Nat)] w (IntoEnds ok mb level l h p (costAt c (Bw.costO f o h p.1 level)) w mv)
def BranchP (ok okb : Nat -> Prop) (mb : Option Nat) (h : Nat) (p : Bw.PV) (f : Nat) : Prop := ∀ (level m : Nat) (kids : List Bw.N) (l : List Bw.En) (c : Nat × Nat) (w : World) (v u1 u2 mv : Value), PutIn ok okb mb f level (some (.branch m kids)) l h p c w v u1 u2 mv ->
  Calls Tryz.prog 99 #[recv h u1 u2 mv, v, .int .i64 (level : Nat)] w (IntoEnds ok mb level l h p (costAt c (Bw.costO f (some (.branch m kids)) h p.1 level)) w mv)
def WithAns (ok : Nat -> Prop) (level : Nat) (l : List Bw.En) (h : Nat) (p : Bw.PV) (w : World) (e : Ending) (w' : World) : Prop := ∃ r, e = .returned r /\ ∃ n, NodeAt nt ok w' r n /\ Bw.Lays level n (Bw.PutS (fun e => e ∈ l) h p) /\ Below w.heap.size w w'
theorem with_put {ok okb : Nat -> Prop} {mb : Option Nat} {f level m : Nat} {kids : List Bw.N} {l : List Bw.En} {h : Nat} {p : Bw.PV} {c : Nat × Nat} {w W : World} {v u1 u2 mv : Value} (H : PutIn ok okb mb (f + 1) level (some (.branch m kids)) l h p c w v u1 u2 mv) (hT : Turns w W mb) (x : Value) (n : Bw.N) (hx : NodeAt nt ok W x n) (hl : Bw.Lays (level + 1) n (Bw.PutS (fun e => e ∈ Bw.partOf level (Bw.chunkAt h level) l) h p)) :
    Calls Tryz.prog 121 #[v, .int .i64 (Bw.chunkAt h level : Nat), x] W (WithAns ok level l h p W) := by
  have hL : Bw.Lays level (.branch m kids) fun e => e ∈ l := H.lays
  have hfit := Bw.lays_branch_fit hL
  obtain ⟨kids', hbr, hL'⟩ := Bw.lays_with hL (h := h) (p := p) (k := n) rfl H.cons (hl.congr fun e => by unfold Bw.PutS; simp only [Bw.mem_partOf])
  have hcnt : countOs (Bw.withKids m kids (Bw.chunkAt h level) (some n)) <= 4611686018427387904 := by
    have hle := countOs_leI (B := 1048576) (Bw.withKids m kids (Bw.chunkAt h level) (some n)) fun o ho => by
      simp only [Bw.withKids, List.mem_map] at ho
      obtain ⟨i, _, rfl⟩ := ho
      have hlen := H.len
      split
      · have := Bw.count_put hl (H.unlike.filter _)
        have := List.length_filter_le (fun x : Bw.En => Bw.chunkAt x.1 level == Bw.chunkAt h level) l
        simp only [countO, Bw.partOf] at *
        omega
      · have hk := Bw.olays_kid hL i
        unfold Bw.kidO at hk
        cases hki : (if m.testBit i = true then kids[Bw.ones i m]? else none) with
        | none => simp [countO]
        | some k =>
          rw [hki] at hk
          have := Bw.lays_count hk _ (H.unlike.filter _) (fun _ => Iff.rfl)
          have h2 := List.length_filter_le (fun x : Bw.En => Bw.chunkAt x.1 level == i) l
          simp only [countO, Bw.partOf] at *
          omega
    have hlen : (Bw.withKids m kids (Bw.chunkAt h level) (some n)).length <= 32 := by
      simp only [Bw.withKids, List.length_map]
      rw [Bw.length_bitsOf]; exact Bw.ones_le 32 _
    have : (Bw.withKids m kids (Bw.chunkAt h level) (some n)).length * 1048576 <= 32 * 1048576 := Nat.mul_le_mul_right _ hlen
    omega
  have hnode : NodeAt nt ok w v (.branch m kids) := H.node
  refine (gwith_any (NodeAt.move (hT.moves H.hokm) _ _ hnode) hfit.1 hfit.2 (Bw.chunkAt_lt h level) hx (H.tab.turns hT H.m0) (fun k hk => H.hok k (Nat.le_trans hT.size hk)) hcnt).mono ?_
  rintro e w' ⟨r, rfl, hr, hb⟩
  rw [hbr] at hr
  exact ⟨r, rfl, _, hr, hL', hb⟩
set_option maxRecDepth 100000 in
set_option maxHeartbeats 1600000 in
theorem branch_of_into {ok okb : Nat -> Prop} {mb : Option Nat} {h : Nat} {p : Bw.PV} {f : Nat} (ih : IntoP ok okb mb h p f) : BranchP ok okb mb h p (f + 1) := by
  intro level m kids l c w v u1 u2 mv H
  have hL : Bw.Lays level (.branch m kids) fun e => e ∈ l := H.lays
  have hfit := Bw.lays_branch_fit hL
  have hlev := Bw.lays_branch_level hL (by have := H.fuel; omega) ⟨_, H.pre⟩ H.hash
  have hnode : NodeAt nt ok w v (.branch m kids) := H.node
  have hcst : costAt c (Bw.costO (f + 1) (some (.branch m kids)) h p.1 level) = (c.1 + ((Bw.costO f (Bw.kidO m kids (Bw.chunkAt h level)) h p.1 (level + 1)).1 + 1), c.2 + (Bw.costO f (Bw.kidO m kids (Bw.chunkAt h level)) h p.1 (level + 1)).2) := rfl
  have hfi : (∀ e ∈ Bw.partOf level (Bw.chunkAt h level) l, e.2.1 ≠ p.1) ↔ ∀ e ∈ l, e.2.1 ≠ p.1 :=
    ⟨fun hx e he hk => hx e (Bw.mem_partOf.2 ⟨he, by rw [H.cons e he hk]⟩) hk, fun hx e he => hx e (Bw.mem_partOf.1 he).1⟩
  obtain ⟨b, hv⟩ : ∃ b, v = .iface 122 (.pointer (some ⟨b, 0, none⟩)) := by
    have h0 := hnode
    simp only [NodeAt] at h0
    obtain ⟨b, _, _, _, rfl, _⟩ := h0
    exact ⟨b, rfl⟩
  subst hv
  obtain ⟨⟨U, cu, rfl⟩, ⟨V, cv, rfl⟩, ⟨AM, rfl⟩⟩ := H.forms
  obtain ⟨wb, hwb⟩ : ∃ wb, w.alloc (.cells #[.int .u64 (h : Nat), .slice U p.1.length cu, .slice V p.2.length cv, .pointer AM] 153) = wb := ⟨_, rfl⟩
  have hB : Below w.heap.size w wb := by rw [<- hwb]; exact gB3
  have hsb : wb.heap.size = w.heap.size + 1 := by rw [<- hwb]; simp
  have x0 : wb.cell? ⟨w.heap.size, 0, none⟩ = some (.int .u64 (h : Nat)) := by rw [<- hwb]; exact cell_new w 0 _ _ 0 _ rfl
  have x1 : wb.cell? ⟨w.heap.size, 1, none⟩ = some (.slice U p.1.length cu) := by rw [<- hwb]; exact cell_new w 0 _ _ 1 _ rfl
  have x2 : wb.cell? ⟨w.heap.size, 2, none⟩ = some (.slice V p.2.length cv) := by rw [<- hwb]; exact cell_new w 0 _ _ 2 _ rfl
  have x3 : wb.cell? ⟨w.heap.size, 3, none⟩ = some (.pointer AM) := by rw [<- hwb]; exact cell_new w 0 _ _ 3 _ rfl
  have hwm : some w.heap.size ≠ mb := H.hokm _ (H.hok _ (Nat.le_refl _))
  have hTW : ∀ W, Turns wb W mb -> Moves ok ok w W := fun W hW => (Moves.below hB).trans hB.size (hW.moves H.hokm)
  have hTB : ∀ W, Turns wb W mb -> Moves okb okb w W := fun W hW => (Moves.below hB).trans hB.size (hW.moves H.hokb)
  have hsW : ∀ W, Turns wb W mb -> ∀ k, W.heap.size <= k -> ok k := fun W hW k hk => H.hok k (Nat.le_trans (Nat.le_trans hB.size hW.size) hk)
  have hwW : ∀ W, Turns wb W mb -> Turns w W mb := fun W hW => (Turns.of_below mb hB).trans hW
  have SK : Hid (∀ W, Turns wb W mb -> W.cell? ⟨w.heap.size, 0, none⟩ = some (.int .u64 (h : Nat)) /\ W.cell? ⟨w.heap.size, 1, none⟩ = some (.slice U p.1.length cu) /\ W.cell? ⟨w.heap.size, 2, none⟩ = some (.slice V p.2.length cv) /\ W.cell? ⟨w.heap.size, 3, none⟩ = some (.pointer AM)) :=
    Lib.hid fun W hW => ⟨hW.cell x0 hwm, hW.cell x1 hwm, hW.cell x2 hwm, hW.cell x3 hwm⟩
  have CV := Lib.hid (visit_any (H.meter.below hB) (by have := H.c1; omega))
  have CL := Lib.hid (fun (W : World) (hW : Turns wb W mb) => leaf_any (h := h) W (H.b1.move goodByte (hTB W hW)) (H.b2.move goodByte (hTB W hW)) H.p1 H.p2)
  have HTW := Lib.hid hwW
  have HSZ := Lib.hid hB.size
  have CA := Lib.hid (fun W => at_any h level hlev W)
  have CW := Lib.hid (fun (W : World) (hW : Turns wb W mb) => with_put (W := W) H (hwW W hW))
  have HFI := Lib.hid hfi
  have hs : IntKind.i64.wrap ((level : Int) + 1) = (level : Int) + 1 := IntWalk.i64_in _ (by omega)
  have hw : wrap64 ((level : Int) + 1) = (level : Int) + 1 := by unfold wrap64; omega
  have HWB := Lib.hid hwb
  have CI0 := fun (W : World) (hW : Turns wb W mb) (kv : Value) (hk : ONodeAt nt ok W kv (Bw.kidO m kids (Bw.chunkAt h level))) (hm : MeterAt W (.pointer AM) (c.1 + 1, c.2) mb) => ih (level + 1) _ _ _ W _ _ _ _ (H.kid (hwW W hW) hm (by have := H.c1; simp only; omega) (by have := H.c2; simp only; omega) hk)
  rw [hcst]
  have HN := Lib.hid (fun (W : World) (hW : Turns wb W mb) => NodeAt.move (hTW W hW) _ _ hnode)
  cases hka : kidAt m kids (Bw.chunkAt h level) with
  | some k =>
    have CK := Lib.hid (fun (W : World) (hW : Turns wb W mb) => kid_some (NodeAt.move (hTW W hW) _ _ hnode) hfit.1 hfit.2 hka)
    have hka' : Bw.kidO m kids (Bw.chunkAt h level) = some k := hka
    rw [hka'] at CI0 ⊢
    rw [show ((level + 1 : Nat) : Int) = (level : Int) + 1 by omega] at CI0
    have CI := Lib.hid CI0
    generalize hcc : Bw.costO f (some k) h p.1 (level + 1) = cc at *
    have HCST : Hid (costAt (c.1 + 1, c.2) cc = (c.1 + 1 + cc.1, c.2 + cc.2)) := Lib.hid rfl
    generalize Bw.chunkAt h level = ch at *
    clear H hB hwb hTW hTB hsW hwW hL hnode hsb x0 x1 x2 x3 hfi hka hka' hlev hfit CI0 CL hcst ih hcc
    go_enter Tryz.func99, Tryz.ntmps99
    go_wp2_with fail
    rw [HWB.out]
    have hTb := Turns.refl wb mb
    obtain ⟨y0, y1, y2, y3⟩ := SK.out wb hTb
    go_wp2_with (first
      | (go_at_call 81; (with_reducible refine CV.out.mono ?_); rintro e w1 ⟨rfl, hm1, hT1⟩; obtain ⟨z0, z1, z2, z3⟩ := SK.out w1 hT1)
      | (go_at_call 104; (with_reducible refine (CA.out _).mono ?_); rintro e w' ⟨rfl, rfl⟩)
      | (go_at_call 36; (with_reducible refine (CK.out _ hT1).mono ?_); rintro e w2 ⟨t2, b2, q2, rfl, hN2', rfl⟩; have hT2 : Turns wb (w1.drewN q2) mb := hT1.trans (Turns.drewN _ _ _); have hN2 : ONodeAt nt ok (w1.drewN q2) (.iface t2 (.pointer (some ⟨b2, 0, none⟩))) (some k) := NodeAt.move (Moves.drewN w1 q2) _ _ hN2')
      | (go_at_call 73; (with_reducible refine (CI.out _ hT2 _ hN2 (hm1.below (by exact gB3))).mono ?_); rintro e w3 ⟨nv3, n3, fr, rfl, hn3, hl3, hfr3, hm3, hT23⟩; obtain ⟨t3, b3, rfl⟩ := hn3.form; have hT3 : Turns wb w3 mb := hT2.trans hT23; have HFR := Lib.hid hfr3; have HL3 := Lib.hid hl3; have CW3 := Lib.hid (CW.out w3 hT3 _ n3 hn3 hl3); clear hfr3 hl3)
      | (go_at_call 121; (with_reducible refine CW3.out.mono ?_); rintro e w4 ⟨r4, rfl, n4, hr4, hL4, hb4⟩; obtain ⟨t4, b4, rfl⟩ := hr4.form; have HR4 := Lib.hid hr4; have HL4 := Lib.hid hL4; have HB4 := Lib.hid hb4; clear hr4 hL4 hb4))
    go_ret2
    exact ⟨_, _, _, rfl, HR4.out, HL4.out, HFR.out.trans HFI.out, (hm3.below HB4.out).cast (Prod.ext (by simp only [HCST.out]; omega) (by simp only [HCST.out])), HTW.out _ (hT3.trans (Turns.of_below _ HB4.out))⟩
  | none =>
    have CK := Lib.hid (fun (W : World) (hW : Turns wb W mb) => kid_not (NodeAt.move (hTW W hW) _ _ hnode) hfit.1 hfit.2 hka)
    have hka' : Bw.kidO m kids (Bw.chunkAt h level) = none := hka
    rw [hka'] at CI0 ⊢
    rw [show ((level + 1 : Nat) : Int) = (level : Int) + 1 by omega] at CI0
    have CI := Lib.hid CI0
    generalize hcc : Bw.costO f none h p.1 (level + 1) = cc at *
    have HCST : Hid (costAt (c.1 + 1, c.2) cc = (c.1 + 1 + cc.1, c.2 + cc.2)) := Lib.hid rfl
    generalize Bw.chunkAt h level = ch at *
    clear H hB hwb hTW hTB hsW hwW hL hnode hsb x0 x1 x2 x3 hfi hka hka' hlev hfit CI0 CL hcst ih hcc
    go_enter Tryz.func99, Tryz.ntmps99
    go_wp2_with fail
    rw [HWB.out]
    have hTb := Turns.refl wb mb
    obtain ⟨y0, y1, y2, y3⟩ := SK.out wb hTb
    go_wp2_with (first
      | (go_at_call 81; (with_reducible refine CV.out.mono ?_); rintro e w1 ⟨rfl, hm1, hT1⟩; obtain ⟨z0, z1, z2, z3⟩ := SK.out w1 hT1)
      | (go_at_call 104; (with_reducible refine (CA.out _).mono ?_); rintro e w' ⟨rfl, rfl⟩)
      | (go_at_call 36; (with_reducible refine (CK.out _ hT1).mono ?_); rintro e w2 ⟨q2, rfl, rfl⟩; have hT2 : Turns wb (w1.drewN q2) mb := hT1.trans (Turns.drewN _ _ _); have hN2 : ONodeAt nt ok (w1.drewN q2) .nilIface none := rfl)
      | (go_at_call 73; ((with_reducible refine (CI.out _ hT2 _ hN2 (hm1.below (by exact gB3))).mono ?_); rintro e w3 ⟨nv3, n3, fr, rfl, hn3, hl3, hfr3, hm3, hT23⟩; obtain ⟨t3, b3, rfl⟩ := hn3.form; have hT3 : Turns wb w3 mb := hT2.trans hT23; have HFR := Lib.hid hfr3; have HL3 := Lib.hid hl3; have CW3 := Lib.hid (CW.out w3 hT3 _ n3 hn3 hl3); clear hfr3 hl3))
      | (go_at_call 121; (with_reducible refine CW3.out.mono ?_); rintro e w4 ⟨r4, rfl, n4, hr4, hL4, hb4⟩; obtain ⟨t4, b4, rfl⟩ := hr4.form; have HR4 := Lib.hid hr4; have HL4 := Lib.hid hL4; have HB4 := Lib.hid hb4; clear hr4 hL4 hb4))
    go_ret2
    exact ⟨_, _, _, rfl, HR4.out, HL4.out, HFR.out.trans HFI.out, (hm3.below HB4.out).cast (Prod.ext (by simp only [HCST.out]; omega) (by simp only [HCST.out])), HTW.out _ (hT3.trans (Turns.of_below _ HB4.out))⟩
set_option maxRecDepth 100000 in
set_option maxHeartbeats 1600000 in
theorem into_branch {ok okb : Nat -> Prop} {mb : Option Nat} {h : Nat} {p : Bw.PV} {f level m : Nat} {kids : List Bw.N} {l : List Bw.En} {c : Nat × Nat} {w : World} {v u1 u2 mv : Value} (ih : BranchP ok okb mb h p f) (H : PutIn ok okb mb f level (some (.branch m kids)) l h p c w v u1 u2 mv) :
    Calls Tryz.prog 73 #[recv h u1 u2 mv, v, .int .i64 (level : Nat)] w (IntoEnds ok mb level l h p (costAt c (Bw.costO f (some (.branch m kids)) h p.1 level)) w mv) := by
  have hnode : NodeAt nt ok w v (.branch m kids) := H.node
  obtain ⟨b, hv⟩ : ∃ b, v = .iface 122 (.pointer (some ⟨b, 0, none⟩)) := by
    have h0 := hnode
    simp only [NodeAt] at h0
    obtain ⟨b, _, _, _, rfl, _⟩ := h0
    exact ⟨b, rfl⟩
  subst hv
  obtain ⟨⟨U, cu, rfl⟩, ⟨V, cv, rfl⟩, ⟨AM, rfl⟩⟩ := H.forms
  obtain ⟨wb, hwb⟩ : ∃ wb, w.alloc (.cells #[.int .u64 (h : Nat), .slice U p.1.length cu, .slice V p.2.length cv, .pointer AM] 153) = wb := ⟨_, rfl⟩
  have hB : Below w.heap.size w wb := by rw [<- hwb]; exact gB3
  have hsb : wb.heap.size = w.heap.size + 1 := by rw [<- hwb]; simp
  have x0 : wb.cell? ⟨w.heap.size, 0, none⟩ = some (.int .u64 (h : Nat)) := by rw [<- hwb]; exact cell_new w 0 _ _ 0 _ rfl
  have x1 : wb.cell? ⟨w.heap.size, 1, none⟩ = some (.slice U p.1.length cu) := by rw [<- hwb]; exact cell_new w 0 _ _ 1 _ rfl
  have x2 : wb.cell? ⟨w.heap.size, 2, none⟩ = some (.slice V p.2.length cv) := by rw [<- hwb]; exact cell_new w 0 _ _ 2 _ rfl
  have x3 : wb.cell? ⟨w.heap.size, 3, none⟩ = some (.pointer AM) := by rw [<- hwb]; exact cell_new w 0 _ _ 3 _ rfl
  have hwm : some w.heap.size ≠ mb := H.hokm _ (H.hok _ (Nat.le_refl _))
  have hTW : ∀ W, Turns wb W mb -> Moves ok ok w W := fun W hW => (Moves.below hB).trans hB.size (hW.moves H.hokm)
  have hTB : ∀ W, Turns wb W mb -> Moves okb okb w W := fun W hW => (Moves.below hB).trans hB.size (hW.moves H.hokb)
  have hsW : ∀ W, Turns wb W mb -> ∀ k, W.heap.size <= k -> ok k := fun W hW k hk => H.hok k (Nat.le_trans (Nat.le_trans hB.size hW.size) hk)
  have hwW : ∀ W, Turns wb W mb -> Turns w W mb := fun W hW => (Turns.of_below mb hB).trans hW
  have SK : Hid (∀ W, Turns wb W mb -> W.cell? ⟨w.heap.size, 0, none⟩ = some (.int .u64 (h : Nat)) /\ W.cell? ⟨w.heap.size, 1, none⟩ = some (.slice U p.1.length cu) /\ W.cell? ⟨w.heap.size, 2, none⟩ = some (.slice V p.2.length cv) /\ W.cell? ⟨w.heap.size, 3, none⟩ = some (.pointer AM)) :=
    Lib.hid fun W hW => ⟨hW.cell x0 hwm, hW.cell x1 hwm, hW.cell x2 hwm, hW.cell x3 hwm⟩
  have CV := Lib.hid (visit_any (H.meter.below hB) (by have := H.c1; omega))
  have CL := Lib.hid (fun (W : World) (hW : Turns wb W mb) => leaf_any (h := h) W (H.b1.move goodByte (hTB W hW)) (H.b2.move goodByte (hTB W hW)) H.p1 H.p2)
  have HTW := Lib.hid hwW
  have HSZ := Lib.hid hB.size
  have CI := Lib.hid (ih level m kids l c wb _ _ _ _ (H.turn (Turns.of_below mb hB) (H.meter.below hB) H.c1 H.c2))
  have hm := kindm_branch
  have HWB := Lib.hid hwb
  have HBT := Lib.hid (Turns.of_below mb hB)
  generalize Bw.costO f (some (.branch m kids)) h p.1 level = cc at *
  clear H hB hwb hTW hTB hsW hwW hnode hsb x0 x1 x2 x3 CL CV ih
  go_enter Tryz.func73, Tryz.ntmps73
  go_wp2_with fail
  rw [HWB.out]
  have hTb := Turns.refl wb mb
  obtain ⟨y0, y1, y2, y3⟩ := SK.out wb hTb
  go_wp2_with (first
    | (go_at_call 179; (with_reducible refine (kind_branch _ _).mono ?_); rintro e w' ⟨rfl, rfl⟩)
    | (go_at_call 99; (with_reducible refine CI.out.mono ?_); rintro e w3 ⟨nv3, n3, fr, rfl, hn3, hl3, hfr3, hm3, hT3⟩; obtain ⟨t3, b3, rfl⟩ := hn3.form; have HFR := Lib.hid hfr3; have HL3 := Lib.hid hl3; clear hfr3 hl3))
  go_ret2
  exact ⟨_, _, _, rfl, hn3, HL3.out, HFR.out, hm3, HBT.out.trans hT3⟩
theorem into_of_branch {ok okb : Nat -> Prop} {mb : Option Nat} {h : Nat} {p : Bw.PV} {f : Nat} (ih : BranchP ok okb mb h p f) : IntoP ok okb mb h p f := by
  intro level o l c w v u1 u2 mv H
  cases o with
  | none =>
    rw [Bw.costO_none]
    exact into_none H
  | some n =>
    cases n with
    | leaf g q =>
      rw [Bw.costO_leaf]
      by_cases hg : g = h
      · rw [if_pos hg]
        by_cases hk : q.1 = p.1
        · exact into_leaf_same H hg hk
        · exact into_leaf_other H hg hk
      · rw [if_neg hg]
        exact into_leaf_fork H hg
    | bucket g t =>
      rw [Bw.costO_bucket]
      by_cases hg : g = h
      · rw [if_pos hg]
        subst hg
        exact into_bucket_put H
      · rw [if_neg hg]
        exact into_bucket_fork H hg
    | branch m kids => exact into_branch ih H
theorem branch_zero {ok okb : Nat -> Prop} {mb : Option Nat} {h : Nat} {p : Bw.PV} : BranchP ok okb mb h p 0 := by
  intro level m kids l c w v u1 u2 mv H
  have hlev := Bw.lays_branch_level H.lays (by have := H.fuel; omega) ⟨_, H.pre⟩ H.hash
  have := H.fuel
  omega
theorem into_any {ok okb : Nat -> Prop} {mb : Option Nat} {h : Nat} {p : Bw.PV} : ∀ f, IntoP ok okb mb h p f /\ BranchP ok okb mb h p f := by
  intro f
  induction f with
  | zero => exact ⟨into_of_branch branch_zero, branch_zero⟩
  | succ f ih => exact ⟨into_of_branch (branch_of_into ih.1), branch_of_into ih.1⟩
set_option maxRecDepth 100000 in
set_option maxHeartbeats 1600000 in
theorem gput_any {ok okb : Nat -> Prop} {mb : Option Nat} {o : Option Bw.N} {l : List Bw.En} {h : Nat} {p : Bw.PV} {c : Nat × Nat} {w : World} {v u1 u2 mv : Value} (H : PutIn ok okb mb 13 0 o l h p c w v u1 u2 mv) :
    Calls Tryz.prog 41 #[v, .int .u64 (h : Nat), .agg #[u1, u2], mv] w (IntoEnds ok mb 0 l h p (costAt c (Bw.costO 13 o h p.1 0)) w mv) := by
  obtain ⟨⟨U, cu, rfl⟩, ⟨V, cv, rfl⟩, ⟨AM, rfl⟩⟩ := H.forms
  obtain ⟨wb, hwb⟩ : ∃ wb, w.alloc (.cells #[.slice U p.1.length cu, .slice V p.2.length cv] 62) = wb := ⟨_, rfl⟩
  have hB : Below w.heap.size w wb := by rw [<- hwb]; exact gB3
  have p0 : wb.cell? ⟨w.heap.size, 0, none⟩ = some (.slice U p.1.length cu) := by rw [<- hwb]; exact cell_new w 0 _ _ 0 _ rfl
  have p1 : wb.cell? ⟨w.heap.size, 1, none⟩ = some (.slice V p.2.length cv) := by rw [<- hwb]; exact cell_new w 0 _ _ 1 _ rfl
  have CI := Lib.hid (show Calls Tryz.prog 73 #[recv h (.slice U p.1.length cu) (.slice V p.2.length cv) (.pointer AM), v, .int .i64 0] wb _ from (into_any (ok := ok) (okb := okb) 13).1 0 o l c wb _ _ _ _ (H.turn (Turns.of_below mb hB) (H.meter.below hB) H.c1 H.c2))
  have hvf : v = .nilIface \/ ∃ t b, v = .iface t (.pointer (some ⟨b, 0, none⟩)) := by
    have := H.node
    cases o with
    | none => exact .inl this
    | some n => obtain ⟨t, b, rfl⟩ := NodeAt.form this; exact .inr ⟨t, b, rfl⟩
  have HBT := Lib.hid (Turns.of_below mb hB)
  have HWB := Lib.hid hwb
  generalize costAt c (Bw.costO 13 o h p.1 0) = cc at *
  clear H hB hwb
  rcases hvf with rfl | ⟨tv, bv, rfl⟩
  · go_enter Tryz.func41, Tryz.ntmps41
    go_wp2_with fail
    rw [HWB.out]
    go_wp2_with fail
    refine CI.out.mono ?_
    rintro e w3 ⟨nv3, n3, fr, rfl, hn3, hl3, hfr3, hm3, hT3⟩
    obtain ⟨t3, b3, rfl⟩ := hn3.form
    have HFR := Lib.hid hfr3; have HL3 := Lib.hid hl3
    clear hfr3 hl3
    go_wp2
    go_ret2
    exact ⟨_, _, _, rfl, hn3, HL3.out, HFR.out, hm3, HBT.out.trans hT3⟩
  · go_enter Tryz.func41, Tryz.ntmps41
    go_wp2_with fail
    rw [HWB.out]
    go_wp2_with fail
    refine CI.out.mono ?_
    rintro e w3 ⟨nv3, n3, fr, rfl, hn3, hl3, hfr3, hm3, hT3⟩
    obtain ⟨t3, b3, rfl⟩ := hn3.form
    have HFR := Lib.hid hfr3; have HL3 := Lib.hid hl3
    clear hfr3 hl3
    go_wp2
    go_ret2
    exact ⟨_, _, _, rfl, hn3, HL3.out, HFR.out, hm3, HBT.out.trans hT3⟩
end Go.Proofs.YtadaoceidkagfaaGreatDoor
