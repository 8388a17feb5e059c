
import Derived.Test.YtadaoceidkagfaaGreatDoorLawA
import Derived.Test.YtadaoceidkagfaaGreatDoorListA
import Derived.Test.YtadaoceidkagfaaGreatDoorNodeC
namespace Go.Proofs.YtadaoceidkagfaaGreatDoor
open Go.RowKit Go.Bw
mutual
def _root_.Bw.N.fit : Bw.N -> Prop
  | .leaf _ p => p.1.length <= 1048576 /\ p.2.length <= 1048576
  | .bucket _ t => t.even /\ Bw.Rises t.list /\ (∀ p ∈ t.list, p.1.length <= 1048576 /\ p.2.length <= 1048576) /\ t.size <= 1048576
  | .branch m kids => m < 4294967296 /\ kids.length = (Bw.bitsOf m).length /\ Bw.N.fitL kids
def _root_.Bw.N.fitL : List Bw.N -> Prop
  | [] => True
  | k :: r => k.fit /\ Bw.N.fitL r
end
theorem _root_.Bw.N.fitL_iff (l : List Bw.N) : Bw.N.fitL l ↔ ∀ k ∈ l, k.fit := by
  induction l with
  | nil => simp [Bw.N.fitL]
  | cons k r ih => simp [Bw.N.fitL, ih]
set_option maxRecDepth 100000 in
set_option maxHeartbeats 1000000 in
theorem same_none (A1 A2 A3 : Option Addr) (c1 c2 c3 : Nat) (w : World) :
    Calls Tryz.prog 14 #[.nilIface, .agg #[.int .i64 0, .int .u64 0, .slice A1 0 c1, .slice A2 0 c2, .slice A3 0 c3]] w fun e w' => e = .returned (.bool true) /\ Below w.heap.size w w' := by
  have he := fun (W : World) => (show (binOp .eql 28 .nilIface .nilIface).run Tryz.prog W = .ok (.bool true) W by rfl)
  have C1 := Lib.hid (fun W => hash_any (w := W) (v := .nilIface) (n := none) (ok := AllB) rfl)
  have C2 := Lib.hid pair_none
  have C3 := Lib.hid (fun W => tree_any (w := W) (v := .nilIface) (n := none) (ok := AllB) rfl)
  have C4 := Lib.hid (fun W => map_any (w := W) (v := .nilIface) (n := none) (ok := AllB) rfl)
  go_enter Tryz.func14, Tryz.ntmps14
  go_wp2_with fail
  refine (C1.out _).mono ?_
  rintro e w1 ⟨rfl, rfl⟩
  simp only [hashO]
  obtain ⟨W1, hW1⟩ : ∃ W1, (w.alloc (.cells #[.int .i64 0, .int .u64 0, .slice A1 0 c1, .slice A2 0 c2, .slice A3 0 c3] 51)) = W1 := ⟨_, rfl⟩
  have hB1 : Below w.heap.size w W1 := by rw [<- hW1]; exact gB2
  have hs1 : w.heap.size < W1.heap.size := by rw [<- hW1]; simp
  have x0 : W1.cell? ⟨w.heap.size, 0, none⟩ = some (.int .i64 0) := by subst hW1; go_simp
  rw [hW1]
  clear hW1
  go_wp2_with fail
  refine (C2.out _).mono ?_
  rintro e w2 ⟨rfl, hb2⟩
  have x0 := (hb2.cell (p := ⟨w.heap.size, 0, none⟩) hs1).trans x0
  have hB2 := Lib.hid (hB1.trans (hb2.mono hB1.size))
  have hs2 : w.heap.size < w2.heap.size := Nat.lt_of_lt_of_le hs1 hb2.size
  clear hb2 hB1
  go_wp2_with fail
  refine (C3.out _).mono ?_
  rintro e w3 ⟨⟨r, rfl, ht⟩, rfl⟩
  simp only [TreeTold] at ht
  subst ht
  go_wp2_with fail
  refine (C4.out _).mono ?_
  rintro e w3 ⟨rfl, rfl⟩
  simp only [mapO]
  go_wp2_with fail
  have hB3 : Below w2.heap.size w2 (w2.alloc (.cells #[.slice none 0 0, .slice none 0 0] 62)) := by exact gB2
  go_ret
  exact ⟨rfl, hB2.out.trans (hB3.mono hB2.out.size)⟩
theorem ris_same {ok ok' : Nat -> Prop} {l : List Bw.PV} {u v : Value} {w : World} (hl : l.length <= 1048576) (hr : PairsAt ok w u l) (hm : SPairsAt ok' w v l) :
    Calls Tryz.prog 12 #[u, v] w fun e w' => e = .returned (.bool true) /\ ∃ n, w' = w.drewN n := by
  have := ris_any hl hr hm
  rwa [decide_eq_true rfl] at this
set_option maxRecDepth 100000 in
set_option maxHeartbeats 1000000 in
theorem same_leaf {h : Nat} {p : Bw.PV} {nv vp vs vk : Value} {w : World} (hn : NodeAt nt AllB w nv (.leaf h p)) (hp : SPairsAt AllB w vp [p]) (hs : NatsAt AllB w vs []) (hk : RowAt 5 xK AllB w vk []) (hf : Bw.N.fit (.leaf h p)) :
    Calls Tryz.prog 14 #[nv, .agg #[.int .i64 1, .int .u64 (h : Nat), vp, vs, vk]] w fun e w' => e = .returned (.bool true) /\ Below w.heap.size w w' := by
  have C1 := Lib.hid (fun W (hW : Below w.heap.size w W) => hash_any (n := some (.leaf h p)) (NodeAt.move (Moves.below hW) _ _ hn))
  have C2 := Lib.hid (fun W (hW : Below w.heap.size w W) => pair_any (n := some (.leaf h p)) (NodeAt.move (Moves.below hW) _ _ hn) (by intro hh p' e; cases e; exact hf))
  have C3 := Lib.hid (fun W (hW : Below w.heap.size w W) => tree_any (n := some (.leaf h p)) (NodeAt.move (Moves.below hW) _ _ hn))
  have C4 := Lib.hid (fun W (hW : Below w.heap.size w W) => map_any (n := some (.leaf h p)) (NodeAt.move (Moves.below hW) _ _ hn))
  simp only [NodeAt] at hn
  obtain ⟨b, u1, u2, rfl, _⟩ := hn
  obtain ⟨A1, c1, rfl⟩ := hp.form
  obtain ⟨A2, c2, rfl⟩ := hs.form
  obtain ⟨A3, c3, rfl⟩ := hk.form
  simp only [List.length_nil, List.length_cons, Nat.zero_add] at hp ⊢
  obtain ⟨bp, op, rfl, _, d0, d1⟩ := sp_get hp (j := 0) (p := p) rfl
  simp only [Nat.zero_mul, Nat.add_zero, str] at d0 d1
  have hbl := World.block_lt_of_cell? w _ d0
  dsimp only at hbl
  have hm := kindm_leaf
  clear hf hp hs hk
  go_enter Tryz.func14, Tryz.ntmps14
  go_wp2_with fail
  obtain ⟨W1, hW1⟩ : ∃ W1, (w.alloc (.cells #[.int .i64 1, .int .u64 (h : Nat), .slice (some ⟨bp, op, none⟩) 1 c1, .slice A2 0 c2, .slice A3 0 c3] 51)) = W1 := ⟨_, rfl⟩
  have hB1 : Below w.heap.size w W1 := by rw [<- hW1]; exact gB2
  have hs1 : w.heap.size < W1.heap.size := by rw [<- hW1]; simp
  have x0 : W1.cell? ⟨w.heap.size, 0, none⟩ = some (.int .i64 1) := by subst hW1; go_simp
  have x1 : W1.cell? ⟨w.heap.size, 1, none⟩ = some (.int .u64 (h : Nat)) := by subst hW1; go_simp
  have x2 : W1.cell? ⟨w.heap.size, 2, none⟩ = some (.slice (some ⟨bp, op, none⟩) 1 c1) := by subst hW1; go_simp
  rw [hW1]
  clear hW1
  refine (C1.out _ hB1).mono ?_
  rintro e w1 ⟨rfl, rfl⟩
  simp only [hashO]
  go_wp2_with fail
  refine (C2.out _ hB1).mono ?_
  rintro e w2 ⟨r, rfl, hr, hb2⟩
  simp only [PairTold] at hr
  obtain ⟨v1, v2, rfl, hv1, hv2⟩ := hr
  obtain ⟨V1, k1, rfl⟩ := hv1.form
  obtain ⟨V2, k2, rfl⟩ := hv2.form
  have x0 := (hb2.cell (p := ⟨w.heap.size, 0, none⟩) hs1).trans x0
  have x1 := (hb2.cell (p := ⟨w.heap.size, 1, none⟩) hs1).trans x1
  have x2 := (hb2.cell (p := ⟨w.heap.size, 2, none⟩) hs1).trans x2
  have hB2 := hB1.trans (hb2.mono hB1.size)
  have d0 := (hB2.cell (p := ⟨bp, op, none⟩) hbl).trans d0
  have d1 := (hB2.cell (p := ⟨bp, op + 1, none⟩) hbl).trans d1
  have hs2 : w.heap.size < w2.heap.size := Nat.lt_of_lt_of_le hs1 hb2.size
  have hbl2 : bp < w2.heap.size := Nat.lt_of_lt_of_le hbl hB2.size
  clear hb2
  have HB2 := Lib.hid hB2
  have hB3 : Below w2.heap.size w2 (w2.alloc (.cells #[.slice V1 p.1.length k1, .slice V2 p.2.length k2] 62)) := by exact gB2
  have HB3 := Lib.hid hB3
  have HV1 := Lib.hid (fun n => run_conv (P := Tryz.prog) 33 9 5 Tryz.underlying33 Tryz.underlying5 Tryz.underlying9 (hv1.move goodByte ((Moves.below hB3).trans hB3.size (Moves.drewN _ n))))
  have HV2 := Lib.hid (fun n => run_conv (P := Tryz.prog) 33 9 5 Tryz.underlying33 Tryz.underlying5 Tryz.underlying9 (hv2.move goodByte ((Moves.below hB3).trans hB3.size (Moves.drewN _ n))))
  clear hv1 hv2 hB1 hB2 hB3
  go_wp2_with fail
  refine (C3.out _ (HB2.out.trans (Below.mono (by exact gB2) HB2.out.size))).mono ?_
  rintro e w3 ⟨⟨r, rfl, ht⟩, rfl⟩
  simp only [TreeTold] at ht
  subst ht
  go_wp2_with fail
  refine (C4.out _ (HB2.out.trans (Below.mono (by exact gB2) HB2.out.size))).mono ?_
  rintro e w3 ⟨rfl, rfl⟩
  simp only [mapO]
  go_wp2_with fail
  have CK := Lib.hid (fun W => (kind_leaf ⟨b, 0, none⟩ W).mono (R' := fun e w' => e = .returned (.int .i64 1) /\ w' = W) (fun _ _ h => ⟨h.1, h.2.symm⟩))
  go_quiet ((go_at_call 175; exact Calls.quiet_of_same (CK.out _)))
  have q1 := HV1.out
  have q2 := HV2.out
  go_wp2_with fail
  go_quiet (fail)
  go_wp2
  go_ret
  exact ⟨by simp, HB2.out.trans (Below.mono (b_drewN (b_drewN HB3.out _) _) HB2.out.size)⟩
set_option maxRecDepth 100000 in
set_option maxHeartbeats 1000000 in
theorem same_bucket {h : Nat} {t : Bw.T} {nv vp vs vk : Value} {w : World} (hn : NodeAt nt AllB w nv (.bucket h t)) (hp : SPairsAt AllB w vp t.list) (hs : NatsAt AllB w vs []) (hk : RowAt 5 xK AllB w vk []) (hf : Bw.N.fit (.bucket h t)) :
    Calls Tryz.prog 14 #[nv, .agg #[.int .i64 2, .int .u64 (h : Nat), vp, vs, vk]] w fun e w' => e = .returned (.bool true) /\ Below w.heap.size w w' := by
  have C1 := Lib.hid (fun W (hW : Below w.heap.size w W) => hash_any (n := some (.bucket h t)) (NodeAt.move (Moves.below hW) _ _ hn))
  have C2 := Lib.hid (fun W (hW : Below w.heap.size w W) => pair_any (n := some (.bucket h t)) (NodeAt.move (Moves.below hW) _ _ hn) (by intro hh p' e; cases e))
  have C3 := Lib.hid (fun W (hW : Below w.heap.size w W) => tree_any (n := some (.bucket h t)) (NodeAt.move (Moves.below hW) _ _ hn))
  have C4 := Lib.hid (fun W (hW : Below w.heap.size w W) => map_any (n := some (.bucket h t)) (NodeAt.move (Moves.below hW) _ _ hn))
  simp only [NodeAt] at hn
  obtain ⟨b, tv, rfl, _⟩ := hn
  obtain ⟨A1, c1, rfl⟩ := hp.form
  obtain ⟨A2, c2, rfl⟩ := hs.form
  obtain ⟨A3, c3, rfl⟩ := hk.form
  simp only [List.length_nil] at *
  obtain ⟨hev, hri, hbd, hsz⟩ := hf
  have hm := kindm_bucket
  have HEV := Lib.hid hev; have HRI := Lib.hid hri; have HBD := Lib.hid hbd; have HSZ := Lib.hid hsz; have HP := Lib.hid hp
  clear hev hri hbd hsz hp hs hk
  go_enter Tryz.func14, Tryz.ntmps14
  go_wp2_with fail
  obtain ⟨W1, hW1⟩ : ∃ W1, (w.alloc (.cells #[.int .i64 2, .int .u64 (h : Nat), .slice A1 t.list.length c1, .slice A2 0 c2, .slice A3 0 c3] 51)) = W1 := ⟨_, rfl⟩
  have hB1 : Below w.heap.size w W1 := by rw [<- hW1]; exact gB2
  have hs1 : w.heap.size < W1.heap.size := by rw [<- hW1]; simp
  have x0 : W1.cell? ⟨w.heap.size, 0, none⟩ = some (.int .i64 2) := by subst hW1; go_simp
  have x1 : W1.cell? ⟨w.heap.size, 1, none⟩ = some (.int .u64 (h : Nat)) := by subst hW1; go_simp
  have x2 : W1.cell? ⟨w.heap.size, 2, none⟩ = some (.slice A1 t.list.length c1) := by subst hW1; go_simp
  rw [hW1]
  clear hW1
  refine (C1.out _ hB1).mono ?_
  rintro e w1 ⟨rfl, rfl⟩
  simp only [hashO]
  go_wp2_with fail
  refine (C2.out _ hB1).mono ?_
  rintro e w2 ⟨r, rfl, hr, hb2⟩
  simp only [PairTold] at hr
  subst hr
  have x0 := (hb2.cell (p := ⟨w.heap.size, 0, none⟩) hs1).trans x0
  have x1 := (hb2.cell (p := ⟨w.heap.size, 1, none⟩) hs1).trans x1
  have x2 := (hb2.cell (p := ⟨w.heap.size, 2, none⟩) hs1).trans x2
  have hB2 := hB1.trans (hb2.mono hB1.size)
  have hs2 : w.heap.size < w2.heap.size := Nat.lt_of_lt_of_le hs1 hb2.size
  clear hb2
  have HB2 := Lib.hid hB2
  have hB3 : Below w2.heap.size w2 (w2.alloc (.cells #[.slice none 0 0, .slice none 0 0] 62)) := by exact gB2
  have HB3 := Lib.hid hB3
  clear hB1 hB2 hB3
  go_wp2_with fail
  refine (C3.out _ (HB2.out.trans (Below.mono (by exact gB2) HB2.out.size))).mono ?_
  rintro e w3 ⟨⟨r, rfl, ht⟩, rfl⟩
  simp only [TreeTold] at ht
  obtain ⟨tv2, rfl, htv⟩ := ht
  obtain ⟨AT, rfl⟩ := htv.form
  have HTV := Lib.hid htv
  clear htv
  go_wp2_with fail
  refine (C4.out _ (HB2.out.trans (Below.mono (by exact gB2) HB2.out.size))).mono ?_
  rintro e w3 ⟨rfl, rfl⟩
  simp only [mapO]
  go_wp2_with fail
  have CK := Lib.hid (fun W => (kind_bucket ⟨b, 0, none⟩ W).mono (R' := fun e w' => e = .returned (.int .i64 2) /\ w' = W) (fun _ _ h => ⟨h.1, h.2.symm⟩))
  go_quiet ((go_at_call 177; exact Calls.quiet_of_same (CK.out _)))
  go_wp2_with fail
  obtain ⟨W4, hW4⟩ : ∃ W4, (w2.alloc (.cells #[.slice none 0 0, .slice none 0 0] 62)).drewN nq = W4 := ⟨_, rfl⟩
  have hs4 : w.heap.size < W4.heap.size := by subst hW4; simp; omega
  have hx4 : W4.cell? ⟨w.heap.size, 2, none⟩ = some (.slice A1 t.list.length c1) := by subst hW4; go_simp
  have HB4 : Hid (Below w.heap.size w W4) := Lib.hid (by subst hW4; exact HB2.out.trans (Below.mono (b_drewN HB3.out _) HB2.out.size))
  have HTV4 : Hid (TreeAt AllB W4 (.pointer AT) t) := Lib.hid (by subst hW4; exact HTV.out.move (Moves.drewN _ _))
  rw [hW4]
  clear hW4 x0 x1 x2
  have CSO := Lib.hid (fun W (hW : Below W4.heap.size W4 W) => sound_any (HTV4.out.move (Moves.below hW)) HEV.out HRI.out HSZ.out)
  have CLI := Lib.hid (fun W (hW : Below W4.heap.size W4 W) => list_any (HTV4.out.move (Moves.below hW)) HBD.out HSZ.out)
  have HXS : Hid (∀ W, Below W4.heap.size W4 W -> W.cell? ⟨w.heap.size, 2, none⟩ = some (.slice A1 t.list.length c1)) := Lib.hid fun W hW => (hW.cell (p := ⟨w.heap.size, 2, none⟩) hs4).trans hx4
  have hX4d := HXS.out W4.drew (by exact gB2)
  have HP4 := Lib.hid (fun W (hW : Below W4.heap.size W4 W) => HP.out.move goodSp (Moves.below (HB4.out.trans (hW.mono HB4.out.size))))
  have HLL : Hid (t.list.length <= 1048576) := Lib.hid (by rw [Bw.T.length_list]; exact HSZ.out)
  go_region_held3 (fun w' => w'.cell? ⟨w.heap.size, 2, none⟩ = some (.slice A1 t.list.length c1))
    (first | with_reducible exact hX7 | with_reducible exact hX6 | with_reducible exact hX5 | with_reducible exact hX4d)
    ((first
      | (go_at_call 33; (with_reducible refine (CSO.out _ (by exact gB2)).mono ?_); rintro e w5 ⟨rfl, hb5⟩; have hw5 : Below W4.heap.size W4 w5 := Below.trans (by exact gB2) (hb5.mono (by simp)); have hX5 := HXS.out w5 hw5)
      | (go_at_call 34; (with_reducible refine (CLI.out _ hw5).mono ?_); rintro e w6 ⟨q6, rfl, hq6, hb6⟩; obtain ⟨A6, c6, rfl⟩ := hq6.form; have hw6 : Below W4.heap.size W4 w6 := hw5.trans (hb6.mono hw5.size); have hX6 := HXS.out w6 hw6; have HQ6 := Lib.hid hq6; clear hq6)
      | (go_at_call 12; (with_reducible refine (ris_same HLL.out HQ6.out (HP4.out _ hw6)).mono ?_); rintro e w7 ⟨rfl, n7, rfl⟩; have hw7 : Below W4.heap.size W4 (w6.drewN n7) := b_drewN hw6 _; have hX7 := HXS.out _ hw7)))
  all_goals go_wp2
  all_goals go_ret
  all_goals exact ⟨rfl, HB4.out.trans (hw7.mono HB4.out.size)⟩
open Go.RowKit Go.Bw
def SmRel2 (w4 : World) (i : Value) (wr : World) : Prop := ∃ j : Nat, j <= 34 /\ i = .int .i64 ((j : Int) - 1) /\ Below w4.heap.size w4 wr
def AtOk (bits : List Nat) (c : Int) (i : Nat) (at_ : Int) : Prop :=
  (at_ = -1 /\ ∀ x ∈ bits.take i, (x : Int) ≠ c) \/ ∃ a : Nat, a < i /\ at_ = a /\ ∃ x, bits[a]? = some x /\ (x : Int) = c
def AtRel (bits : List Nat) (c : Int) (W : World) (a i : Value) (wr : World) : Prop :=
  ∃ (k : Nat) (at_ : Int), k <= bits.length /\ a = .int .i64 at_ /\ i = .int .i64 k /\ AtOk bits c k at_ /\ W = wr
theorem at_step {bits : List Nat} {c : Int} {i : Nat} {at_ : Int} {x : Nat} (h : AtOk bits c i at_) (hx : bits[i]? = some x) (hne : ¬ (x : Int) = c) : AtOk bits c (i + 1) at_ := by
  rcases h with ⟨h1, h2⟩ | ⟨a, h1, h2⟩
  · obtain ⟨hl, he⟩ := List.getElem?_eq_some_iff.1 hx
    refine .inl ⟨h1, fun y hy => ?_⟩
    rw [take_succ_snoc hl, List.mem_append] at hy
    rcases hy with hy | hy
    · exact h2 y hy
    · simp only [List.mem_singleton] at hy; rw [hy, he]; exact hne
  · exact .inr ⟨a, Nat.lt_succ_of_lt h1, h2⟩
theorem bits_mem {m x : Nat} : x ∈ Bw.bitsOf m ↔ x < 32 /\ m.testBit x = true := by
  unfold Bw.bitsOf
  rw [List.mem_filter, List.mem_range]
theorem bits_nodup (m : Nat) : (Bw.bitsOf m).Nodup := List.Pairwise.filter _ List.nodup_range
theorem same_at_out {m : Nat} {c : Int} {at_ : Int} (hc : ¬ (0 <= c /\ c < 32 /\ m.testBit c.toNat = true)) (h : AtOk (Bw.bitsOf m) c (Bw.bitsOf m).length at_) : at_ = -1 := by
  rcases h with ⟨h1, _⟩ | ⟨a, _, _, x, hx, he⟩
  · exact h1
  · have := bits_mem.1 (List.mem_of_getElem? hx)
    subst he
    exact absurd ⟨by omega, by omega, by rw [Int.toNat_natCast]; exact this.2⟩ hc
theorem same_at_in {m : Nat} {c : Int} {at_ : Int} (hc : 0 <= c /\ c < 32 /\ m.testBit c.toNat = true) (h : AtOk (Bw.bitsOf m) c (Bw.bitsOf m).length at_) : at_ = (Bw.ones c.toNat m : Nat) /\ Bw.ones c.toNat m < (Bw.bitsOf m).length := by
  have hat := Bw.bitsOf_at m c.toNat (by omega) hc.2.2
  obtain ⟨hl, he⟩ := List.getElem?_eq_some_iff.1 hat
  refine ⟨?_, hl⟩
  rcases h with ⟨_, h2⟩ | ⟨a, _, h2, x, hx, hxc⟩
  · rw [List.take_length] at h2
    exact absurd (by omega) (h2 c.toNat (List.mem_of_getElem? hat))
  · rw [h2]
    obtain ⟨ha, hax⟩ := List.getElem?_eq_some_iff.1 hx
    have : a = Bw.ones c.toNat m := by
      have hnd := List.pairwise_iff_getElem.1 (bits_nodup m)
      rcases Nat.lt_trichotomy a (Bw.ones c.toNat m) with hl2 | hl2 | hl2
      · exact absurd (by rw [hax, he]; omega) (hnd a _ ha hl hl2)
      · exact hl2
      · exact absurd (by rw [hax, he]; omega) (hnd _ a hl ha hl2)
    rw [this]
set_option maxRecDepth 100000 in
set_option maxHeartbeats 4000000 in
theorem same_branch {m : Nat} {kids : List Bw.N} {nv vp vs vk : Value} {w : World} (hn : NodeAt nt AllB w nv (.branch m kids)) (hp : SPairsAt AllB w vp []) (hs : NatsAt AllB w vs (Bw.bitsOf m)) (hk : RowAt 5 xK AllB w vk (kids.map Bw.N.abs)) (hf : Bw.N.fit (.branch m kids))
    (hih : ∀ k ∈ kids, ∀ nv cs W, Below w.heap.size w W -> NodeAt nt AllB W nv k -> xK AllB W k.abs cs -> Calls Tryz.prog 14 #[nv, .agg cs.toArray] W fun e w' => e = .returned (.bool true) /\ Below W.heap.size W w') :
    Calls Tryz.prog 14 #[nv, .agg #[.int .i64 3, .int .u64 0, vp, vs, vk]] w fun e w' => e = .returned (.bool true) /\ Below w.heap.size w w' := by
  have C1 := Lib.hid (fun W (hW : Below w.heap.size w W) => hash_any (n := some (.branch m kids)) (NodeAt.move (Moves.below hW) _ _ hn))
  have C2 := Lib.hid (fun W (hW : Below w.heap.size w W) => pair_any (n := some (.branch m kids)) (NodeAt.move (Moves.below hW) _ _ hn) (by intro hh p' e; cases e))
  have C3 := Lib.hid (fun W (hW : Below w.heap.size w W) => tree_any (n := some (.branch m kids)) (NodeAt.move (Moves.below hW) _ _ hn))
  have C4 := Lib.hid (fun W (hW : Below w.heap.size w W) => map_any (n := some (.branch m kids)) (NodeAt.move (Moves.below hW) _ _ hn))
  have CKD := Lib.hid (fun c W (hW : Below w.heap.size w W) => kid_any (n := some (.branch m kids)) c (NodeAt.move (Moves.below hW) _ _ hn) (by intro m' k' e; cases e; exact ⟨hf.1, hf.2.1⟩))
  simp only [NodeAt] at hn
  obtain ⟨b, g, og, cg, rfl, _⟩ := hn
  obtain ⟨A1, c1, rfl⟩ := hp.form
  obtain ⟨A2, c2, rfl⟩ := hs.form
  obtain ⟨A3, c3, rfl⟩ := hk.form
  simp only [List.length_nil, List.length_map] at hp hk ⊢
  obtain ⟨hm32, hkl, hfl⟩ := hf
  have hmm := kindm_branch
  have HS := Lib.hid hs; have HK := Lib.hid hk; have HM32 := Lib.hid hm32; have HKL := Lib.hid hkl; have HIH := Lib.hid hih
  have hwu : IntKind.u32.wrap (m : Int) = (m : Int) := by rw [IntKind.wrap_u32]; omega
  clear hkl hfl hp hs hk hih
  go_enter Tryz.func14, Tryz.ntmps14
  go_wp2_with fail
  obtain ⟨W1, hW1⟩ : ∃ W1, (w.alloc (.cells #[.int .i64 3, .int .u64 0, .slice A1 0 c1, .slice A2 (Bw.bitsOf m).length c2, .slice A3 kids.length c3] 51)) = W1 := ⟨_, rfl⟩
  have hB1 : Below w.heap.size w W1 := by rw [<- hW1]; exact gB2
  have hs1 : w.heap.size < W1.heap.size := by rw [<- hW1]; simp
  have x0 : W1.cell? ⟨w.heap.size, 0, none⟩ = some (.int .i64 3) := by subst hW1; go_simp
  have x1 : W1.cell? ⟨w.heap.size, 1, none⟩ = some (.int .u64 0) := by subst hW1; go_simp
  have x3 : W1.cell? ⟨w.heap.size, 3, none⟩ = some (.slice A2 (Bw.bitsOf m).length c2) := by subst hW1; go_simp
  have x4 : W1.cell? ⟨w.heap.size, 4, none⟩ = some (.slice A3 kids.length c3) := by subst hW1; go_simp
  rw [hW1]
  clear hW1
  refine (C1.out _ hB1).mono ?_
  rintro e w1 ⟨rfl, rfl⟩
  simp only [hashO]
  go_wp2_with fail
  refine (C2.out _ hB1).mono ?_
  rintro e w2 ⟨r, rfl, hr, hb2⟩
  simp only [PairTold] at hr
  subst hr
  have x0 := (hb2.cell (p := ⟨w.heap.size, 0, none⟩) hs1).trans x0
  have x1 := (hb2.cell (p := ⟨w.heap.size, 1, none⟩) hs1).trans x1
  have x3 := (hb2.cell (p := ⟨w.heap.size, 3, none⟩) hs1).trans x3
  have x4 := (hb2.cell (p := ⟨w.heap.size, 4, none⟩) hs1).trans x4
  have hB2 := hB1.trans (hb2.mono hB1.size)
  have hs2 : w.heap.size < w2.heap.size := Nat.lt_of_lt_of_le hs1 hb2.size
  clear hb2
  have HB2 := Lib.hid hB2
  have hB3 : Below w2.heap.size w2 (w2.alloc (.cells #[.slice none 0 0, .slice none 0 0] 62)) := by exact gB2
  have HB3 := Lib.hid hB3
  clear hB1 hB2 hB3
  go_wp2_with fail
  refine (C3.out _ (HB2.out.trans (Below.mono (by exact gB2) HB2.out.size))).mono ?_
  rintro e w3 ⟨⟨r, rfl, ht⟩, rfl⟩
  simp only [TreeTold] at ht
  subst ht
  go_wp2_with fail
  refine (C4.out _ (HB2.out.trans (Below.mono (by exact gB2) HB2.out.size))).mono ?_
  rintro e w3 ⟨rfl, rfl⟩
  simp only [mapO]
  go_wp2_with fail
  have CK := Lib.hid (fun W => (kind_branch ⟨b, 0, none⟩ W).mono (R' := fun e w' => e = .returned (.int .i64 3) /\ w' = W) (fun _ _ h => ⟨h.1, h.2.symm⟩))
  go_quiet ((go_at_call 179; exact Calls.quiet_of_same (CK.out _)))
  go_wp2_with fail
  obtain ⟨W4, hW4⟩ : ∃ W4, (w2.alloc (.cells #[.slice none 0 0, .slice none 0 0] 62)).drewN nq = W4 := ⟨_, rfl⟩
  have hs4 : w.heap.size < W4.heap.size := by subst hW4; simp; omega
  have y3 : W4.cell? ⟨w.heap.size, 3, none⟩ = some (.slice A2 (Bw.bitsOf m).length c2) := by subst hW4; go_simp
  have y4 : W4.cell? ⟨w.heap.size, 4, none⟩ = some (.slice A3 kids.length c3) := by subst hW4; go_simp
  have HB4 : Hid (Below w.heap.size w W4) := Lib.hid (by subst hW4; exact HB2.out.trans (Below.mono (b_drewN HB3.out _) HB2.out.size))
  rw [hW4]
  clear hW4 x0 x1 x3 x4
  refine (rnumber_any HM32.out (HS.out.move goodNat (Moves.below HB4.out))).mono ?_
  rintro e w4 ⟨rfl, rfl⟩
  go_wp2_with fail
  have HY : Hid (∀ W, Below w4.heap.size w4 W -> W.cell? ⟨w.heap.size, 3, none⟩ = some (.slice A2 (Bw.bitsOf m).length c2) /\ W.cell? ⟨w.heap.size, 4, none⟩ = some (.slice A3 kids.length c3)) := Lib.hid fun W hW => ⟨(hW.cell (p := ⟨w.heap.size, 3, none⟩) hs4).trans y3, (hW.cell (p := ⟨w.heap.size, 4, none⟩) hs4).trans y4⟩
  have H0 : Hid (SmRel2 w4 (.int .i64 (-1)) w4) := Lib.hid ⟨0, by omega, rfl, Below.refl _ _⟩
  clear y3 y4 hwu
  go_loopw [13] (SmRel2 w4) (fun i _ => (33 - intOf i).toNat)
  case atStart => exact H0.out
  case round =>
    obtain ⟨j, hj, rfl, hB⟩ := hrel
    have HB := Lib.hid hB
    have HBW := Lib.hid (HB4.out.trans (hB.mono HB4.out.size))
    clear hB
    obtain ⟨c, hc⟩ : ∃ c : Int, c = (j : Int) - 1 := ⟨_, rfl⟩
    rw [<- hc]
    by_cases hlt : j < 34
    · have h33 : c < 33 := by omega
      have HCC := Lib.hid hc
      have HLT := Lib.hid hlt
      have hw1 : IntKind.i64.wrap (c + 1) = c + 1 := by rw [IntKind.wrap_i64]; omega
      clear hlt hc hj
      go_wp2_with fail
      refine (CKD.out c wr HBW.out).mono ?_
      rintro e w5 ⟨⟨r, rfl, hr⟩, n5, rfl⟩
      obtain ⟨W5, hW5⟩ : ∃ W5, wr.drewN n5 = W5 := ⟨_, rfl⟩
      have HB5 : Hid (Below w4.heap.size w4 W5) := Lib.hid (by rw [<- hW5]; exact b_drewN HB.out _)
      have HM5 : Hid (Moves AllB AllB wr W5) := Lib.hid (by rw [<- hW5]; exact Moves.drewN _ _)
      rw [hW5]
      clear hW5
      simp only [KidTold] at hr
      obtain ⟨y3, y4⟩ := HY.out W5 HB5.out
      have hs5 : w.heap.size < W5.heap.size := Nat.lt_of_lt_of_le hs4 HB5.out.size
      have HBW5 := Lib.hid (HB4.out.trans (HB5.out.mono HB4.out.size))
      by_cases hin : 0 <= c /\ c < 32 /\ m.testBit c.toNat = true
      · rw [if_pos hin] at hr
        obtain ⟨u, k, rfl, hk, hu⟩ := hr
        obtain ⟨t0, b0, rfl⟩ := hu.form
        have HU := Lib.hid (hu.move HM5.out)
        have HKK := Lib.hid hk
        have HIN := Lib.hid hin
        clear hk hu hin
        go_wp2_with fail
        go_loopw [16, 177] (AtRel (Bw.bitsOf m) c W5) (fun _ i _ => (Bw.bitsOf m).length - (intOf i).toNat)
        case atStart => exact ⟨0, -1, Nat.zero_le _, rfl, rfl, .inl ⟨rfl, by simp⟩, rfl⟩
        case round =>
          obtain ⟨i, at_, hi, rfl, rfl, hat, rfl⟩ := hrel
          by_cases hil : i < (Bw.bitsOf m).length
          · obtain ⟨bs, os, cs, rfl, rfl, hcs⟩ := HS.out.get (List.getElem?_eq_getElem hil)
            have e0 := (hcs 0 _ rfl).2
            simp only [Nat.mul_one, Nat.add_zero, encN] at e0
            have hble := World.block_lt_of_cell? w _ e0
            dsimp only at hble
            have e1 := (HBW5.out.cell (p := ⟨bs, os + i, none⟩) hble).trans e0
            have hble2 : bs < W5.heap.size := Nat.lt_of_lt_of_le hble HBW5.out.size
            have g0 : (0 : Int) <= (i : Int) := by omega
            have g1 : (i : Int) < ((Bw.bitsOf m).length : Int) := by omega
            have HAT := Lib.hid hat
            have hb32 : (Bw.bitsOf m).length <= 1048576 := Nat.le_trans (List.length_filter_le _ _) (by simp)
            have HB32 := Lib.hid hb32
            have HX : Hid ((Bw.bitsOf m)[i]? = some ((Bw.bitsOf m)[i])) := Lib.hid (List.getElem?_eq_getElem hil)
            generalize (Bw.bitsOf m)[i] = x at *
            clear hcs e0 hat hb32
            by_cases hxc : (x : Int) = c
            · have hbe : ((x : Int) == c) = true := by rw [hxc]; exact beq_self_eq_true _
              have HXC := Lib.hid hxc
              clear hxc
              go_wp2
              exact ⟨⟨i + 1, i, hil, rfl, int_succ hil HB32.out, .inr ⟨i, Nat.lt_succ_self _, rfl, x, HX.out, HXC.out⟩, rfl⟩, less_succ hil HB32.out⟩
            · have hbe : ((x : Int) == c) = false := beq_eq_false_iff_ne.2 hxc
              have HXC := Lib.hid hxc
              clear hxc
              go_wp2
              exact ⟨⟨i + 1, at_, hil, rfl, int_succ hil HB32.out, at_step HAT.out HX.out HXC.out, rfl⟩, less_succ hil HB32.out⟩
          · obtain rfl : i = (Bw.bitsOf m).length := by omega
            clear hil
            obtain ⟨hatv, hlenk⟩ := same_at_in HIN.out hat
            subst hatv
            have hjk := HKK.out
            have hxk : (kids.map Bw.N.abs)[Bw.ones c.toNat m]? = some k.abs := by rw [List.getElem?_map, hjk]; rfl
            obtain ⟨bk, ob, cs, rfl, hy, hcells⟩ := HK.out.get hxk
            have hmem : k ∈ kids := List.mem_of_getElem? hjk
            have CS := Lib.hid (HIH.out k hmem _ cs W5 HBW5.out HU.out (XAt.move (Moves.below HBW5.out) _ _ hy))
            have hpl : (Bw.ones c.toNat m : Nat) < kids.length := by rw [HKL.out]; exact hlenk
            generalize k.abs = y at *
            obtain ⟨yk, yh, yp, ys, yy⟩ := y
            rw [xK_iff] at hy
            obtain ⟨yvp, yvs, yvk, rfl, q1, q2, q3⟩ := hy
            obtain ⟨B1, e1, rfl⟩ := q1.form
            obtain ⟨B2, e2, rfl⟩ := q2.form
            obtain ⟨B3, e3, rfl⟩ := q3.form
            have z0 := (hcells 0 _ rfl).2; have z1 := (hcells 1 _ rfl).2; have z2 := (hcells 2 _ rfl).2; have z3 := (hcells 3 _ rfl).2; have z4 := (hcells 4 _ rfl).2
            have hblk := World.block_lt_of_cell? w _ z0
            dsimp only at hblk
            generalize Bw.ones c.toNat m = pl at *
            have d0 := (HBW5.out.cell (p := ⟨bk, ob + (pl * 5 + 0), none⟩) hblk).trans z0
            have d1 := (HBW5.out.cell (p := ⟨bk, ob + (pl * 5 + 1), none⟩) hblk).trans z1
            have d2 := (HBW5.out.cell (p := ⟨bk, ob + (pl * 5 + 2), none⟩) hblk).trans z2
            have d3 := (HBW5.out.cell (p := ⟨bk, ob + (pl * 5 + 3), none⟩) hblk).trans z3
            have d4 := (HBW5.out.cell (p := ⟨bk, ob + (pl * 5 + 4), none⟩) hblk).trans z4
            simp only [Nat.add_zero, <- Nat.add_assoc] at d0 d1 d2 d3 d4
            have hblk5 : bk < W5.heap.size := Nat.lt_of_lt_of_le hblk HBW5.out.size
            have p0 : (0 : Int) <= (pl : Int) := by omega
            have p1 : (pl : Int) < (kids.length : Int) := by omega
            clear z0 z1 z2 z3 z4 hcells hjk hxk hmem q1 q2 q3 hat hpl hlenk HK HKK
            go_wp2_with fail
            refine CS.out.mono ?_
            rintro e w6 ⟨rfl, hb6⟩
            have HB6 := Lib.hid (HB5.out.trans (hb6.mono HB5.out.size))
            clear hb6
            go_wp2
            exact ⟨⟨j + 1, by have := HLT.out; omega, by rw [HCC.out]; congr 1; omega, HB6.out⟩, by simp only [intOf]; omega⟩
      · rw [if_neg hin] at hr
        subst hr
        have HIN := Lib.hid hin
        clear hin
        go_wp2_with fail
        go_loopw [16, 177] (AtRel (Bw.bitsOf m) c W5) (fun _ i _ => (Bw.bitsOf m).length - (intOf i).toNat)
        case atStart => exact ⟨0, -1, Nat.zero_le _, rfl, rfl, .inl ⟨rfl, by simp⟩, rfl⟩
        case round =>
          obtain ⟨i, at_, hi, rfl, rfl, hat, rfl⟩ := hrel
          by_cases hil : i < (Bw.bitsOf m).length
          · obtain ⟨bs, os, cs, rfl, rfl, hcs⟩ := HS.out.get (List.getElem?_eq_getElem hil)
            have e0 := (hcs 0 _ rfl).2
            simp only [Nat.mul_one, Nat.add_zero, encN] at e0
            have hble := World.block_lt_of_cell? w _ e0
            dsimp only at hble
            have e1 := (HBW5.out.cell (p := ⟨bs, os + i, none⟩) hble).trans e0
            have hble2 : bs < W5.heap.size := Nat.lt_of_lt_of_le hble HBW5.out.size
            have g0 : (0 : Int) <= (i : Int) := by omega
            have g1 : (i : Int) < ((Bw.bitsOf m).length : Int) := by omega
            have HAT := Lib.hid hat
            have hb32 : (Bw.bitsOf m).length <= 1048576 := Nat.le_trans (List.length_filter_le _ _) (by simp)
            have HB32 := Lib.hid hb32
            have HX : Hid ((Bw.bitsOf m)[i]? = some ((Bw.bitsOf m)[i])) := Lib.hid (List.getElem?_eq_getElem hil)
            generalize (Bw.bitsOf m)[i] = x at *
            clear hcs e0 hat hb32
            by_cases hxc : (x : Int) = c
            · have hbe : ((x : Int) == c) = true := by rw [hxc]; exact beq_self_eq_true _
              have HXC := Lib.hid hxc
              clear hxc
              go_wp2
              exact ⟨⟨i + 1, i, hil, rfl, int_succ hil HB32.out, .inr ⟨i, Nat.lt_succ_self _, rfl, x, HX.out, HXC.out⟩, rfl⟩, less_succ hil HB32.out⟩
            · have hbe : ((x : Int) == c) = false := beq_eq_false_iff_ne.2 hxc
              have HXC := Lib.hid hxc
              clear hxc
              go_wp2
              exact ⟨⟨i + 1, at_, hil, rfl, int_succ hil HB32.out, at_step HAT.out HX.out HXC.out, rfl⟩, less_succ hil HB32.out⟩
          · obtain rfl : i = (Bw.bitsOf m).length := by omega
            clear hil
            obtain rfl := same_at_out HIN.out hat
            clear hat
            go_wp2
            exact ⟨⟨j + 1, by have := HLT.out; omega, by rw [HCC.out]; congr 1; omega, HB5.out⟩, by simp only [intOf]; omega⟩
    · have h33 : ¬ c < 33 := by omega
      clear hlt hc
      go_wp2
      go_ret
      exact ⟨rfl, HBW.out⟩
theorem same_any (n : Bw.N) : ∀ (nv : Value) (cs : List Value) (w : World), NodeAt nt AllB w nv n -> xK AllB w n.abs cs -> n.fit ->
    Calls Tryz.prog 14 #[nv, .agg cs.toArray] w fun e w' => e = .returned (.bool true) /\ Below w.heap.size w w' := by
  refine Bw.N.ind (P := fun n => ∀ (nv : Value) (cs : List Value) (w : World), NodeAt nt AllB w nv n -> xK AllB w n.abs cs -> n.fit ->
    Calls Tryz.prog 14 #[nv, .agg cs.toArray] w fun e w' => e = .returned (.bool true) /\ Below w.heap.size w w') ?_ ?_ ?_ n
  · intro h p nv cs w hn hx hf
    obtain ⟨vp, vs, vk, rfl, h1, h2, h3⟩ := xK_iff.1 hx
    exact same_leaf hn h1 h2 h3 hf
  · intro h t nv cs w hn hx hf
    obtain ⟨vp, vs, vk, rfl, h1, h2, h3⟩ := xK_iff.1 hx
    exact same_bucket hn h1 h2 h3 hf
  · intro m kids ih nv cs w hn hx hf
    obtain ⟨vp, vs, vk, rfl, h1, h2, h3⟩ := xK_iff.1 hx
    rw [Bw.N.absL_eq] at h3
    refine same_branch hn h1 h2 h3 hf fun k hk nv cs W _ hn hx => ih k hk nv cs W hn hx ?_
    have := hf
    simp only [Bw.N.fit, Bw.N.fitL_iff] at this
    exact this.2.2 k hk
theorem sameO_any {o : Option Bw.N} {nv : Value} {cs : List Value} {w : World} (hn : ONodeAt nt AllB w nv o) (hx : xK AllB w (Bw.absO o) cs) (hf : ∀ n, o = some n -> n.fit) :
    Calls Tryz.prog 14 #[nv, .agg cs.toArray] w fun e w' => e = .returned (.bool true) /\ Below w.heap.size w w' := by
  cases o with
  | none =>
    simp only [ONodeAt] at hn
    subst hn
    obtain ⟨vp, vs, vk, rfl, h1, h2, h3⟩ := xK_iff.1 hx
    obtain ⟨A1, c1, rfl⟩ := h1.form
    obtain ⟨A2, c2, rfl⟩ := h2.form
    obtain ⟨A3, c3, rfl⟩ := h3.form
    exact same_none A1 A2 A3 c1 c2 c3 w
  | some n => exact same_any n nv cs w hn hx (hf n rfl)
end Go.Proofs.YtadaoceidkagfaaGreatDoor
