
import Derived.Test.YtadaoceidkagfaaGreatDoorTrieT
import Derived.Test.YtadaoceidkagfaaGreatDoorFineT
import Derived.Deep.RegionHeld3
/- law21.step: what each call asks and leaves. -/
namespace Go.Proofs.YtadaoceidkagfaaGreatDoor
open Go.RowKit Go.Bw
structure StepIn (ok okb : Nat -> Prop) (mb : Option Nat) (s : List UInt8) (m : List Bw.PV) (o : Option Bw.N) (p : Bw.PV) (c : Nat × Nat) (w : World) (nv xv u1 u2 mv : Value) : Prop where
  seed : s.length = 16
  map : MapOk m
  node : ONodeAt nt ok w nv o
  lays : Bw.OLays 0 o (Bw.ents (Bw.sipHash s) m)
  row : SPairsAt ok w xv m
  b1 : BytesAt okb w u1 p.1
  b2 : BytesAt okb w u2 p.2
  p1 : p.1.length <= 1048576
  p2 : p.2.length <= 1048576
  meter : MeterAt w mv c mb
  hokm : ∀ k, ok k -> some k ≠ mb
  hokb : ∀ k, okb k -> some k ≠ mb
  hmt : some 2 ≠ mb
  hok : ∀ k, w.heap.size <= k -> ok k
  tab : Tab w
  sta : Sta w
  c1 : c.1 < 1000000000
  c2 : c.2 < 1000000000
def StepEnds (ok : Nat -> Prop) (mb : Option Nat) (s : List UInt8) (m m' : List Bw.PV) (c : Nat × Nat) (w : World) (mv : Value) (e : Ending) (w' : World) : Prop :=
  ∃ nv' o' xv' cv cc, e = .returned (.tuple #[trieV s nv', xv', .bool true]) /\ ONodeAt nt ok w' nv' o' /\ Bw.OLays 0 o' (Bw.ents (Bw.sipHash s) m') /\ SPairsAt ok w' xv' m' /\
    MeterAt w' mv (c.1 + cv, c.2 + cc) mb /\ cc <= cv /\ (∀ L : Nat, (m.length + 1) ^ 6 < 2 ^ L -> cv <= 13 + L) /\ Turns w w' mb
theorem rng17 {W : World} {B : Nat} {a0 a1 a2 a3 a4 a5 a6 a7 a8 a9 aA aB aC aD aE aF : UInt8} {nv : Value} {t : TypeId} (h : W.heap[B]? = some (.cells #[.int .u8 (a0.toNat : Nat), .int .u8 (a1.toNat : Nat), .int .u8 (a2.toNat : Nat), .int .u8 (a3.toNat : Nat), .int .u8 (a4.toNat : Nat), .int .u8 (a5.toNat : Nat), .int .u8 (a6.toNat : Nat), .int .u8 (a7.toNat : Nat), .int .u8 (a8.toNat : Nat), .int .u8 (a9.toNat : Nat), .int .u8 (aA.toNat : Nat), .int .u8 (aB.toNat : Nat), .int .u8 (aC.toNat : Nat), .int .u8 (aD.toNat : Nat), .int .u8 (aE.toNat : Nat), .int .u8 (aF.toNat : Nat), nv] t (0, 0))) : W.rangeAt B 0 [.int .u8 (a0.toNat : Nat), .int .u8 (a1.toNat : Nat), .int .u8 (a2.toNat : Nat), .int .u8 (a3.toNat : Nat), .int .u8 (a4.toNat : Nat), .int .u8 (a5.toNat : Nat), .int .u8 (a6.toNat : Nat), .int .u8 (a7.toNat : Nat), .int .u8 (a8.toNat : Nat), .int .u8 (a9.toNat : Nat), .int .u8 (aA.toNat : Nat), .int .u8 (aB.toNat : Nat), .int .u8 (aC.toNat : Nat), .int .u8 (aD.toNat : Nat), .int .u8 (aE.toNat : Nat), .int .u8 (aF.toNat : Nat), nv] := fun j v hv =>
  match j, hv with
  | 0, hv => ((cell_of_row W B 0 _ t (0, 0) h).trans rfl).trans hv
  | 1, hv => ((cell_of_row W B 1 _ t (0, 0) h).trans rfl).trans hv
  | 2, hv => ((cell_of_row W B 2 _ t (0, 0) h).trans rfl).trans hv
  | 3, hv => ((cell_of_row W B 3 _ t (0, 0) h).trans rfl).trans hv
  | 4, hv => ((cell_of_row W B 4 _ t (0, 0) h).trans rfl).trans hv
  | 5, hv => ((cell_of_row W B 5 _ t (0, 0) h).trans rfl).trans hv
  | 6, hv => ((cell_of_row W B 6 _ t (0, 0) h).trans rfl).trans hv
  | 7, hv => ((cell_of_row W B 7 _ t (0, 0) h).trans rfl).trans hv
  | 8, hv => ((cell_of_row W B 8 _ t (0, 0) h).trans rfl).trans hv
  | 9, hv => ((cell_of_row W B 9 _ t (0, 0) h).trans rfl).trans hv
  | 10, hv => ((cell_of_row W B 10 _ t (0, 0) h).trans rfl).trans hv
  | 11, hv => ((cell_of_row W B 11 _ t (0, 0) h).trans rfl).trans hv
  | 12, hv => ((cell_of_row W B 12 _ t (0, 0) h).trans rfl).trans hv
  | 13, hv => ((cell_of_row W B 13 _ t (0, 0) h).trans rfl).trans hv
  | 14, hv => ((cell_of_row W B 14 _ t (0, 0) h).trans rfl).trans hv
  | 15, hv => ((cell_of_row W B 15 _ t (0, 0) h).trans rfl).trans hv
  | 16, hv => ((cell_of_row W B 16 _ t (0, 0) h).trans rfl).trans hv
  | n + 17, hv => by simp at hv
theorem one_le_L {n L : Nat} (h : (n + 1) ^ 6 < 2 ^ L) : 1 <= L := by
  rcases Nat.eq_zero_or_pos L with rfl | h1
  · have : 1 <= (n + 1) ^ 6 := Nat.one_le_pow _ _ (Nat.succ_pos _)
    rw [Nat.pow_zero] at h
    omega
  · exact h1
set_option maxRecDepth 100000 in
set_option maxHeartbeats 4000000 in
theorem step_none {ok okb : Nat -> Prop} {mb : Option Nat} {s : List UInt8} {m : List Bw.PV} {o : Option Bw.N} {p : Bw.PV} {c : Nat × Nat} {w : World} {nv xv u1 u2 mv : Value} (H : StepIn ok okb mb s m o p c w nv xv u1 u2 mv) {kd : Int} (h1 : kd ≠ 1) (h2 : kd ≠ 2) (h3 : kd ≠ 3) :
    Calls Tryz.prog 10 #[trieV s nv, xv, .agg #[.int .i64 kd, u1, u2], mv] w (StepEnds ok mb s m m c w mv) := by
  obtain ⟨X, cx, rfl⟩ := H.row.form
  obtain ⟨U, cu, rfl⟩ := H.b1.form
  obtain ⟨V, cv, rfl⟩ := H.b2.form
  obtain ⟨AM, rfl⟩ := H.meter.form
  obtain ⟨a0, a1, a2, a3, a4, a5, a6, a7, a8, a9, aA, aB, aC, aD, aE, aF, hs16⟩ := mapE16 H.seed
  have htv : ∀ x, trieV s x = .agg #[.int .u8 (a0.toNat : Nat), .int .u8 (a1.toNat : Nat), .int .u8 (a2.toNat : Nat), .int .u8 (a3.toNat : Nat), .int .u8 (a4.toNat : Nat), .int .u8 (a5.toNat : Nat), .int .u8 (a6.toNat : Nat), .int .u8 (a7.toNat : Nat), .int .u8 (a8.toNat : Nat), .int .u8 (a9.toNat : Nat), .int .u8 (aA.toNat : Nat), .int .u8 (aB.toNat : Nat), .int .u8 (aC.toNat : Nat), .int .u8 (aD.toNat : Nat), .int .u8 (aE.toNat : Nat), .int .u8 (aF.toNat : Nat), x] := fun x => by rw [hs16]; rfl
  rw [htv]
  have HTV := Lib.hid htv
  have HML : Hid (∀ k, mb = some k -> k < w.heap.size) := Lib.hid fun k e => by subst e; exact H.meter.lt
  obtain ⟨W0, hW0⟩ : ∃ W0, ((w.alloc (.cells #[.int .u8 (a0.toNat : Nat), .int .u8 (a1.toNat : Nat), .int .u8 (a2.toNat : Nat), .int .u8 (a3.toNat : Nat), .int .u8 (a4.toNat : Nat), .int .u8 (a5.toNat : Nat), .int .u8 (a6.toNat : Nat), .int .u8 (a7.toNat : Nat), .int .u8 (a8.toNat : Nat), .int .u8 (a9.toNat : Nat), .int .u8 (aA.toNat : Nat), .int .u8 (aB.toNat : Nat), .int .u8 (aC.toNat : Nat), .int .u8 (aD.toNat : Nat), .int .u8 (aE.toNat : Nat), .int .u8 (aF.toNat : Nat), nv] 30)).alloc (.cells #[.int .i64 kd, .slice U p.1.length cu, .slice V p.2.length cv] 35)).alloc (.cells #[.int .u8 0, .int .u8 0, .int .u8 0, .int .u8 0, .int .u8 0, .int .u8 0, .int .u8 0, .int .u8 0, .int .u8 0, .int .u8 0, .int .u8 0, .int .u8 0, .int .u8 0, .int .u8 0, .int .u8 0, .int .u8 0, .nilIface] 30) = W0 := ⟨_, rfl⟩
  have hB0 : Below w.heap.size w W0 := by rw [<- hW0]; exact gB3
  have hs0 : W0.heap.size = w.heap.size + 3 := by rw [<- hW0]; simp
  have hb0 : W0.heap[w.heap.size]? = some (.cells #[.int .u8 (a0.toNat : Nat), .int .u8 (a1.toNat : Nat), .int .u8 (a2.toNat : Nat), .int .u8 (a3.toNat : Nat), .int .u8 (a4.toNat : Nat), .int .u8 (a5.toNat : Nat), .int .u8 (a6.toNat : Nat), .int .u8 (a7.toNat : Nat), .int .u8 (a8.toNat : Nat), .int .u8 (a9.toNat : Nat), .int .u8 (aA.toNat : Nat), .int .u8 (aB.toNat : Nat), .int .u8 (aC.toNat : Nat), .int .u8 (aD.toNat : Nat), .int .u8 (aE.toNat : Nat), .int .u8 (aF.toNat : Nat), nv] 30 (0, 0)) := by rw [<- hW0]; exact (heap_alloc_old _ _ (by simp; omega)).trans ((heap_alloc_old _ _ (by simp)).trans (heap_alloc_new w _))
  have hb1 : W0.heap[w.heap.size + 1]? = some (.cells #[.int .i64 kd, .slice U p.1.length cu, .slice V p.2.length cv] 35 (0, 0)) := by rw [<- hW0]; refine (heap_alloc_old _ _ (by simp)).trans ?_; have := heap_alloc_new (w.alloc (.cells #[.int .u8 (a0.toNat : Nat), .int .u8 (a1.toNat : Nat), .int .u8 (a2.toNat : Nat), .int .u8 (a3.toNat : Nat), .int .u8 (a4.toNat : Nat), .int .u8 (a5.toNat : Nat), .int .u8 (a6.toNat : Nat), .int .u8 (a7.toNat : Nat), .int .u8 (a8.toNat : Nat), .int .u8 (a9.toNat : Nat), .int .u8 (aA.toNat : Nat), .int .u8 (aB.toNat : Nat), .int .u8 (aC.toNat : Nat), .int .u8 (aD.toNat : Nat), .int .u8 (aE.toNat : Nat), .int .u8 (aF.toNat : Nat), nv] 30)) (.cells #[.int .i64 kd, .slice U p.1.length cu, .slice V p.2.length cv] 35); simpa using this
  have hb2 : W0.heap[w.heap.size + 1 + 1]? = some (.cells #[.int .u8 0, .int .u8 0, .int .u8 0, .int .u8 0, .int .u8 0, .int .u8 0, .int .u8 0, .int .u8 0, .int .u8 0, .int .u8 0, .int .u8 0, .int .u8 0, .int .u8 0, .int .u8 0, .int .u8 0, .int .u8 0, .nilIface] 30 (0, 0)) := by rw [<- hW0]; have := heap_alloc_new ((w.alloc (.cells #[.int .u8 (a0.toNat : Nat), .int .u8 (a1.toNat : Nat), .int .u8 (a2.toNat : Nat), .int .u8 (a3.toNat : Nat), .int .u8 (a4.toNat : Nat), .int .u8 (a5.toNat : Nat), .int .u8 (a6.toNat : Nat), .int .u8 (a7.toNat : Nat), .int .u8 (a8.toNat : Nat), .int .u8 (a9.toNat : Nat), .int .u8 (aA.toNat : Nat), .int .u8 (aB.toNat : Nat), .int .u8 (aC.toNat : Nat), .int .u8 (aD.toNat : Nat), .int .u8 (aE.toNat : Nat), .int .u8 (aF.toNat : Nat), nv] 30)).alloc (.cells #[.int .i64 kd, .slice U p.1.length cu, .slice V p.2.length cv] 35)) (.cells #[.int .u8 0, .int .u8 0, .int .u8 0, .int .u8 0, .int .u8 0, .int .u8 0, .int .u8 0, .int .u8 0, .int .u8 0, .int .u8 0, .int .u8 0, .int .u8 0, .int .u8 0, .int .u8 0, .int .u8 0, .int .u8 0, .nilIface] 30); simpa using this
  have hwm : ∀ k, w.heap.size <= k -> some k ≠ mb := fun k hk e => by have := HML.out k e.symm; omega
  have SB : Hid (∀ W, Turns W0 W mb -> W.heap[w.heap.size]? = some (.cells #[.int .u8 (a0.toNat : Nat), .int .u8 (a1.toNat : Nat), .int .u8 (a2.toNat : Nat), .int .u8 (a3.toNat : Nat), .int .u8 (a4.toNat : Nat), .int .u8 (a5.toNat : Nat), .int .u8 (a6.toNat : Nat), .int .u8 (a7.toNat : Nat), .int .u8 (a8.toNat : Nat), .int .u8 (a9.toNat : Nat), .int .u8 (aA.toNat : Nat), .int .u8 (aB.toNat : Nat), .int .u8 (aC.toNat : Nat), .int .u8 (aD.toNat : Nat), .int .u8 (aE.toNat : Nat), .int .u8 (aF.toNat : Nat), nv] 30 (0, 0)) /\ W.heap[w.heap.size + 1]? = some (.cells #[.int .i64 kd, .slice U p.1.length cu, .slice V p.2.length cv] 35 (0, 0)) /\ W.heap[w.heap.size + 1 + 1]? = some (.cells #[.int .u8 0, .int .u8 0, .int .u8 0, .int .u8 0, .int .u8 0, .int .u8 0, .int .u8 0, .int .u8 0, .int .u8 0, .int .u8 0, .int .u8 0, .int .u8 0, .int .u8 0, .int .u8 0, .int .u8 0, .int .u8 0, .nilIface] 30 (0, 0))) :=
    Lib.hid fun W hW => ⟨(hW.block w.heap.size (by omega) (hwm _ (Nat.le_refl _))).trans hb0, (hW.block (w.heap.size + 1) (by omega) (hwm _ (by omega))).trans hb1, (hW.block (w.heap.size + 1 + 1) (by omega) (hwm _ (by omega))).trans hb2⟩
  have SO : Hid (∀ W, Turns W0 W mb -> W.cell? ⟨w.heap.size + 1, 0, none⟩ = some (.int .i64 kd) /\ W.cell? ⟨w.heap.size + 1, 1, none⟩ = some (.slice U p.1.length cu) /\ W.cell? ⟨w.heap.size + 1, 2, none⟩ = some (.slice V p.2.length cv)) :=
    Lib.hid fun W hW => ⟨(cell_of_row W (w.heap.size + 1) 0 _ _ (0, 0) (SB.out W hW).2.1).trans rfl, (cell_of_row W (w.heap.size + 1) 1 _ _ (0, 0) (SB.out W hW).2.1).trans rfl, (cell_of_row W (w.heap.size + 1) 2 _ _ (0, 0) (SB.out W hW).2.1).trans rfl⟩
  have q1 := run_conv (P := Tryz.prog) 33 9 5 Tryz.underlying33 Tryz.underlying5 Tryz.underlying9 (H.b1.move goodByte (Moves.below hB0))
  have CG := Lib.hid (rget_any (ok := ok) (key := p.1) (m := m) (w := W0) (Nat.le_trans H.map.len (by decide)) (H.row.move goodSp (Moves.below hB0)))
  simp only [getV, str] at CG
  have HB0 := Lib.hid hB0
  have HS0 : Hid (w.heap.size + 3 <= W0.heap.size) := Lib.hid (by omega)
  obtain ⟨okf, hokf⟩ : ∃ okf : Nat -> Prop, okf = fun k => ok k /\ k ≠ w.heap.size + 1 + 1 := ⟨_, rfl⟩
  have hwo : Moves ok okf w w := Moves.weaken fun k hk hl => by rw [hokf]; exact ⟨hk, by omega⟩
  have hfm : ∀ k, okf k -> some k ≠ mb := fun k hk => by rw [hokf] at hk; exact H.hokm k hk.1
  have hfs : ∀ W, Below W0.heap.size W0 W -> ∀ k, W.heap.size <= k -> okf k := fun W hW k hk => by have := hW.size; rw [hokf]; exact ⟨H.hok k (by omega), by omega⟩
  have HFO : Hid (∀ (W : World) (cs : List Value), Moves okf ok W (W.setCells (w.heap.size + 1 + 1) 0 cs)) := Lib.hid fun W cs k hk _ => by rw [hokf] at hk; exact ⟨hk.1, World.other_setCells hk.2 cs 0 W⟩
  have hnf := onode_form H.node
  have k1 : (kd == 1) = false := beq_eq_false_iff_ne.2 h1
  have k2 : (kd == 2) = false := beq_eq_false_iff_ne.2 h2
  have k3 : (kd == 3) = false := beq_eq_false_iff_ne.2 h3
  have HH := Lib.hid H
  clear hB0 hs0 hb0 hb1 hb2 hwm hs16 htv h1 h2 h3 H hokf hwo hfm hfs HFO
  rcases hnf with rfl | ⟨tn, bn, rfl⟩
  ·
    have hTb := Turns.refl W0 mb
    obtain ⟨y0, y1, y2⟩ := SO.out W0 hTb
    go_enter Tryz.func10, Tryz.ntmps10
    go_wp2_with (first
      | ((go_at_call 17; (with_reducible refine CG.out.mono ?_); rintro e w1 ⟨rfl, hb1⟩; have hT1 : Turns W0 w1 mb := Turns.of_below _ hb1; obtain ⟨z0, z1, z2⟩ := SO.out w1 hT1); have HR1 := Lib.hid (rng17 (SB.out w1 hT1).1); have HTH := Lib.hid (there_of (SB.out w1 hT1).2.2 (n := 17) rfl); obtain ⟨WS, hWS⟩ : ∃ WS, w1.setCells (w.heap.size + 1 + 1) 0 [.int .u8 (a0.toNat : Nat), .int .u8 (a1.toNat : Nat), .int .u8 (a2.toNat : Nat), .int .u8 (a3.toNat : Nat), .int .u8 (a4.toNat : Nat), .int .u8 (a5.toNat : Nat), .int .u8 (a6.toNat : Nat), .int .u8 (a7.toNat : Nat), .int .u8 (a8.toNat : Nat), .int .u8 (a9.toNat : Nat), .int .u8 (aA.toNat : Nat), .int .u8 (aB.toNat : Nat), .int .u8 (aC.toNat : Nat), .int .u8 (aD.toNat : Nat), .int .u8 (aE.toNat : Nat), .int .u8 (aF.toNat : Nat), .nilIface] = WS := ⟨_, rfl⟩; have HWS := Lib.hid hWS; clear hWS)
      | (refine wpList_load_mid (P := Tryz.prog) rfl 30 (.tmp 4) rfl (w.heap.size) 0 rfl [.int .u8 (a0.toNat : Nat), .int .u8 (a1.toNat : Nat), .int .u8 (a2.toNat : Nat), .int .u8 (a3.toNat : Nat), .int .u8 (a4.toNat : Nat), .int .u8 (a5.toNat : Nat), .int .u8 (a6.toNat : Nat), .int .u8 (a7.toNat : Nat), .int .u8 (a8.toNat : Nat), .int .u8 (a9.toNat : Nat), .int .u8 (aA.toNat : Nat), .int .u8 (aB.toNat : Nat), .int .u8 (aC.toNat : Nat), .int .u8 (aD.toNat : Nat), .int .u8 (aE.toNat : Nat), .int .u8 (aF.toNat : Nat), .nilIface] _ HR1.out Tryz.underlying30 rfl (trie_len a0 a1 a2 a3 a4 a5 a6 a7 a8 a9 aA aB aC aD aE aF _) ?_; simp only [Act.put, List.setIfInBounds_toArray, List.set_cons_zero, List.set_cons_succ])
      | (refine wpList_store_mid (P := Tryz.prog) rfl 30 (.tmp 8) (.tmp 93) rfl (w.heap.size + 1 + 1) 0 #[.int .u8 (a0.toNat : Nat), .int .u8 (a1.toNat : Nat), .int .u8 (a2.toNat : Nat), .int .u8 (a3.toNat : Nat), .int .u8 (a4.toNat : Nat), .int .u8 (a5.toNat : Nat), .int .u8 (a6.toNat : Nat), .int .u8 (a7.toNat : Nat), .int .u8 (a8.toNat : Nat), .int .u8 (a9.toNat : Nat), .int .u8 (aA.toNat : Nat), .int .u8 (aB.toNat : Nat), .int .u8 (aC.toNat : Nat), .int .u8 (aD.toNat : Nat), .int .u8 (aE.toNat : Nat), .int .u8 (aF.toNat : Nat), .nilIface] rfl rfl HTH.out trie_size (one17 a0 a1 a2 a3 a4 a5 a6 a7 a8 a9 aA aB aC aD aE aF rfl) ?_; simp only [HWS.out, Act.put]))
    have hb1w := HB0.out.trans (hb1.mono HB0.out.size)
    have hbX : Below w.heap.size w1 WS := by rw [<- HWS.out]; exact World.below_setCells (by omega) _ _ _ (Below.refl _ _)
    have hTX : WS.rangeAt (w.heap.size + 1 + 1) 0 [.int .u8 (a0.toNat : Nat), .int .u8 (a1.toNat : Nat), .int .u8 (a2.toNat : Nat), .int .u8 (a3.toNat : Nat), .int .u8 (a4.toNat : Nat), .int .u8 (a5.toNat : Nat), .int .u8 (a6.toNat : Nat), .int .u8 (a7.toNat : Nat), .int .u8 (a8.toNat : Nat), .int .u8 (a9.toNat : Nat), .int .u8 (aA.toNat : Nat), .int .u8 (aB.toNat : Nat), .int .u8 (aC.toNat : Nat), .int .u8 (aD.toNat : Nat), .int .u8 (aE.toNat : Nat), .int .u8 (aF.toNat : Nat), .nilIface] := by rw [<- HWS.out]; exact World.rangeAt_setCells_same _ _ _ _ HTH.out
    have hbw : Below w.heap.size w WS := hb1w.trans hbX
    exact bodyPost_ret (results_row3 (cs := [.int .u8 (a0.toNat : Nat), .int .u8 (a1.toNat : Nat), .int .u8 (a2.toNat : Nat), .int .u8 (a3.toNat : Nat), .int .u8 (a4.toNat : Nat), .int .u8 (a5.toNat : Nat), .int .u8 (a6.toNat : Nat), .int .u8 (a7.toNat : Nat), .int .u8 (a8.toNat : Nat), .int .u8 (a9.toNat : Nat), .int .u8 (aA.toNat : Nat), .int .u8 (aB.toNat : Nat), .int .u8 (aC.toNat : Nat), .int .u8 (aD.toNat : Nat), .int .u8 (aE.toNat : Nat), .int .u8 (aF.toNat : Nat), .nilIface]) rfl _ rfl hTX Tryz.underlying30 rfl (trie_len a0 a1 a2 a3 a4 a5 a6 a7 a8 a9 aA aB aC aD aE aF _)) rfl ⟨_, o, _, 0, 0, by rw [HTV.out]; rfl, HH.out.node.move (Moves.below hbw), HH.out.lays, HH.out.row.move goodSp (Moves.below hbw), HH.out.meter.below hbw, Nat.le_refl _, fun L _ => Nat.zero_le _, Turns.of_below _ hbw⟩
  ·
    have hTb := Turns.refl W0 mb
    obtain ⟨y0, y1, y2⟩ := SO.out W0 hTb
    go_enter Tryz.func10, Tryz.ntmps10
    go_wp2_with (first
      | ((go_at_call 17; (with_reducible refine CG.out.mono ?_); rintro e w1 ⟨rfl, hb1⟩; have hT1 : Turns W0 w1 mb := Turns.of_below _ hb1; obtain ⟨z0, z1, z2⟩ := SO.out w1 hT1); have HR1 := Lib.hid (rng17 (SB.out w1 hT1).1); have HTH := Lib.hid (there_of (SB.out w1 hT1).2.2 (n := 17) rfl); obtain ⟨WS, hWS⟩ : ∃ WS, w1.setCells (w.heap.size + 1 + 1) 0 [.int .u8 (a0.toNat : Nat), .int .u8 (a1.toNat : Nat), .int .u8 (a2.toNat : Nat), .int .u8 (a3.toNat : Nat), .int .u8 (a4.toNat : Nat), .int .u8 (a5.toNat : Nat), .int .u8 (a6.toNat : Nat), .int .u8 (a7.toNat : Nat), .int .u8 (a8.toNat : Nat), .int .u8 (a9.toNat : Nat), .int .u8 (aA.toNat : Nat), .int .u8 (aB.toNat : Nat), .int .u8 (aC.toNat : Nat), .int .u8 (aD.toNat : Nat), .int .u8 (aE.toNat : Nat), .int .u8 (aF.toNat : Nat), (.iface tn (.pointer (some ⟨bn, 0, none⟩)))] = WS := ⟨_, rfl⟩; have HWS := Lib.hid hWS; clear hWS)
      | (refine wpList_load_mid (P := Tryz.prog) rfl 30 (.tmp 4) rfl (w.heap.size) 0 rfl [.int .u8 (a0.toNat : Nat), .int .u8 (a1.toNat : Nat), .int .u8 (a2.toNat : Nat), .int .u8 (a3.toNat : Nat), .int .u8 (a4.toNat : Nat), .int .u8 (a5.toNat : Nat), .int .u8 (a6.toNat : Nat), .int .u8 (a7.toNat : Nat), .int .u8 (a8.toNat : Nat), .int .u8 (a9.toNat : Nat), .int .u8 (aA.toNat : Nat), .int .u8 (aB.toNat : Nat), .int .u8 (aC.toNat : Nat), .int .u8 (aD.toNat : Nat), .int .u8 (aE.toNat : Nat), .int .u8 (aF.toNat : Nat), (.iface tn (.pointer (some ⟨bn, 0, none⟩)))] _ HR1.out Tryz.underlying30 rfl (trie_len a0 a1 a2 a3 a4 a5 a6 a7 a8 a9 aA aB aC aD aE aF _) ?_; simp only [Act.put, List.setIfInBounds_toArray, List.set_cons_zero, List.set_cons_succ])
      | (refine wpList_store_mid (P := Tryz.prog) rfl 30 (.tmp 8) (.tmp 93) rfl (w.heap.size + 1 + 1) 0 #[.int .u8 (a0.toNat : Nat), .int .u8 (a1.toNat : Nat), .int .u8 (a2.toNat : Nat), .int .u8 (a3.toNat : Nat), .int .u8 (a4.toNat : Nat), .int .u8 (a5.toNat : Nat), .int .u8 (a6.toNat : Nat), .int .u8 (a7.toNat : Nat), .int .u8 (a8.toNat : Nat), .int .u8 (a9.toNat : Nat), .int .u8 (aA.toNat : Nat), .int .u8 (aB.toNat : Nat), .int .u8 (aC.toNat : Nat), .int .u8 (aD.toNat : Nat), .int .u8 (aE.toNat : Nat), .int .u8 (aF.toNat : Nat), (.iface tn (.pointer (some ⟨bn, 0, none⟩)))] rfl rfl HTH.out trie_size (one17 a0 a1 a2 a3 a4 a5 a6 a7 a8 a9 aA aB aC aD aE aF rfl) ?_; simp only [HWS.out, Act.put]))
    have hb1w := HB0.out.trans (hb1.mono HB0.out.size)
    have hbX : Below w.heap.size w1 WS := by rw [<- HWS.out]; exact World.below_setCells (by omega) _ _ _ (Below.refl _ _)
    have hTX : WS.rangeAt (w.heap.size + 1 + 1) 0 [.int .u8 (a0.toNat : Nat), .int .u8 (a1.toNat : Nat), .int .u8 (a2.toNat : Nat), .int .u8 (a3.toNat : Nat), .int .u8 (a4.toNat : Nat), .int .u8 (a5.toNat : Nat), .int .u8 (a6.toNat : Nat), .int .u8 (a7.toNat : Nat), .int .u8 (a8.toNat : Nat), .int .u8 (a9.toNat : Nat), .int .u8 (aA.toNat : Nat), .int .u8 (aB.toNat : Nat), .int .u8 (aC.toNat : Nat), .int .u8 (aD.toNat : Nat), .int .u8 (aE.toNat : Nat), .int .u8 (aF.toNat : Nat), (.iface tn (.pointer (some ⟨bn, 0, none⟩)))] := by rw [<- HWS.out]; exact World.rangeAt_setCells_same _ _ _ _ HTH.out
    have hbw : Below w.heap.size w WS := hb1w.trans hbX
    exact bodyPost_ret (results_row3 (cs := [.int .u8 (a0.toNat : Nat), .int .u8 (a1.toNat : Nat), .int .u8 (a2.toNat : Nat), .int .u8 (a3.toNat : Nat), .int .u8 (a4.toNat : Nat), .int .u8 (a5.toNat : Nat), .int .u8 (a6.toNat : Nat), .int .u8 (a7.toNat : Nat), .int .u8 (a8.toNat : Nat), .int .u8 (a9.toNat : Nat), .int .u8 (aA.toNat : Nat), .int .u8 (aB.toNat : Nat), .int .u8 (aC.toNat : Nat), .int .u8 (aD.toNat : Nat), .int .u8 (aE.toNat : Nat), .int .u8 (aF.toNat : Nat), (.iface tn (.pointer (some ⟨bn, 0, none⟩)))]) rfl _ rfl hTX Tryz.underlying30 rfl (trie_len a0 a1 a2 a3 a4 a5 a6 a7 a8 a9 aA aB aC aD aE aF _)) rfl ⟨_, o, _, 0, 0, by rw [HTV.out]; rfl, HH.out.node.move (Moves.below hbw), HH.out.lays, HH.out.row.move goodSp (Moves.below hbw), HH.out.meter.below hbw, Nat.le_refl _, fun L _ => Nat.zero_le _, Turns.of_below _ hbw⟩
end Go.Proofs.YtadaoceidkagfaaGreatDoor
/- law21.step: a delete. -/
namespace Go.Proofs.YtadaoceidkagfaaGreatDoor
open Go.RowKit Go.Bw
def Keeps (W0 : World) (B : Nat) (W : World) : Prop := ∀ k, k < W0.heap.size -> k ≠ B -> W.heap[k]? = W0.heap[k]?
theorem one_node {ok : Nat -> Prop} {w : World} {v : Value} {o : Option Bw.N} (h : ONodeAt nt ok w v o) : v.oneCell' = true := by rcases onode_form h with rfl | ⟨t, b, rfl⟩ <;> rfl
theorem Keeps.refl (W : World) (B : Nat) : Keeps W B W := fun _ _ _ => rfl
theorem Keeps.below {W0 W W' : World} {B : Nat} (h : Keeps W0 B W) (hb : Below W0.heap.size W W') : Keeps W0 B W' := fun k hk hn => (hb.block k hk).trans (h k hk hn)
theorem Keeps.cells {W0 W : World} {B : Nat} (h : Keeps W0 B W) (cs : List Value) : Keeps W0 B (W.setCells B 0 cs) := fun k hk hn => (World.other_setCells hn cs 0 W).trans (h k hk hn)
theorem Keeps.rng {W0 W : World} {B b : Nat} {cs : List Value} (h : Keeps W0 B W) (hb : b < W0.heap.size) (hn : b ≠ B) (hr : W0.rangeAt b 0 cs) : W.rangeAt b 0 cs := fun j v hv => (World.cell?_of_block (h b hb hn)).trans (hr j v hv)
section
variable {P : Program} {ops : Array Oper} {Q : Exit -> Act -> World -> Prop} {md : Region.Mode} {S : World -> Prop}
theorem take_op {i d : Nat} {op : Op} {ty : TypeId} {pos : String} {af : Array Edge} {g : Option (Nat × Bool)} {v : Value} {fuel : Nat} {listed : Array Bool} {a : Act} {w : World} (hi : ops[i]? = some ⟨some d, op, ty, pos, af, g⟩)
    (hs : Region.noSelect ops = true) (hf : Region.free md ops listed i = true) (hr : (Region.ready md ops listed).contains i = true)
    (hQ : ∀ c a w, Q (.panic c) (a.put (some d) v) w -> Q (.panic c) a w) (hy : YieldsIf P ops S ⟨some d, op, ty, pos, af, g⟩ v a) (hS : S w)
    (h : wpAnyH P md ops Q S fuel (listed.setIfInBounds i true) (a.put (some d) v) w) : wpAnyH P md ops Q S (fuel + 1) listed a w := wpAnyH_take hi hs hf hr hQ hy hS h
theorem ready_op {i : Nat} {d : Option Tmp} {op : Op} {ty : TypeId} {pos : String} {af : Array Edge} {g : Option (Nat × Bool)} {fuel : Nat} {listed : Array Bool} {a : Act} {w : World} (hi : ops[i]? = some ⟨d, op, ty, pos, af, g⟩)
    (hr : Region.ready md ops listed = [i]) (hw : Region.wanted ⟨d, op, ty, pos, af, g⟩ (yielded ops a.tmps) = true)
    (h : ∀ K' : Act -> World -> Prop, Shut (∀ a w, S w -> (S w -> wpAnyH P md ops Q S fuel (listed.setIfInBounds i true) a w) -> K' a w) -> Oper.wp P ⟨d, op, ty, pos, af, g⟩ a w K' Q) : wpAnyH P md ops Q S (fuel + 1) listed a w :=
  wpAnyH_ready hr (by simp) (AllReadyH.cons hi (fun K hK => by rw [if_pos hw]; exact h K hK) AllReadyH.nil)
end
set_option maxRecDepth 100000 in
set_option maxHeartbeats 4000000 in
theorem step_del {ok okb : Nat -> Prop} {mb : Option Nat} {s : List UInt8} {m : List Bw.PV} {o : Option Bw.N} {p : Bw.PV} {c : Nat × Nat} {w : World} {nv xv u1 u2 mv : Value} (H : StepIn ok okb mb s m o p c w nv xv u1 u2 mv) :
    Calls Tryz.prog 10 #[trieV s nv, xv, .agg #[.int .i64 2, u1, u2], mv] w (StepEnds ok mb s m (Bw.without m p.1) c w mv) := by
  obtain ⟨X, cx, rfl⟩ := H.row.form
  obtain ⟨U, cu, rfl⟩ := H.b1.form
  obtain ⟨V, cv, rfl⟩ := H.b2.form
  obtain ⟨AM, rfl⟩ := H.meter.form
  obtain ⟨a0, a1, a2, a3, a4, a5, a6, a7, a8, a9, aA, aB, aC, aD, aE, aF, hs16⟩ := mapE16 H.seed
  have htv : ∀ x, trieV s x = .agg #[.int .u8 (a0.toNat : Nat), .int .u8 (a1.toNat : Nat), .int .u8 (a2.toNat : Nat), .int .u8 (a3.toNat : Nat), .int .u8 (a4.toNat : Nat), .int .u8 (a5.toNat : Nat), .int .u8 (a6.toNat : Nat), .int .u8 (a7.toNat : Nat), .int .u8 (a8.toNat : Nat), .int .u8 (a9.toNat : Nat), .int .u8 (aA.toNat : Nat), .int .u8 (aB.toNat : Nat), .int .u8 (aC.toNat : Nat), .int .u8 (aD.toNat : Nat), .int .u8 (aE.toNat : Nat), .int .u8 (aF.toNat : Nat), x] := fun x => by rw [hs16]; rfl
  rw [htv]
  have HTV := Lib.hid htv
  have HML : Hid (∀ k, mb = some k -> k < w.heap.size) := Lib.hid fun k e => by subst e; exact H.meter.lt
  obtain ⟨W0, hW0⟩ : ∃ W0, ((w.alloc (.cells #[.int .u8 (a0.toNat : Nat), .int .u8 (a1.toNat : Nat), .int .u8 (a2.toNat : Nat), .int .u8 (a3.toNat : Nat), .int .u8 (a4.toNat : Nat), .int .u8 (a5.toNat : Nat), .int .u8 (a6.toNat : Nat), .int .u8 (a7.toNat : Nat), .int .u8 (a8.toNat : Nat), .int .u8 (a9.toNat : Nat), .int .u8 (aA.toNat : Nat), .int .u8 (aB.toNat : Nat), .int .u8 (aC.toNat : Nat), .int .u8 (aD.toNat : Nat), .int .u8 (aE.toNat : Nat), .int .u8 (aF.toNat : Nat), nv] 30)).alloc (.cells #[.int .i64 2, .slice U p.1.length cu, .slice V p.2.length cv] 35)).alloc (.cells #[.int .u8 0, .int .u8 0, .int .u8 0, .int .u8 0, .int .u8 0, .int .u8 0, .int .u8 0, .int .u8 0, .int .u8 0, .int .u8 0, .int .u8 0, .int .u8 0, .int .u8 0, .int .u8 0, .int .u8 0, .int .u8 0, .nilIface] 30) = W0 := ⟨_, rfl⟩
  have hB0 : Below w.heap.size w W0 := by rw [<- hW0]; exact gB3
  have hs0 : W0.heap.size = w.heap.size + 3 := by rw [<- hW0]; simp
  have hb0 : W0.heap[w.heap.size]? = some (.cells #[.int .u8 (a0.toNat : Nat), .int .u8 (a1.toNat : Nat), .int .u8 (a2.toNat : Nat), .int .u8 (a3.toNat : Nat), .int .u8 (a4.toNat : Nat), .int .u8 (a5.toNat : Nat), .int .u8 (a6.toNat : Nat), .int .u8 (a7.toNat : Nat), .int .u8 (a8.toNat : Nat), .int .u8 (a9.toNat : Nat), .int .u8 (aA.toNat : Nat), .int .u8 (aB.toNat : Nat), .int .u8 (aC.toNat : Nat), .int .u8 (aD.toNat : Nat), .int .u8 (aE.toNat : Nat), .int .u8 (aF.toNat : Nat), nv] 30 (0, 0)) := by rw [<- hW0]; exact (heap_alloc_old _ _ (by simp; omega)).trans ((heap_alloc_old _ _ (by simp)).trans (heap_alloc_new w _))
  have hb1 : W0.heap[w.heap.size + 1]? = some (.cells #[.int .i64 2, .slice U p.1.length cu, .slice V p.2.length cv] 35 (0, 0)) := by rw [<- hW0]; refine (heap_alloc_old _ _ (by simp)).trans ?_; have := heap_alloc_new (w.alloc (.cells #[.int .u8 (a0.toNat : Nat), .int .u8 (a1.toNat : Nat), .int .u8 (a2.toNat : Nat), .int .u8 (a3.toNat : Nat), .int .u8 (a4.toNat : Nat), .int .u8 (a5.toNat : Nat), .int .u8 (a6.toNat : Nat), .int .u8 (a7.toNat : Nat), .int .u8 (a8.toNat : Nat), .int .u8 (a9.toNat : Nat), .int .u8 (aA.toNat : Nat), .int .u8 (aB.toNat : Nat), .int .u8 (aC.toNat : Nat), .int .u8 (aD.toNat : Nat), .int .u8 (aE.toNat : Nat), .int .u8 (aF.toNat : Nat), nv] 30)) (.cells #[.int .i64 2, .slice U p.1.length cu, .slice V p.2.length cv] 35); simpa using this
  have hb2 : W0.heap[w.heap.size + 1 + 1]? = some (.cells #[.int .u8 0, .int .u8 0, .int .u8 0, .int .u8 0, .int .u8 0, .int .u8 0, .int .u8 0, .int .u8 0, .int .u8 0, .int .u8 0, .int .u8 0, .int .u8 0, .int .u8 0, .int .u8 0, .int .u8 0, .int .u8 0, .nilIface] 30 (0, 0)) := by rw [<- hW0]; have := heap_alloc_new ((w.alloc (.cells #[.int .u8 (a0.toNat : Nat), .int .u8 (a1.toNat : Nat), .int .u8 (a2.toNat : Nat), .int .u8 (a3.toNat : Nat), .int .u8 (a4.toNat : Nat), .int .u8 (a5.toNat : Nat), .int .u8 (a6.toNat : Nat), .int .u8 (a7.toNat : Nat), .int .u8 (a8.toNat : Nat), .int .u8 (a9.toNat : Nat), .int .u8 (aA.toNat : Nat), .int .u8 (aB.toNat : Nat), .int .u8 (aC.toNat : Nat), .int .u8 (aD.toNat : Nat), .int .u8 (aE.toNat : Nat), .int .u8 (aF.toNat : Nat), nv] 30)).alloc (.cells #[.int .i64 2, .slice U p.1.length cu, .slice V p.2.length cv] 35)) (.cells #[.int .u8 0, .int .u8 0, .int .u8 0, .int .u8 0, .int .u8 0, .int .u8 0, .int .u8 0, .int .u8 0, .int .u8 0, .int .u8 0, .int .u8 0, .int .u8 0, .int .u8 0, .int .u8 0, .int .u8 0, .int .u8 0, .nilIface] 30); simpa using this
  have hwm : ∀ k, w.heap.size <= k -> some k ≠ mb := fun k hk e => by have := HML.out k e.symm; omega
  have SB : Hid (∀ W, Turns W0 W mb -> W.heap[w.heap.size]? = some (.cells #[.int .u8 (a0.toNat : Nat), .int .u8 (a1.toNat : Nat), .int .u8 (a2.toNat : Nat), .int .u8 (a3.toNat : Nat), .int .u8 (a4.toNat : Nat), .int .u8 (a5.toNat : Nat), .int .u8 (a6.toNat : Nat), .int .u8 (a7.toNat : Nat), .int .u8 (a8.toNat : Nat), .int .u8 (a9.toNat : Nat), .int .u8 (aA.toNat : Nat), .int .u8 (aB.toNat : Nat), .int .u8 (aC.toNat : Nat), .int .u8 (aD.toNat : Nat), .int .u8 (aE.toNat : Nat), .int .u8 (aF.toNat : Nat), nv] 30 (0, 0)) /\ W.heap[w.heap.size + 1]? = some (.cells #[.int .i64 2, .slice U p.1.length cu, .slice V p.2.length cv] 35 (0, 0)) /\ W.heap[w.heap.size + 1 + 1]? = some (.cells #[.int .u8 0, .int .u8 0, .int .u8 0, .int .u8 0, .int .u8 0, .int .u8 0, .int .u8 0, .int .u8 0, .int .u8 0, .int .u8 0, .int .u8 0, .int .u8 0, .int .u8 0, .int .u8 0, .int .u8 0, .int .u8 0, .nilIface] 30 (0, 0))) :=
    Lib.hid fun W hW => ⟨(hW.block w.heap.size (by omega) (hwm _ (Nat.le_refl _))).trans hb0, (hW.block (w.heap.size + 1) (by omega) (hwm _ (by omega))).trans hb1, (hW.block (w.heap.size + 1 + 1) (by omega) (hwm _ (by omega))).trans hb2⟩
  have SO : Hid (∀ W, Turns W0 W mb -> W.cell? ⟨w.heap.size + 1, 0, none⟩ = some (.int .i64 2) /\ W.cell? ⟨w.heap.size + 1, 1, none⟩ = some (.slice U p.1.length cu) /\ W.cell? ⟨w.heap.size + 1, 2, none⟩ = some (.slice V p.2.length cv)) :=
    Lib.hid fun W hW => ⟨(cell_of_row W (w.heap.size + 1) 0 _ _ (0, 0) (SB.out W hW).2.1).trans rfl, (cell_of_row W (w.heap.size + 1) 1 _ _ (0, 0) (SB.out W hW).2.1).trans rfl, (cell_of_row W (w.heap.size + 1) 2 _ _ (0, 0) (SB.out W hW).2.1).trans rfl⟩
  have q1 := run_conv (P := Tryz.prog) 33 9 5 Tryz.underlying33 Tryz.underlying5 Tryz.underlying9 (H.b1.move goodByte (Moves.below hB0))
  have CG := Lib.hid (rget_any (ok := ok) (key := p.1) (m := m) (w := W0) (Nat.le_trans H.map.len (by decide)) (H.row.move goodSp (Moves.below hB0)))
  simp only [getV, str] at CG
  have HB0 := Lib.hid hB0
  have HS0 : Hid (w.heap.size + 3 <= W0.heap.size) := Lib.hid (by omega)
  obtain ⟨okf, hokf⟩ : ∃ okf : Nat -> Prop, okf = fun k => ok k /\ k ≠ w.heap.size + 1 + 1 := ⟨_, rfl⟩
  have hwo : Moves ok okf w w := Moves.weaken fun k hk hl => by rw [hokf]; exact ⟨hk, by omega⟩
  have hfm : ∀ k, okf k -> some k ≠ mb := fun k hk => by rw [hokf] at hk; exact H.hokm k hk.1
  have hfs : ∀ W, Below W0.heap.size W0 W -> ∀ k, W.heap.size <= k -> okf k := fun W hW k hk => by have := hW.size; rw [hokf]; exact ⟨H.hok k (by omega), by omega⟩
  have HFO : Hid (∀ (W : World) (cs : List Value), Moves okf ok W (W.setCells (w.heap.size + 1 + 1) 0 cs)) := Lib.hid fun W cs k hk _ => by rw [hokf] at hk; exact ⟨hk.1, World.other_setCells hk.2 cs 0 W⟩
  have hnf := onode_form H.node
  have CP := fun (W : World) (hW : Below W0.heap.size W0 W) => tdelete_trie (ok := okf) (okb := okb) (mb := mb) (s := s) (m := m) (k := p.1) (o := o) (nv := nv) (c := c) (w := W) H.seed H.map (H.node.move (hwo.trans (Nat.le_refl _) (Moves.below (hB0.trans (hW.mono hB0.size))))) H.lays (H.b1.move goodByte (Moves.below (hB0.trans (hW.mono hB0.size)))) H.p1 (H.meter.below (hB0.trans (hW.mono hB0.size))) hfm H.hokb H.hmt (hfs W hW) (H.tab.below H.tab.pos (hB0.trans (hW.mono hB0.size))) (H.sta.below H.sta.pos (hB0.trans (hW.mono hB0.size))) ⟨H.c1, H.c2⟩
  simp only [htv] at CP
  have CP := Lib.hid CP
  have HRW : Hid (∀ W, Turns w W mb -> SPairsAt ok W (.slice X m.length cx) m) := Lib.hid fun W hW => H.row.move goodSp (hW.moves H.hokm)
  have HLE : Hid ((Bw.cutCost 13 o (Bw.sipHash s p.1) p.1 0).2 <= (Bw.cutCost 13 o (Bw.sipHash s p.1) p.1 0).1 /\ ∀ L : Nat, (m.length + 1) ^ 6 < 2 ^ L -> (Bw.cutCost 13 o (Bw.sipHash s p.1) p.1 0).1 <= 13 + L) := Lib.hid ⟨(cutCost_le (h := Bw.sipHash s p.1) (k := p.1) (L := (m.length + 1) ^ 6) (Nat.one_le_pow _ _ (Nat.succ_pos _)) 13 0 o (ents_low H.map H.lays Nat.lt_two_pow_self)).2, fun L hL => (cutCost_le (h := Bw.sipHash s p.1) (k := p.1) (one_le_L hL) 13 0 o (ents_low H.map H.lays hL)).1⟩
  have CU := fun (W : World) (hx : SPairsAt ok W (.slice X m.length cx) m) => rwithout_any (key := p.1) (w := W) (Nat.le_trans H.map.len (by decide)) hx
  simp only [str] at CU
  have CU := Lib.hid CU
  have HHOK : Hid (∀ k, w.heap.size <= k -> ok k) := Lib.hid H.hok
  have HHOM : Hid (∀ k, ok k -> some k ≠ mb) := Lib.hid H.hokm
  generalize Bw.cutCost 13 o (Bw.sipHash s p.1) p.1 0 = cc at *
  generalize (Bw.get m p.1).isSome = gb at *
  generalize (Bw.get m p.1).getD [] = gs at *
  clear hB0 hs0 hb0 hb1 hb2 hwm hs16 htv H hokf hwo hfm hfs hnf
  cases gb
  ·
    have hTb := Turns.refl W0 mb
    obtain ⟨y0, y1, y2⟩ := SO.out W0 hTb
    go_enter Tryz.func10, Tryz.ntmps10
    go_wp2_with (first
      | ((go_at_call 17; (with_reducible refine CG.out.mono ?_); rintro e w1 ⟨rfl, hb1⟩; have hT1 : Turns W0 w1 mb := Turns.of_below _ hb1; obtain ⟨z0, z1, z2⟩ := SO.out w1 hT1); have HR1 := Lib.hid (rng17 (SB.out w1 hT1).1))
      | (refine wpList_load_mid (P := Tryz.prog) rfl 30 (.tmp 4) rfl (w.heap.size) 0 rfl [.int .u8 (a0.toNat : Nat), .int .u8 (a1.toNat : Nat), .int .u8 (a2.toNat : Nat), .int .u8 (a3.toNat : Nat), .int .u8 (a4.toNat : Nat), .int .u8 (a5.toNat : Nat), .int .u8 (a6.toNat : Nat), .int .u8 (a7.toNat : Nat), .int .u8 (a8.toNat : Nat), .int .u8 (a9.toNat : Nat), .int .u8 (aA.toNat : Nat), .int .u8 (aB.toNat : Nat), .int .u8 (aC.toNat : Nat), .int .u8 (aD.toNat : Nat), .int .u8 (aE.toNat : Nat), .int .u8 (aF.toNat : Nat), nv] _ HR1.out Tryz.underlying30 rfl (trie_len a0 a1 a2 a3 a4 a5 a6 a7 a8 a9 aA aB aC aD aE aF _) ?_; simp only [Act.put, List.setIfInBounds_toArray, List.set_cons_zero, List.set_cons_succ])
      | (go_at_call 18; (with_reducible refine (CP.out _ hb1).mono ?_); rintro e w2 ⟨nv2, n2, rfl, hn2, hl2, hm2, ht2⟩; have hT2 : Turns W0 w2 mb := hT1.trans ht2; have hone2 := one_node (ok := okf) (w := w2) (v := nv2) (o := n2) hn2; have HN2 := Lib.hid hn2; have HL2 := Lib.hid hl2; have HTH := Lib.hid (there_of (W := w2.alloc (.cells #[.int .u8 0, .int .u8 0, .int .u8 0, .int .u8 0, .int .u8 0, .int .u8 0, .int .u8 0, .int .u8 0, .int .u8 0, .int .u8 0, .int .u8 0, .int .u8 0, .int .u8 0, .int .u8 0, .int .u8 0, .int .u8 0, .nilIface] 30)) (b := w2.heap.size) (n := 17) (heap_alloc_new w2 _) rfl); obtain ⟨WS, hWS⟩ : ∃ WS, (w2.alloc (.cells #[.int .u8 0, .int .u8 0, .int .u8 0, .int .u8 0, .int .u8 0, .int .u8 0, .int .u8 0, .int .u8 0, .int .u8 0, .int .u8 0, .int .u8 0, .int .u8 0, .int .u8 0, .int .u8 0, .int .u8 0, .int .u8 0, .nilIface] 30)).setCells w2.heap.size 0 [.int .u8 (a0.toNat : Nat), .int .u8 (a1.toNat : Nat), .int .u8 (a2.toNat : Nat), .int .u8 (a3.toNat : Nat), .int .u8 (a4.toNat : Nat), .int .u8 (a5.toNat : Nat), .int .u8 (a6.toNat : Nat), .int .u8 (a7.toNat : Nat), .int .u8 (a8.toNat : Nat), .int .u8 (a9.toNat : Nat), .int .u8 (aA.toNat : Nat), .int .u8 (aB.toNat : Nat), .int .u8 (aC.toNat : Nat), .int .u8 (aD.toNat : Nat), .int .u8 (aE.toNat : Nat), .int .u8 (aF.toNat : Nat), nv2] = WS := ⟨_, rfl⟩; have HWS := Lib.hid hWS; clear hWS hn2 hl2)
      | (refine wpList_store_mid (P := Tryz.prog) rfl 30 (.tmp 16) (.tmp 63) rfl (w2.heap.size) 0 #[.int .u8 (a0.toNat : Nat), .int .u8 (a1.toNat : Nat), .int .u8 (a2.toNat : Nat), .int .u8 (a3.toNat : Nat), .int .u8 (a4.toNat : Nat), .int .u8 (a5.toNat : Nat), .int .u8 (a6.toNat : Nat), .int .u8 (a7.toNat : Nat), .int .u8 (a8.toNat : Nat), .int .u8 (a9.toNat : Nat), .int .u8 (aA.toNat : Nat), .int .u8 (aB.toNat : Nat), .int .u8 (aC.toNat : Nat), .int .u8 (aD.toNat : Nat), .int .u8 (aE.toNat : Nat), .int .u8 (aF.toNat : Nat), nv2] rfl rfl HTH.out trie_size (one17 a0 a1 a2 a3 a4 a5 a6 a7 a8 a9 aA aB aC aD aE aF hone2) ?_; simp only [HWS.out, Act.put]))
    have hsz2 := (HB0.out.trans (hb1.mono HB0.out.size)).size
    have hb2S : Below w2.heap.size w2 WS := by rw [<- HWS.out]; exact World.below_setCells (Nat.le_refl _) _ _ _ (by exact gB3)
    have hs2 : w.heap.size + 3 <= w2.heap.size := Nat.le_trans HS0.out hT2.size
    have hTS : Turns W0 WS mb := hT2.trans (Turns.of_below _ hb2S)
    have hrS : WS.rangeAt w2.heap.size 0 [.int .u8 (a0.toNat : Nat), .int .u8 (a1.toNat : Nat), .int .u8 (a2.toNat : Nat), .int .u8 (a3.toNat : Nat), .int .u8 (a4.toNat : Nat), .int .u8 (a5.toNat : Nat), .int .u8 (a6.toNat : Nat), .int .u8 (a7.toNat : Nat), .int .u8 (a8.toNat : Nat), .int .u8 (a9.toNat : Nat), .int .u8 (aA.toNat : Nat), .int .u8 (aB.toNat : Nat), .int .u8 (aC.toNat : Nat), .int .u8 (aD.toNat : Nat), .int .u8 (aE.toNat : Nat), .int .u8 (aF.toNat : Nat), nv2] := by rw [<- HWS.out]; exact World.rangeAt_setCells_same _ _ _ _ HTH.out
    have hltS : w2.heap.size < WS.heap.size := World.block_lt_of_cell? WS _ (hrS 0 _ rfl)
    have HRS : Hid (∀ W : World, Keeps WS (w.heap.size + 1 + 1) W -> W.rangeAt w2.heap.size 0 [.int .u8 (a0.toNat : Nat), .int .u8 (a1.toNat : Nat), .int .u8 (a2.toNat : Nat), .int .u8 (a3.toNat : Nat), .int .u8 (a4.toNat : Nat), .int .u8 (a5.toNat : Nat), .int .u8 (a6.toNat : Nat), .int .u8 (a7.toNat : Nat), .int .u8 (a8.toNat : Nat), .int .u8 (a9.toNat : Nat), .int .u8 (aA.toNat : Nat), .int .u8 (aB.toNat : Nat), .int .u8 (aC.toNat : Nat), .int .u8 (aD.toNat : Nat), .int .u8 (aE.toNat : Nat), .int .u8 (aF.toNat : Nat), nv2]) := Lib.hid fun W hW => hW.rng hltS (by omega) hrS
    have CU2 := Lib.hid (fun (W : World) (hW : Below WS.heap.size WS W) => CU.out W (HRW.out W ((Turns.of_below _ HB0.out).trans (hTS.trans (Turns.of_below _ hW)))))
    have HB2S := Lib.hid hb2S
    clear y0 y1 y2 z0 z1 z2 q1
    have hbd : Below WS.heap.size WS WS.drew := by exact gB3
    have hS0 : Keeps WS (w.heap.size + 1 + 1) WS.drew := (Keeps.refl _ _).below hbd
    clear hb2S
    refine wp_region_noPanic ?_
    refine wp_region_held_drew (S := Keeps WS (w.heap.size + 1 + 1)) (by kernel_rfl) hS0 (fun _ => ?_)
    refine take_op (i := 0) rfl (by kernel_rfl) (by kernel_rfl) (by kernel_rfl) (fun _ _ _ h => h) (yieldsIf_load_mid (by rfl) _ _ rfl _ _ rfl _ _ (fun w h => HRS.out w h) Tryz.underlying30 rfl (trie_len a0 a1 a2 a3 a4 a5 a6 a7 a8 a9 aA aB aC aD aE aF _)) hS0 ?_
    try simp only [Act.put, List.setIfInBounds_toArray, List.set_cons_zero, List.set_cons_succ]
    refine take_op (i := 1) (v := .slice X m.length cx) rfl (by kernel_rfl) (by kernel_rfl) (by kernel_rfl) (fun _ _ _ h => h) (Or.inl ⟨by rfl, fun w hw => by go_simp⟩) hS0 ?_
    try simp only [Act.put, List.setIfInBounds_toArray, List.set_cons_zero, List.set_cons_succ]
    refine take_op (i := 2) (v := .string ⟨p.1.toArray⟩) rfl (by kernel_rfl) (by kernel_rfl) (by kernel_rfl) (fun _ _ _ h => h) (Or.inl ⟨by rfl, fun w hw => by go_simp⟩) hS0 ?_
    try simp only [Act.put, List.setIfInBounds_toArray, List.set_cons_zero, List.set_cons_succ]
    refine take_op (i := 4) (v := .bool false) rfl (by kernel_rfl) (by kernel_rfl) (by kernel_rfl) (fun _ _ _ h => h) (Or.inl ⟨by rfl, fun w hw => by go_simp⟩) hS0 ?_
    try simp only [Act.put, List.setIfInBounds_toArray, List.set_cons_zero, List.set_cons_succ]
    refine take_op (i := 5) (v := .bool false) rfl (by kernel_rfl) (by kernel_rfl) (by kernel_rfl) (fun _ _ _ h => h) (Or.inl ⟨by rfl, fun w hw => by go_simp⟩) hS0 ?_
    try simp only [Act.put, List.setIfInBounds_toArray, List.set_cons_zero, List.set_cons_succ]
    refine take_op (i := 6) (v := .bool true) rfl (by kernel_rfl) (by kernel_rfl) (by kernel_rfl) (fun _ _ _ h => h) (Or.inl ⟨by rfl, fun w hw => by go_simp⟩) hS0 ?_
    try simp only [Act.put, List.setIfInBounds_toArray, List.set_cons_zero, List.set_cons_succ]
    refine ready_op (i := 3) rfl (by kernel_rfl) (by rfl) (fun K hK => ?_)
    go_simp
    refine (CU2.out _ hbd).mono ?_
    rintro e w4 ⟨x4, rfl, hx4, hb4'⟩
    have hb4 : Below WS.heap.size WS w4 := hbd.trans (hb4'.mono hbd.size)
    go_wp2_with fail
    refine hK.out _ _ (hS0.below (hb4'.mono hbd.size)) (fun hS4 => ?_)
    clear hK K
    try simp only [Act.put]
    refine ready_op (i := 7) rfl (by kernel_rfl) (by rfl) (fun K hK => ?_)
    refine wp_store_mid _ _ _ rfl _ _ (List.toArray _) rfl rfl (there_of (SB.out w4 (hTS.trans (Turns.of_below _ hb4))).2.2 (n := 17) rfl) trie_size (one17 a0 a1 a2 a3 a4 a5 a6 a7 a8 a9 aA aB aC aD aE aF hone2) ?_
    refine hK.out _ _ (hS4.cells _) (fun hS5 => ?_)
    clear hK K
    simp only [Act.put]
    refine take_op (i := 8) (v := x4) rfl (by kernel_rfl) (by kernel_rfl) (by kernel_rfl) (fun _ _ _ h => h) (Or.inl ⟨by rfl, fun w hw => by go_simp⟩) hS5 ?_
    try simp only [Act.put, List.setIfInBounds_toArray, List.set_cons_zero, List.set_cons_succ]
    refine take_op (i := 9) (v := .bool true) rfl (by kernel_rfl) (by kernel_rfl) (by kernel_rfl) (fun _ _ _ h => h) (Or.inl ⟨by rfl, fun w hw => by go_simp⟩) hS5 ?_
    try simp only [Act.put, List.setIfInBounds_toArray, List.set_cons_zero, List.set_cons_succ]
    refine wpAnyH_done (by kernel_rfl) ?_ _
    refine NoPanic.normal ?_
    go_wp2_with fail
    have hb24 : Below w2.heap.size w2 w4 := HB2S.out.trans (hb4.mono HB2S.out.size)
    have hT4 : Turns W0 w4 mb := hT2.trans (Turns.of_below _ hb24)
    obtain ⟨WX, hWX⟩ : ∃ WX, w4.setCells (w.heap.size + 1 + 1) 0 [.int .u8 (a0.toNat : Nat), .int .u8 (a1.toNat : Nat), .int .u8 (a2.toNat : Nat), .int .u8 (a3.toNat : Nat), .int .u8 (a4.toNat : Nat), .int .u8 (a5.toNat : Nat), .int .u8 (a6.toNat : Nat), .int .u8 (a7.toNat : Nat), .int .u8 (a8.toNat : Nat), .int .u8 (a9.toNat : Nat), .int .u8 (aA.toNat : Nat), .int .u8 (aB.toNat : Nat), .int .u8 (aC.toNat : Nat), .int .u8 (aD.toNat : Nat), .int .u8 (aE.toNat : Nat), .int .u8 (aF.toNat : Nat), nv2] = WX := ⟨_, rfl⟩
    have hTX : WX.rangeAt (w.heap.size + 1 + 1) 0 [.int .u8 (a0.toNat : Nat), .int .u8 (a1.toNat : Nat), .int .u8 (a2.toNat : Nat), .int .u8 (a3.toNat : Nat), .int .u8 (a4.toNat : Nat), .int .u8 (a5.toNat : Nat), .int .u8 (a6.toNat : Nat), .int .u8 (a7.toNat : Nat), .int .u8 (a8.toNat : Nat), .int .u8 (a9.toNat : Nat), .int .u8 (aA.toNat : Nat), .int .u8 (aB.toNat : Nat), .int .u8 (aC.toNat : Nat), .int .u8 (aD.toNat : Nat), .int .u8 (aE.toNat : Nat), .int .u8 (aF.toNat : Nat), nv2] := by rw [<- hWX]; exact World.rangeAt_setCells_same _ _ _ _ (there_of (SB.out w4 hT4).2.2 (n := 17) rfl)
    have hbX : Below w.heap.size w4 WX := by rw [<- hWX]; exact World.below_setCells (by omega) _ _ _ (Below.refl _ _)
    have hTw : Turns w WX mb := Turns.after ((Turns.of_below mb HB0.out).trans hT4) hbX
    rw [hWX]
    have hmv : Moves okf ok w2 WX := by rw [<- hWX]; exact (Moves.below hb24).trans hb24.size (HFO.out _ _)
    have hmx : Moves (fun k => WS.drew.heap.size <= k) ok w4 WX := fun k hk _ => ⟨HHOK.out k (by have := hbd.size; omega), by rw [<- hWX]; exact World.other_setCells (by have := hbd.size; omega) _ _ _⟩
    exact bodyPost_ret (results_row3 (cs := [.int .u8 (a0.toNat : Nat), .int .u8 (a1.toNat : Nat), .int .u8 (a2.toNat : Nat), .int .u8 (a3.toNat : Nat), .int .u8 (a4.toNat : Nat), .int .u8 (a5.toNat : Nat), .int .u8 (a6.toNat : Nat), .int .u8 (a7.toNat : Nat), .int .u8 (a8.toNat : Nat), .int .u8 (a9.toNat : Nat), .int .u8 (aA.toNat : Nat), .int .u8 (aB.toNat : Nat), .int .u8 (aC.toNat : Nat), .int .u8 (aD.toNat : Nat), .int .u8 (aE.toNat : Nat), .int .u8 (aF.toNat : Nat), nv2]) rfl _ rfl hTX Tryz.underlying30 rfl (trie_len a0 a1 a2 a3 a4 a5 a6 a7 a8 a9 aA aB aC aD aE aF _)) rfl ⟨_, _, _, _, _, by rw [HTV.out]; rfl, HN2.out.move hmv, HL2.out, hx4.move goodSp hmx, (hm2.below hb24).belowN HML.out hbX, HLE.out.1, HLE.out.2, hTw⟩
  ·
    have hTb := Turns.refl W0 mb
    obtain ⟨y0, y1, y2⟩ := SO.out W0 hTb
    go_enter Tryz.func10, Tryz.ntmps10
    go_wp2_with (first
      | ((go_at_call 17; (with_reducible refine CG.out.mono ?_); rintro e w1 ⟨rfl, hb1⟩; have hT1 : Turns W0 w1 mb := Turns.of_below _ hb1; obtain ⟨z0, z1, z2⟩ := SO.out w1 hT1); have HR1 := Lib.hid (rng17 (SB.out w1 hT1).1))
      | (refine wpList_load_mid (P := Tryz.prog) rfl 30 (.tmp 4) rfl (w.heap.size) 0 rfl [.int .u8 (a0.toNat : Nat), .int .u8 (a1.toNat : Nat), .int .u8 (a2.toNat : Nat), .int .u8 (a3.toNat : Nat), .int .u8 (a4.toNat : Nat), .int .u8 (a5.toNat : Nat), .int .u8 (a6.toNat : Nat), .int .u8 (a7.toNat : Nat), .int .u8 (a8.toNat : Nat), .int .u8 (a9.toNat : Nat), .int .u8 (aA.toNat : Nat), .int .u8 (aB.toNat : Nat), .int .u8 (aC.toNat : Nat), .int .u8 (aD.toNat : Nat), .int .u8 (aE.toNat : Nat), .int .u8 (aF.toNat : Nat), nv] _ HR1.out Tryz.underlying30 rfl (trie_len a0 a1 a2 a3 a4 a5 a6 a7 a8 a9 aA aB aC aD aE aF _) ?_; simp only [Act.put, List.setIfInBounds_toArray, List.set_cons_zero, List.set_cons_succ])
      | (go_at_call 18; (with_reducible refine (CP.out _ hb1).mono ?_); rintro e w2 ⟨nv2, n2, rfl, hn2, hl2, hm2, ht2⟩; have hT2 : Turns W0 w2 mb := hT1.trans ht2; have hone2 := one_node (ok := okf) (w := w2) (v := nv2) (o := n2) hn2; have HN2 := Lib.hid hn2; have HL2 := Lib.hid hl2; have HTH := Lib.hid (there_of (W := w2.alloc (.cells #[.int .u8 0, .int .u8 0, .int .u8 0, .int .u8 0, .int .u8 0, .int .u8 0, .int .u8 0, .int .u8 0, .int .u8 0, .int .u8 0, .int .u8 0, .int .u8 0, .int .u8 0, .int .u8 0, .int .u8 0, .int .u8 0, .nilIface] 30)) (b := w2.heap.size) (n := 17) (heap_alloc_new w2 _) rfl); obtain ⟨WS, hWS⟩ : ∃ WS, (w2.alloc (.cells #[.int .u8 0, .int .u8 0, .int .u8 0, .int .u8 0, .int .u8 0, .int .u8 0, .int .u8 0, .int .u8 0, .int .u8 0, .int .u8 0, .int .u8 0, .int .u8 0, .int .u8 0, .int .u8 0, .int .u8 0, .int .u8 0, .nilIface] 30)).setCells w2.heap.size 0 [.int .u8 (a0.toNat : Nat), .int .u8 (a1.toNat : Nat), .int .u8 (a2.toNat : Nat), .int .u8 (a3.toNat : Nat), .int .u8 (a4.toNat : Nat), .int .u8 (a5.toNat : Nat), .int .u8 (a6.toNat : Nat), .int .u8 (a7.toNat : Nat), .int .u8 (a8.toNat : Nat), .int .u8 (a9.toNat : Nat), .int .u8 (aA.toNat : Nat), .int .u8 (aB.toNat : Nat), .int .u8 (aC.toNat : Nat), .int .u8 (aD.toNat : Nat), .int .u8 (aE.toNat : Nat), .int .u8 (aF.toNat : Nat), nv2] = WS := ⟨_, rfl⟩; have HWS := Lib.hid hWS; clear hWS hn2 hl2)
      | (refine wpList_store_mid (P := Tryz.prog) rfl 30 (.tmp 16) (.tmp 63) rfl (w2.heap.size) 0 #[.int .u8 (a0.toNat : Nat), .int .u8 (a1.toNat : Nat), .int .u8 (a2.toNat : Nat), .int .u8 (a3.toNat : Nat), .int .u8 (a4.toNat : Nat), .int .u8 (a5.toNat : Nat), .int .u8 (a6.toNat : Nat), .int .u8 (a7.toNat : Nat), .int .u8 (a8.toNat : Nat), .int .u8 (a9.toNat : Nat), .int .u8 (aA.toNat : Nat), .int .u8 (aB.toNat : Nat), .int .u8 (aC.toNat : Nat), .int .u8 (aD.toNat : Nat), .int .u8 (aE.toNat : Nat), .int .u8 (aF.toNat : Nat), nv2] rfl rfl HTH.out trie_size (one17 a0 a1 a2 a3 a4 a5 a6 a7 a8 a9 aA aB aC aD aE aF hone2) ?_; simp only [HWS.out, Act.put]))
    have hsz2 := (HB0.out.trans (hb1.mono HB0.out.size)).size
    have hb2S : Below w2.heap.size w2 WS := by rw [<- HWS.out]; exact World.below_setCells (Nat.le_refl _) _ _ _ (by exact gB3)
    have hs2 : w.heap.size + 3 <= w2.heap.size := Nat.le_trans HS0.out hT2.size
    have hTS : Turns W0 WS mb := hT2.trans (Turns.of_below _ hb2S)
    have hrS : WS.rangeAt w2.heap.size 0 [.int .u8 (a0.toNat : Nat), .int .u8 (a1.toNat : Nat), .int .u8 (a2.toNat : Nat), .int .u8 (a3.toNat : Nat), .int .u8 (a4.toNat : Nat), .int .u8 (a5.toNat : Nat), .int .u8 (a6.toNat : Nat), .int .u8 (a7.toNat : Nat), .int .u8 (a8.toNat : Nat), .int .u8 (a9.toNat : Nat), .int .u8 (aA.toNat : Nat), .int .u8 (aB.toNat : Nat), .int .u8 (aC.toNat : Nat), .int .u8 (aD.toNat : Nat), .int .u8 (aE.toNat : Nat), .int .u8 (aF.toNat : Nat), nv2] := by rw [<- HWS.out]; exact World.rangeAt_setCells_same _ _ _ _ HTH.out
    have hltS : w2.heap.size < WS.heap.size := World.block_lt_of_cell? WS _ (hrS 0 _ rfl)
    have HRS : Hid (∀ W : World, Keeps WS (w.heap.size + 1 + 1) W -> W.rangeAt w2.heap.size 0 [.int .u8 (a0.toNat : Nat), .int .u8 (a1.toNat : Nat), .int .u8 (a2.toNat : Nat), .int .u8 (a3.toNat : Nat), .int .u8 (a4.toNat : Nat), .int .u8 (a5.toNat : Nat), .int .u8 (a6.toNat : Nat), .int .u8 (a7.toNat : Nat), .int .u8 (a8.toNat : Nat), .int .u8 (a9.toNat : Nat), .int .u8 (aA.toNat : Nat), .int .u8 (aB.toNat : Nat), .int .u8 (aC.toNat : Nat), .int .u8 (aD.toNat : Nat), .int .u8 (aE.toNat : Nat), .int .u8 (aF.toNat : Nat), nv2]) := Lib.hid fun W hW => hW.rng hltS (by omega) hrS
    have CU2 := Lib.hid (fun (W : World) (hW : Below WS.heap.size WS W) => CU.out W (HRW.out W ((Turns.of_below _ HB0.out).trans (hTS.trans (Turns.of_below _ hW)))))
    have HB2S := Lib.hid hb2S
    clear y0 y1 y2 z0 z1 z2 q1
    have hbd : Below WS.heap.size WS WS.drew := by exact gB3
    have hS0 : Keeps WS (w.heap.size + 1 + 1) WS.drew := (Keeps.refl _ _).below hbd
    clear hb2S
    refine wp_region_noPanic ?_
    refine wp_region_held_drew (S := Keeps WS (w.heap.size + 1 + 1)) (by kernel_rfl) hS0 (fun _ => ?_)
    refine take_op (i := 0) rfl (by kernel_rfl) (by kernel_rfl) (by kernel_rfl) (fun _ _ _ h => h) (yieldsIf_load_mid (by rfl) _ _ rfl _ _ rfl _ _ (fun w h => HRS.out w h) Tryz.underlying30 rfl (trie_len a0 a1 a2 a3 a4 a5 a6 a7 a8 a9 aA aB aC aD aE aF _)) hS0 ?_
    try simp only [Act.put, List.setIfInBounds_toArray, List.set_cons_zero, List.set_cons_succ]
    refine take_op (i := 1) (v := .slice X m.length cx) rfl (by kernel_rfl) (by kernel_rfl) (by kernel_rfl) (fun _ _ _ h => h) (Or.inl ⟨by rfl, fun w hw => by go_simp⟩) hS0 ?_
    try simp only [Act.put, List.setIfInBounds_toArray, List.set_cons_zero, List.set_cons_succ]
    refine take_op (i := 2) (v := .string ⟨p.1.toArray⟩) rfl (by kernel_rfl) (by kernel_rfl) (by kernel_rfl) (fun _ _ _ h => h) (Or.inl ⟨by rfl, fun w hw => by go_simp⟩) hS0 ?_
    try simp only [Act.put, List.setIfInBounds_toArray, List.set_cons_zero, List.set_cons_succ]
    refine take_op (i := 4) (v := .bool true) rfl (by kernel_rfl) (by kernel_rfl) (by kernel_rfl) (fun _ _ _ h => h) (Or.inl ⟨by rfl, fun w hw => by go_simp⟩) hS0 ?_
    try simp only [Act.put, List.setIfInBounds_toArray, List.set_cons_zero, List.set_cons_succ]
    refine take_op (i := 5) (v := .bool true) rfl (by kernel_rfl) (by kernel_rfl) (by kernel_rfl) (fun _ _ _ h => h) (Or.inl ⟨by rfl, fun w hw => by go_simp⟩) hS0 ?_
    try simp only [Act.put, List.setIfInBounds_toArray, List.set_cons_zero, List.set_cons_succ]
    refine take_op (i := 6) (v := .bool true) rfl (by kernel_rfl) (by kernel_rfl) (by kernel_rfl) (fun _ _ _ h => h) (Or.inl ⟨by rfl, fun w hw => by go_simp⟩) hS0 ?_
    try simp only [Act.put, List.setIfInBounds_toArray, List.set_cons_zero, List.set_cons_succ]
    refine ready_op (i := 3) rfl (by kernel_rfl) (by rfl) (fun K hK => ?_)
    go_simp
    refine (CU2.out _ hbd).mono ?_
    rintro e w4 ⟨x4, rfl, hx4, hb4'⟩
    have hb4 : Below WS.heap.size WS w4 := hbd.trans (hb4'.mono hbd.size)
    go_wp2_with fail
    refine hK.out _ _ (hS0.below (hb4'.mono hbd.size)) (fun hS4 => ?_)
    clear hK K
    try simp only [Act.put]
    refine ready_op (i := 7) rfl (by kernel_rfl) (by rfl) (fun K hK => ?_)
    refine wp_store_mid _ _ _ rfl _ _ (List.toArray _) rfl rfl (there_of (SB.out w4 (hTS.trans (Turns.of_below _ hb4))).2.2 (n := 17) rfl) trie_size (one17 a0 a1 a2 a3 a4 a5 a6 a7 a8 a9 aA aB aC aD aE aF hone2) ?_
    refine hK.out _ _ (hS4.cells _) (fun hS5 => ?_)
    clear hK K
    simp only [Act.put]
    refine take_op (i := 8) (v := x4) rfl (by kernel_rfl) (by kernel_rfl) (by kernel_rfl) (fun _ _ _ h => h) (Or.inl ⟨by rfl, fun w hw => by go_simp⟩) hS5 ?_
    try simp only [Act.put, List.setIfInBounds_toArray, List.set_cons_zero, List.set_cons_succ]
    refine take_op (i := 9) (v := .bool true) rfl (by kernel_rfl) (by kernel_rfl) (by kernel_rfl) (fun _ _ _ h => h) (Or.inl ⟨by rfl, fun w hw => by go_simp⟩) hS5 ?_
    try simp only [Act.put, List.setIfInBounds_toArray, List.set_cons_zero, List.set_cons_succ]
    refine wpAnyH_done (by kernel_rfl) ?_ _
    refine NoPanic.normal ?_
    go_wp2_with fail
    have hb24 : Below w2.heap.size w2 w4 := HB2S.out.trans (hb4.mono HB2S.out.size)
    have hT4 : Turns W0 w4 mb := hT2.trans (Turns.of_below _ hb24)
    obtain ⟨WX, hWX⟩ : ∃ WX, w4.setCells (w.heap.size + 1 + 1) 0 [.int .u8 (a0.toNat : Nat), .int .u8 (a1.toNat : Nat), .int .u8 (a2.toNat : Nat), .int .u8 (a3.toNat : Nat), .int .u8 (a4.toNat : Nat), .int .u8 (a5.toNat : Nat), .int .u8 (a6.toNat : Nat), .int .u8 (a7.toNat : Nat), .int .u8 (a8.toNat : Nat), .int .u8 (a9.toNat : Nat), .int .u8 (aA.toNat : Nat), .int .u8 (aB.toNat : Nat), .int .u8 (aC.toNat : Nat), .int .u8 (aD.toNat : Nat), .int .u8 (aE.toNat : Nat), .int .u8 (aF.toNat : Nat), nv2] = WX := ⟨_, rfl⟩
    have hTX : WX.rangeAt (w.heap.size + 1 + 1) 0 [.int .u8 (a0.toNat : Nat), .int .u8 (a1.toNat : Nat), .int .u8 (a2.toNat : Nat), .int .u8 (a3.toNat : Nat), .int .u8 (a4.toNat : Nat), .int .u8 (a5.toNat : Nat), .int .u8 (a6.toNat : Nat), .int .u8 (a7.toNat : Nat), .int .u8 (a8.toNat : Nat), .int .u8 (a9.toNat : Nat), .int .u8 (aA.toNat : Nat), .int .u8 (aB.toNat : Nat), .int .u8 (aC.toNat : Nat), .int .u8 (aD.toNat : Nat), .int .u8 (aE.toNat : Nat), .int .u8 (aF.toNat : Nat), nv2] := by rw [<- hWX]; exact World.rangeAt_setCells_same _ _ _ _ (there_of (SB.out w4 hT4).2.2 (n := 17) rfl)
    have hbX : Below w.heap.size w4 WX := by rw [<- hWX]; exact World.below_setCells (by omega) _ _ _ (Below.refl _ _)
    have hTw : Turns w WX mb := Turns.after ((Turns.of_below mb HB0.out).trans hT4) hbX
    rw [hWX]
    have hmv : Moves okf ok w2 WX := by rw [<- hWX]; exact (Moves.below hb24).trans hb24.size (HFO.out _ _)
    have hmx : Moves (fun k => WS.drew.heap.size <= k) ok w4 WX := fun k hk _ => ⟨HHOK.out k (by have := hbd.size; omega), by rw [<- hWX]; exact World.other_setCells (by have := hbd.size; omega) _ _ _⟩
    exact bodyPost_ret (results_row3 (cs := [.int .u8 (a0.toNat : Nat), .int .u8 (a1.toNat : Nat), .int .u8 (a2.toNat : Nat), .int .u8 (a3.toNat : Nat), .int .u8 (a4.toNat : Nat), .int .u8 (a5.toNat : Nat), .int .u8 (a6.toNat : Nat), .int .u8 (a7.toNat : Nat), .int .u8 (a8.toNat : Nat), .int .u8 (a9.toNat : Nat), .int .u8 (aA.toNat : Nat), .int .u8 (aB.toNat : Nat), .int .u8 (aC.toNat : Nat), .int .u8 (aD.toNat : Nat), .int .u8 (aE.toNat : Nat), .int .u8 (aF.toNat : Nat), nv2]) rfl _ rfl hTX Tryz.underlying30 rfl (trie_len a0 a1 a2 a3 a4 a5 a6 a7 a8 a9 aA aB aC aD aE aF _)) rfl ⟨_, _, _, _, _, by rw [HTV.out]; rfl, HN2.out.move hmv, HL2.out, hx4.move goodSp hmx, (hm2.below hb24).belowN HML.out hbX, HLE.out.1, HLE.out.2, hTw⟩
end Go.Proofs.YtadaoceidkagfaaGreatDoor
/- law21.step: a put. -/
namespace Go.Proofs.YtadaoceidkagfaaGreatDoor
open Go.RowKit Go.Bw
set_option maxRecDepth 100000 in
set_option maxHeartbeats 4000000 in
theorem step_put {ok okb : Nat -> Prop} {mb : Option Nat} {s : List UInt8} {m : List Bw.PV} {o : Option Bw.N} {p : Bw.PV} {c : Nat × Nat} {w : World} {nv xv u1 u2 mv : Value} (H : StepIn ok okb mb s m o p c w nv xv u1 u2 mv) :
    Calls Tryz.prog 10 #[trieV s nv, xv, .agg #[.int .i64 1, u1, u2], mv] w (StepEnds ok mb s m (Bw.put m p) c w mv) := by
  obtain ⟨X, cx, rfl⟩ := H.row.form
  obtain ⟨U, cu, rfl⟩ := H.b1.form
  obtain ⟨V, cv, rfl⟩ := H.b2.form
  obtain ⟨AM, rfl⟩ := H.meter.form
  obtain ⟨a0, a1, a2, a3, a4, a5, a6, a7, a8, a9, aA, aB, aC, aD, aE, aF, hs16⟩ := mapE16 H.seed
  have htv : ∀ x, trieV s x = .agg #[.int .u8 (a0.toNat : Nat), .int .u8 (a1.toNat : Nat), .int .u8 (a2.toNat : Nat), .int .u8 (a3.toNat : Nat), .int .u8 (a4.toNat : Nat), .int .u8 (a5.toNat : Nat), .int .u8 (a6.toNat : Nat), .int .u8 (a7.toNat : Nat), .int .u8 (a8.toNat : Nat), .int .u8 (a9.toNat : Nat), .int .u8 (aA.toNat : Nat), .int .u8 (aB.toNat : Nat), .int .u8 (aC.toNat : Nat), .int .u8 (aD.toNat : Nat), .int .u8 (aE.toNat : Nat), .int .u8 (aF.toNat : Nat), x] := fun x => by rw [hs16]; rfl
  rw [htv]
  have HTV := Lib.hid htv
  have HML : Hid (∀ k, mb = some k -> k < w.heap.size) := Lib.hid fun k e => by subst e; exact H.meter.lt
  obtain ⟨W0, hW0⟩ : ∃ W0, ((w.alloc (.cells #[.int .u8 (a0.toNat : Nat), .int .u8 (a1.toNat : Nat), .int .u8 (a2.toNat : Nat), .int .u8 (a3.toNat : Nat), .int .u8 (a4.toNat : Nat), .int .u8 (a5.toNat : Nat), .int .u8 (a6.toNat : Nat), .int .u8 (a7.toNat : Nat), .int .u8 (a8.toNat : Nat), .int .u8 (a9.toNat : Nat), .int .u8 (aA.toNat : Nat), .int .u8 (aB.toNat : Nat), .int .u8 (aC.toNat : Nat), .int .u8 (aD.toNat : Nat), .int .u8 (aE.toNat : Nat), .int .u8 (aF.toNat : Nat), nv] 30)).alloc (.cells #[.int .i64 1, .slice U p.1.length cu, .slice V p.2.length cv] 35)).alloc (.cells #[.int .u8 0, .int .u8 0, .int .u8 0, .int .u8 0, .int .u8 0, .int .u8 0, .int .u8 0, .int .u8 0, .int .u8 0, .int .u8 0, .int .u8 0, .int .u8 0, .int .u8 0, .int .u8 0, .int .u8 0, .int .u8 0, .nilIface] 30) = W0 := ⟨_, rfl⟩
  have hB0 : Below w.heap.size w W0 := by rw [<- hW0]; exact gB3
  have hs0 : W0.heap.size = w.heap.size + 3 := by rw [<- hW0]; simp
  have hb0 : W0.heap[w.heap.size]? = some (.cells #[.int .u8 (a0.toNat : Nat), .int .u8 (a1.toNat : Nat), .int .u8 (a2.toNat : Nat), .int .u8 (a3.toNat : Nat), .int .u8 (a4.toNat : Nat), .int .u8 (a5.toNat : Nat), .int .u8 (a6.toNat : Nat), .int .u8 (a7.toNat : Nat), .int .u8 (a8.toNat : Nat), .int .u8 (a9.toNat : Nat), .int .u8 (aA.toNat : Nat), .int .u8 (aB.toNat : Nat), .int .u8 (aC.toNat : Nat), .int .u8 (aD.toNat : Nat), .int .u8 (aE.toNat : Nat), .int .u8 (aF.toNat : Nat), nv] 30 (0, 0)) := by rw [<- hW0]; exact (heap_alloc_old _ _ (by simp; omega)).trans ((heap_alloc_old _ _ (by simp)).trans (heap_alloc_new w _))
  have hb1 : W0.heap[w.heap.size + 1]? = some (.cells #[.int .i64 1, .slice U p.1.length cu, .slice V p.2.length cv] 35 (0, 0)) := by rw [<- hW0]; refine (heap_alloc_old _ _ (by simp)).trans ?_; have := heap_alloc_new (w.alloc (.cells #[.int .u8 (a0.toNat : Nat), .int .u8 (a1.toNat : Nat), .int .u8 (a2.toNat : Nat), .int .u8 (a3.toNat : Nat), .int .u8 (a4.toNat : Nat), .int .u8 (a5.toNat : Nat), .int .u8 (a6.toNat : Nat), .int .u8 (a7.toNat : Nat), .int .u8 (a8.toNat : Nat), .int .u8 (a9.toNat : Nat), .int .u8 (aA.toNat : Nat), .int .u8 (aB.toNat : Nat), .int .u8 (aC.toNat : Nat), .int .u8 (aD.toNat : Nat), .int .u8 (aE.toNat : Nat), .int .u8 (aF.toNat : Nat), nv] 30)) (.cells #[.int .i64 1, .slice U p.1.length cu, .slice V p.2.length cv] 35); simpa using this
  have hb2 : W0.heap[w.heap.size + 1 + 1]? = some (.cells #[.int .u8 0, .int .u8 0, .int .u8 0, .int .u8 0, .int .u8 0, .int .u8 0, .int .u8 0, .int .u8 0, .int .u8 0, .int .u8 0, .int .u8 0, .int .u8 0, .int .u8 0, .int .u8 0, .int .u8 0, .int .u8 0, .nilIface] 30 (0, 0)) := by rw [<- hW0]; have := heap_alloc_new ((w.alloc (.cells #[.int .u8 (a0.toNat : Nat), .int .u8 (a1.toNat : Nat), .int .u8 (a2.toNat : Nat), .int .u8 (a3.toNat : Nat), .int .u8 (a4.toNat : Nat), .int .u8 (a5.toNat : Nat), .int .u8 (a6.toNat : Nat), .int .u8 (a7.toNat : Nat), .int .u8 (a8.toNat : Nat), .int .u8 (a9.toNat : Nat), .int .u8 (aA.toNat : Nat), .int .u8 (aB.toNat : Nat), .int .u8 (aC.toNat : Nat), .int .u8 (aD.toNat : Nat), .int .u8 (aE.toNat : Nat), .int .u8 (aF.toNat : Nat), nv] 30)).alloc (.cells #[.int .i64 1, .slice U p.1.length cu, .slice V p.2.length cv] 35)) (.cells #[.int .u8 0, .int .u8 0, .int .u8 0, .int .u8 0, .int .u8 0, .int .u8 0, .int .u8 0, .int .u8 0, .int .u8 0, .int .u8 0, .int .u8 0, .int .u8 0, .int .u8 0, .int .u8 0, .int .u8 0, .int .u8 0, .nilIface] 30); simpa using this
  have hwm : ∀ k, w.heap.size <= k -> some k ≠ mb := fun k hk e => by have := HML.out k e.symm; omega
  have SB : Hid (∀ W, Turns W0 W mb -> W.heap[w.heap.size]? = some (.cells #[.int .u8 (a0.toNat : Nat), .int .u8 (a1.toNat : Nat), .int .u8 (a2.toNat : Nat), .int .u8 (a3.toNat : Nat), .int .u8 (a4.toNat : Nat), .int .u8 (a5.toNat : Nat), .int .u8 (a6.toNat : Nat), .int .u8 (a7.toNat : Nat), .int .u8 (a8.toNat : Nat), .int .u8 (a9.toNat : Nat), .int .u8 (aA.toNat : Nat), .int .u8 (aB.toNat : Nat), .int .u8 (aC.toNat : Nat), .int .u8 (aD.toNat : Nat), .int .u8 (aE.toNat : Nat), .int .u8 (aF.toNat : Nat), nv] 30 (0, 0)) /\ W.heap[w.heap.size + 1]? = some (.cells #[.int .i64 1, .slice U p.1.length cu, .slice V p.2.length cv] 35 (0, 0)) /\ W.heap[w.heap.size + 1 + 1]? = some (.cells #[.int .u8 0, .int .u8 0, .int .u8 0, .int .u8 0, .int .u8 0, .int .u8 0, .int .u8 0, .int .u8 0, .int .u8 0, .int .u8 0, .int .u8 0, .int .u8 0, .int .u8 0, .int .u8 0, .int .u8 0, .int .u8 0, .nilIface] 30 (0, 0))) :=
    Lib.hid fun W hW => ⟨(hW.block w.heap.size (by omega) (hwm _ (Nat.le_refl _))).trans hb0, (hW.block (w.heap.size + 1) (by omega) (hwm _ (by omega))).trans hb1, (hW.block (w.heap.size + 1 + 1) (by omega) (hwm _ (by omega))).trans hb2⟩
  have SO : Hid (∀ W, Turns W0 W mb -> W.cell? ⟨w.heap.size + 1, 0, none⟩ = some (.int .i64 1) /\ W.cell? ⟨w.heap.size + 1, 1, none⟩ = some (.slice U p.1.length cu) /\ W.cell? ⟨w.heap.size + 1, 2, none⟩ = some (.slice V p.2.length cv)) :=
    Lib.hid fun W hW => ⟨(cell_of_row W (w.heap.size + 1) 0 _ _ (0, 0) (SB.out W hW).2.1).trans rfl, (cell_of_row W (w.heap.size + 1) 1 _ _ (0, 0) (SB.out W hW).2.1).trans rfl, (cell_of_row W (w.heap.size + 1) 2 _ _ (0, 0) (SB.out W hW).2.1).trans rfl⟩
  have q1 := run_conv (P := Tryz.prog) 33 9 5 Tryz.underlying33 Tryz.underlying5 Tryz.underlying9 (H.b1.move goodByte (Moves.below hB0))
  have CG := Lib.hid (rget_any (ok := ok) (key := p.1) (m := m) (w := W0) (Nat.le_trans H.map.len (by decide)) (H.row.move goodSp (Moves.below hB0)))
  simp only [getV, str] at CG
  have HB0 := Lib.hid hB0
  have HS0 : Hid (w.heap.size + 3 <= W0.heap.size) := Lib.hid (by omega)
  obtain ⟨okf, hokf⟩ : ∃ okf : Nat -> Prop, okf = fun k => ok k /\ k ≠ w.heap.size + 1 + 1 := ⟨_, rfl⟩
  have hwo : Moves ok okf w w := Moves.weaken fun k hk hl => by rw [hokf]; exact ⟨hk, by omega⟩
  have hfm : ∀ k, okf k -> some k ≠ mb := fun k hk => by rw [hokf] at hk; exact H.hokm k hk.1
  have hfs : ∀ W, Below W0.heap.size W0 W -> ∀ k, W.heap.size <= k -> okf k := fun W hW k hk => by have := hW.size; rw [hokf]; exact ⟨H.hok k (by omega), by omega⟩
  have HFO : Hid (∀ (W : World) (cs : List Value), Moves okf ok W (W.setCells (w.heap.size + 1 + 1) 0 cs)) := Lib.hid fun W cs k hk _ => by rw [hokf] at hk; exact ⟨hk.1, World.other_setCells hk.2 cs 0 W⟩
  have hnf := onode_form H.node
  have CP := fun (W : World) (hW : Below W0.heap.size W0 W) => tput_trie (ok := okf) (okb := okb) (mb := mb) (s := s) (m := m) (p := p) (o := o) (nv := nv) (c := c) (w := W) H.seed H.map (H.node.move (hwo.trans (Nat.le_refl _) (Moves.below (hB0.trans (hW.mono hB0.size))))) H.lays (H.b1.move goodByte (Moves.below (hB0.trans (hW.mono hB0.size)))) (H.b2.move goodByte (Moves.below (hB0.trans (hW.mono hB0.size)))) ⟨H.p1, H.p2⟩ (H.meter.below (hB0.trans (hW.mono hB0.size))) hfm H.hokb H.hmt (hfs W hW) (H.tab.below H.tab.pos (hB0.trans (hW.mono hB0.size))) (H.sta.below H.sta.pos (hB0.trans (hW.mono hB0.size))) ⟨H.c1, H.c2⟩
  simp only [htv] at CP
  have CP := Lib.hid CP
  have HRW : Hid (∀ W, Turns w W mb -> SPairsAt ok W (.slice X m.length cx) m) := Lib.hid fun W hW => H.row.move goodSp (hW.moves H.hokm)
  have HLE : Hid ((Bw.costO 13 o (Bw.sipHash s p.1) p.1 0).2 <= (Bw.costO 13 o (Bw.sipHash s p.1) p.1 0).1 /\ ∀ L : Nat, (m.length + 1) ^ 6 < 2 ^ L -> (Bw.costO 13 o (Bw.sipHash s p.1) p.1 0).1 <= 13 + L) := Lib.hid ⟨(putCost_le (h := Bw.sipHash s p.1) (k := p.1) (L := (m.length + 1) ^ 6) (Nat.one_le_pow _ _ (Nat.succ_pos _)) 13 0 o (ents_low H.map H.lays Nat.lt_two_pow_self)).2, fun L hL => (putCost_le (h := Bw.sipHash s p.1) (k := p.1) (one_le_L hL) 13 0 o (ents_low H.map H.lays hL)).1⟩
  have CU := fun (W : World) (hx : SPairsAt ok W (.slice X m.length cx) m) => rput_any (px := p.1) (py := p.2) (w := W) (Nat.le_trans H.map.len (by decide)) H.p1 (fun q hq => (H.map.bytes q hq).1) hx H.map.rises
  have CU := Lib.hid CU
  have HQ2 : Hid (∀ W, Turns w W mb -> ∀ W', (∀ k, k < w.heap.size -> W'.heap[k]? = W.heap[k]?) -> (convert 33 9 (.slice V p.2.length cv)).run Tryz.prog W' = .ok (.string ⟨p.2.toArray⟩) W') := Lib.hid fun W hW W' h' => run_conv (P := Tryz.prog) 33 9 5 Tryz.underlying33 Tryz.underlying5 Tryz.underlying9 (((H.b2.move (ok' := fun k => okb k /\ k < w.heap.size) goodByte (Moves.weaken fun k hk hl => ⟨hk, hl⟩)).move goodByte (fun k hk hl => ⟨hk, hW.block k hl (H.hokb k hk.1)⟩)).move (ok' := AllB) goodByte (fun k hk _ => ⟨trivial, h' k hk.2⟩))
  have HHOK : Hid (∀ k, w.heap.size <= k -> ok k) := Lib.hid H.hok
  have HHOM : Hid (∀ k, ok k -> some k ≠ mb) := Lib.hid H.hokm
  generalize Bw.costO 13 o (Bw.sipHash s p.1) p.1 0 = cc at *
  generalize (Bw.get m p.1).isSome = gb at *
  generalize (Bw.get m p.1).getD [] = gs at *
  clear hB0 hs0 hb0 hb1 hb2 hwm hs16 htv H hokf hwo hfm hfs hnf
  cases gb
  ·
    have hTb := Turns.refl W0 mb
    obtain ⟨y0, y1, y2⟩ := SO.out W0 hTb
    go_enter Tryz.func10, Tryz.ntmps10
    go_wp2_with (first
      | ((go_at_call 17; (with_reducible refine CG.out.mono ?_); rintro e w1 ⟨rfl, hb1⟩; have hT1 : Turns W0 w1 mb := Turns.of_below _ hb1; obtain ⟨z0, z1, z2⟩ := SO.out w1 hT1); have HR1 := Lib.hid (rng17 (SB.out w1 hT1).1))
      | (refine wpList_load_mid (P := Tryz.prog) rfl 30 (.tmp 4) rfl (w.heap.size) 0 rfl [.int .u8 (a0.toNat : Nat), .int .u8 (a1.toNat : Nat), .int .u8 (a2.toNat : Nat), .int .u8 (a3.toNat : Nat), .int .u8 (a4.toNat : Nat), .int .u8 (a5.toNat : Nat), .int .u8 (a6.toNat : Nat), .int .u8 (a7.toNat : Nat), .int .u8 (a8.toNat : Nat), .int .u8 (a9.toNat : Nat), .int .u8 (aA.toNat : Nat), .int .u8 (aB.toNat : Nat), .int .u8 (aC.toNat : Nat), .int .u8 (aD.toNat : Nat), .int .u8 (aE.toNat : Nat), .int .u8 (aF.toNat : Nat), nv] _ HR1.out Tryz.underlying30 rfl (trie_len a0 a1 a2 a3 a4 a5 a6 a7 a8 a9 aA aB aC aD aE aF _) ?_; simp only [Act.put, List.setIfInBounds_toArray, List.set_cons_zero, List.set_cons_succ])
      | (go_at_call 19; (with_reducible refine (CP.out _ hb1).mono ?_); rintro e w2 ⟨nv2, n2, rfl, hn2, hl2, hm2, ht2⟩; have hT2 : Turns W0 w2 mb := hT1.trans ht2; have hone2 := one_node (ok := okf) (w := w2) (v := nv2) (o := some n2) hn2; have HN2 := Lib.hid hn2; have HL2 := Lib.hid hl2; have HTH := Lib.hid (there_of (W := w2.alloc (.cells #[.int .u8 0, .int .u8 0, .int .u8 0, .int .u8 0, .int .u8 0, .int .u8 0, .int .u8 0, .int .u8 0, .int .u8 0, .int .u8 0, .int .u8 0, .int .u8 0, .int .u8 0, .int .u8 0, .int .u8 0, .int .u8 0, .nilIface] 30)) (b := w2.heap.size) (n := 17) (heap_alloc_new w2 _) rfl); obtain ⟨WS, hWS⟩ : ∃ WS, (w2.alloc (.cells #[.int .u8 0, .int .u8 0, .int .u8 0, .int .u8 0, .int .u8 0, .int .u8 0, .int .u8 0, .int .u8 0, .int .u8 0, .int .u8 0, .int .u8 0, .int .u8 0, .int .u8 0, .int .u8 0, .int .u8 0, .int .u8 0, .nilIface] 30)).setCells w2.heap.size 0 [.int .u8 (a0.toNat : Nat), .int .u8 (a1.toNat : Nat), .int .u8 (a2.toNat : Nat), .int .u8 (a3.toNat : Nat), .int .u8 (a4.toNat : Nat), .int .u8 (a5.toNat : Nat), .int .u8 (a6.toNat : Nat), .int .u8 (a7.toNat : Nat), .int .u8 (a8.toNat : Nat), .int .u8 (a9.toNat : Nat), .int .u8 (aA.toNat : Nat), .int .u8 (aB.toNat : Nat), .int .u8 (aC.toNat : Nat), .int .u8 (aD.toNat : Nat), .int .u8 (aE.toNat : Nat), .int .u8 (aF.toNat : Nat), nv2] = WS := ⟨_, rfl⟩; have HWS := Lib.hid hWS; clear hWS hn2 hl2)
      | (refine wpList_store_mid (P := Tryz.prog) rfl 30 (.tmp 14) (.tmp 42) rfl (w2.heap.size) 0 #[.int .u8 (a0.toNat : Nat), .int .u8 (a1.toNat : Nat), .int .u8 (a2.toNat : Nat), .int .u8 (a3.toNat : Nat), .int .u8 (a4.toNat : Nat), .int .u8 (a5.toNat : Nat), .int .u8 (a6.toNat : Nat), .int .u8 (a7.toNat : Nat), .int .u8 (a8.toNat : Nat), .int .u8 (a9.toNat : Nat), .int .u8 (aA.toNat : Nat), .int .u8 (aB.toNat : Nat), .int .u8 (aC.toNat : Nat), .int .u8 (aD.toNat : Nat), .int .u8 (aE.toNat : Nat), .int .u8 (aF.toNat : Nat), nv2] rfl rfl HTH.out trie_size (one17 a0 a1 a2 a3 a4 a5 a6 a7 a8 a9 aA aB aC aD aE aF hone2) ?_; simp only [HWS.out, Act.put]))
    have hsz2 := (HB0.out.trans (hb1.mono HB0.out.size)).size
    have hb2S : Below w2.heap.size w2 WS := by rw [<- HWS.out]; exact World.below_setCells (Nat.le_refl _) _ _ _ (by exact gB3)
    have hs2 : w.heap.size + 3 <= w2.heap.size := Nat.le_trans HS0.out hT2.size
    have hTS : Turns W0 WS mb := hT2.trans (Turns.of_below _ hb2S)
    have hrS : WS.rangeAt w2.heap.size 0 [.int .u8 (a0.toNat : Nat), .int .u8 (a1.toNat : Nat), .int .u8 (a2.toNat : Nat), .int .u8 (a3.toNat : Nat), .int .u8 (a4.toNat : Nat), .int .u8 (a5.toNat : Nat), .int .u8 (a6.toNat : Nat), .int .u8 (a7.toNat : Nat), .int .u8 (a8.toNat : Nat), .int .u8 (a9.toNat : Nat), .int .u8 (aA.toNat : Nat), .int .u8 (aB.toNat : Nat), .int .u8 (aC.toNat : Nat), .int .u8 (aD.toNat : Nat), .int .u8 (aE.toNat : Nat), .int .u8 (aF.toNat : Nat), nv2] := by rw [<- HWS.out]; exact World.rangeAt_setCells_same _ _ _ _ HTH.out
    have hltS : w2.heap.size < WS.heap.size := World.block_lt_of_cell? WS _ (hrS 0 _ rfl)
    have HRS : Hid (∀ W : World, Keeps WS (w.heap.size + 1 + 1) W -> W.rangeAt w2.heap.size 0 [.int .u8 (a0.toNat : Nat), .int .u8 (a1.toNat : Nat), .int .u8 (a2.toNat : Nat), .int .u8 (a3.toNat : Nat), .int .u8 (a4.toNat : Nat), .int .u8 (a5.toNat : Nat), .int .u8 (a6.toNat : Nat), .int .u8 (a7.toNat : Nat), .int .u8 (a8.toNat : Nat), .int .u8 (a9.toNat : Nat), .int .u8 (aA.toNat : Nat), .int .u8 (aB.toNat : Nat), .int .u8 (aC.toNat : Nat), .int .u8 (aD.toNat : Nat), .int .u8 (aE.toNat : Nat), .int .u8 (aF.toNat : Nat), nv2]) := Lib.hid fun W hW => hW.rng hltS (by omega) hrS
    have CU2 := Lib.hid (fun (W : World) (hW : Below WS.heap.size WS W) => CU.out W (HRW.out W ((Turns.of_below _ HB0.out).trans (hTS.trans (Turns.of_below _ hW)))))
    have HB2S := Lib.hid hb2S
    clear y0 y1 y2 z0 z1 z2 q1
    have hbd : Below WS.heap.size WS WS.drew := by exact gB3
    have hS0 : Keeps WS (w.heap.size + 1 + 1) WS.drew := (Keeps.refl _ _).below hbd
    have HC2 : Hid (∀ W : World, Keeps WS (w.heap.size + 1 + 1) W -> W.cell? ⟨w.heap.size + 1, 2, none⟩ = some (.slice V p.2.length cv) /\ (convert 33 9 (.slice V p.2.length cv)).run Tryz.prog W = .ok (.string ⟨p.2.toArray⟩) W) := Lib.hid fun W hW => ⟨(World.cell?_of_block (hW (w.heap.size + 1) (by omega) (by omega))).trans (SO.out WS hTS).2.2, HQ2.out WS ((Turns.of_below _ HB0.out).trans hTS) W (fun k hk => hW k (by omega) (by omega))⟩
    clear hb2S
    refine wp_region_noPanic ?_
    refine wp_region_held_drew (S := Keeps WS (w.heap.size + 1 + 1)) (by kernel_rfl) hS0 (fun _ => ?_)
    refine take_op (i := 0) rfl (by kernel_rfl) (by kernel_rfl) (by kernel_rfl) (fun _ _ _ h => h) (yieldsIf_load_mid (by rfl) _ _ rfl _ _ rfl _ _ (fun w h => HRS.out w h) Tryz.underlying30 rfl (trie_len a0 a1 a2 a3 a4 a5 a6 a7 a8 a9 aA aB aC aD aE aF _)) hS0 ?_
    try simp only [Act.put, List.setIfInBounds_toArray, List.set_cons_zero, List.set_cons_succ]
    refine take_op (i := 1) (v := .slice X m.length cx) rfl (by kernel_rfl) (by kernel_rfl) (by kernel_rfl) (fun _ _ _ h => h) (Or.inl ⟨by rfl, fun w hw => by go_simp⟩) hS0 ?_
    try simp only [Act.put, List.setIfInBounds_toArray, List.set_cons_zero, List.set_cons_succ]
    refine take_op (i := 2) (v := .string ⟨p.1.toArray⟩) rfl (by kernel_rfl) (by kernel_rfl) (by kernel_rfl) (fun _ _ _ h => h) (Or.inl ⟨by rfl, fun w hw => by go_simp⟩) hS0 ?_
    try simp only [Act.put, List.setIfInBounds_toArray, List.set_cons_zero, List.set_cons_succ]
    refine take_op (i := 3) (v := .pointer (some ⟨w.heap.size + 1, 2, none⟩)) rfl (by kernel_rfl) (by kernel_rfl) (by kernel_rfl) (fun _ _ _ h => h) (Or.inl ⟨by rfl, fun w hw => by go_simp⟩) hS0 ?_
    try simp only [Act.put, List.setIfInBounds_toArray, List.set_cons_zero, List.set_cons_succ]
    refine take_op (i := 4) (v := .slice V p.2.length cv) rfl (by kernel_rfl) (by kernel_rfl) (by kernel_rfl) (fun _ _ _ h => h) (Or.inl ⟨by rfl, fun w hw => by have hc := (HC2.out w hw).1; go_simp⟩) hS0 ?_
    try simp only [Act.put, List.setIfInBounds_toArray, List.set_cons_zero, List.set_cons_succ]
    refine take_op (i := 5) (v := .string ⟨p.2.toArray⟩) rfl (by kernel_rfl) (by kernel_rfl) (by kernel_rfl) (fun _ _ _ h => h) (Or.inl ⟨by rfl, fun w hw => by have hc := (HC2.out w hw).2; go_simp⟩) hS0 ?_
    try simp only [Act.put, List.setIfInBounds_toArray, List.set_cons_zero, List.set_cons_succ]
    refine take_op (i := 6) (v := .agg #[.string ⟨p.1.toArray⟩, .string ⟨p.2.toArray⟩]) rfl (by kernel_rfl) (by kernel_rfl) (by kernel_rfl) (fun _ _ _ h => h) (Or.inl ⟨by rfl, fun w hw => by go_simp⟩) hS0 ?_
    try simp only [Act.put, List.setIfInBounds_toArray, List.set_cons_zero, List.set_cons_succ]
    refine take_op (i := 8) (v := .bool true) rfl (by kernel_rfl) (by kernel_rfl) (by kernel_rfl) (fun _ _ _ h => h) (Or.inl ⟨by rfl, fun w hw => by go_simp⟩) hS0 ?_
    try simp only [Act.put, List.setIfInBounds_toArray, List.set_cons_zero, List.set_cons_succ]
    refine take_op (i := 9) (v := .bool false) rfl (by kernel_rfl) (by kernel_rfl) (by kernel_rfl) (fun _ _ _ h => h) (Or.inl ⟨by rfl, fun w hw => by go_simp⟩) hS0 ?_
    try simp only [Act.put, List.setIfInBounds_toArray, List.set_cons_zero, List.set_cons_succ]
    refine take_op (i := 10) (v := .bool true) rfl (by kernel_rfl) (by kernel_rfl) (by kernel_rfl) (fun _ _ _ h => h) (Or.inl ⟨by rfl, fun w hw => by go_simp⟩) hS0 ?_
    try simp only [Act.put, List.setIfInBounds_toArray, List.set_cons_zero, List.set_cons_succ]
    refine ready_op (i := 7) rfl (by kernel_rfl) (by rfl) (fun K hK => ?_)
    go_simp
    refine (CU2.out _ hbd).mono ?_
    rintro e w4 ⟨x4, rfl, hx4, hb4'⟩
    have hb4 : Below WS.heap.size WS w4 := hbd.trans (hb4'.mono hbd.size)
    go_wp2_with fail
    refine hK.out _ _ (hS0.below (hb4'.mono hbd.size)) (fun hS4 => ?_)
    clear hK K
    try simp only [Act.put]
    refine ready_op (i := 11) rfl (by kernel_rfl) (by rfl) (fun K hK => ?_)
    refine wp_store_mid _ _ _ rfl _ _ (List.toArray _) rfl rfl (there_of (SB.out w4 (hTS.trans (Turns.of_below _ hb4))).2.2 (n := 17) rfl) trie_size (one17 a0 a1 a2 a3 a4 a5 a6 a7 a8 a9 aA aB aC aD aE aF hone2) ?_
    refine hK.out _ _ (hS4.cells _) (fun hS5 => ?_)
    clear hK K
    simp only [Act.put]
    refine take_op (i := 12) (v := x4) rfl (by kernel_rfl) (by kernel_rfl) (by kernel_rfl) (fun _ _ _ h => h) (Or.inl ⟨by rfl, fun w hw => by go_simp⟩) hS5 ?_
    try simp only [Act.put, List.setIfInBounds_toArray, List.set_cons_zero, List.set_cons_succ]
    refine take_op (i := 13) (v := .bool true) rfl (by kernel_rfl) (by kernel_rfl) (by kernel_rfl) (fun _ _ _ h => h) (Or.inl ⟨by rfl, fun w hw => by go_simp⟩) hS5 ?_
    try simp only [Act.put, List.setIfInBounds_toArray, List.set_cons_zero, List.set_cons_succ]
    refine wpAnyH_done (by kernel_rfl) ?_ _
    refine NoPanic.normal ?_
    go_wp2_with fail
    have hb24 : Below w2.heap.size w2 w4 := HB2S.out.trans (hb4.mono HB2S.out.size)
    have hT4 : Turns W0 w4 mb := hT2.trans (Turns.of_below _ hb24)
    obtain ⟨WX, hWX⟩ : ∃ WX, w4.setCells (w.heap.size + 1 + 1) 0 [.int .u8 (a0.toNat : Nat), .int .u8 (a1.toNat : Nat), .int .u8 (a2.toNat : Nat), .int .u8 (a3.toNat : Nat), .int .u8 (a4.toNat : Nat), .int .u8 (a5.toNat : Nat), .int .u8 (a6.toNat : Nat), .int .u8 (a7.toNat : Nat), .int .u8 (a8.toNat : Nat), .int .u8 (a9.toNat : Nat), .int .u8 (aA.toNat : Nat), .int .u8 (aB.toNat : Nat), .int .u8 (aC.toNat : Nat), .int .u8 (aD.toNat : Nat), .int .u8 (aE.toNat : Nat), .int .u8 (aF.toNat : Nat), nv2] = WX := ⟨_, rfl⟩
    have hTX : WX.rangeAt (w.heap.size + 1 + 1) 0 [.int .u8 (a0.toNat : Nat), .int .u8 (a1.toNat : Nat), .int .u8 (a2.toNat : Nat), .int .u8 (a3.toNat : Nat), .int .u8 (a4.toNat : Nat), .int .u8 (a5.toNat : Nat), .int .u8 (a6.toNat : Nat), .int .u8 (a7.toNat : Nat), .int .u8 (a8.toNat : Nat), .int .u8 (a9.toNat : Nat), .int .u8 (aA.toNat : Nat), .int .u8 (aB.toNat : Nat), .int .u8 (aC.toNat : Nat), .int .u8 (aD.toNat : Nat), .int .u8 (aE.toNat : Nat), .int .u8 (aF.toNat : Nat), nv2] := by rw [<- hWX]; exact World.rangeAt_setCells_same _ _ _ _ (there_of (SB.out w4 hT4).2.2 (n := 17) rfl)
    have hbX : Below w.heap.size w4 WX := by rw [<- hWX]; exact World.below_setCells (by omega) _ _ _ (Below.refl _ _)
    have hTw : Turns w WX mb := Turns.after ((Turns.of_below mb HB0.out).trans hT4) hbX
    rw [hWX]
    have hmv : Moves okf ok w2 WX := by rw [<- hWX]; exact (Moves.below hb24).trans hb24.size (HFO.out _ _)
    have hmx : Moves (fun k => WS.drew.heap.size <= k) ok w4 WX := fun k hk _ => ⟨HHOK.out k (by have := hbd.size; omega), by rw [<- hWX]; exact World.other_setCells (by have := hbd.size; omega) _ _ _⟩
    exact bodyPost_ret (results_row3 (cs := [.int .u8 (a0.toNat : Nat), .int .u8 (a1.toNat : Nat), .int .u8 (a2.toNat : Nat), .int .u8 (a3.toNat : Nat), .int .u8 (a4.toNat : Nat), .int .u8 (a5.toNat : Nat), .int .u8 (a6.toNat : Nat), .int .u8 (a7.toNat : Nat), .int .u8 (a8.toNat : Nat), .int .u8 (a9.toNat : Nat), .int .u8 (aA.toNat : Nat), .int .u8 (aB.toNat : Nat), .int .u8 (aC.toNat : Nat), .int .u8 (aD.toNat : Nat), .int .u8 (aE.toNat : Nat), .int .u8 (aF.toNat : Nat), nv2]) rfl _ rfl hTX Tryz.underlying30 rfl (trie_len a0 a1 a2 a3 a4 a5 a6 a7 a8 a9 aA aB aC aD aE aF _)) rfl ⟨_, some n2, _, _, _, by rw [HTV.out]; rfl, HN2.out.move hmv, HL2.out, hx4.move goodSp hmx, (hm2.below hb24).belowN HML.out hbX, HLE.out.1, HLE.out.2, hTw⟩
  ·
    have hTb := Turns.refl W0 mb
    obtain ⟨y0, y1, y2⟩ := SO.out W0 hTb
    go_enter Tryz.func10, Tryz.ntmps10
    go_wp2_with (first
      | ((go_at_call 17; (with_reducible refine CG.out.mono ?_); rintro e w1 ⟨rfl, hb1⟩; have hT1 : Turns W0 w1 mb := Turns.of_below _ hb1; obtain ⟨z0, z1, z2⟩ := SO.out w1 hT1); have HR1 := Lib.hid (rng17 (SB.out w1 hT1).1))
      | (refine wpList_load_mid (P := Tryz.prog) rfl 30 (.tmp 4) rfl (w.heap.size) 0 rfl [.int .u8 (a0.toNat : Nat), .int .u8 (a1.toNat : Nat), .int .u8 (a2.toNat : Nat), .int .u8 (a3.toNat : Nat), .int .u8 (a4.toNat : Nat), .int .u8 (a5.toNat : Nat), .int .u8 (a6.toNat : Nat), .int .u8 (a7.toNat : Nat), .int .u8 (a8.toNat : Nat), .int .u8 (a9.toNat : Nat), .int .u8 (aA.toNat : Nat), .int .u8 (aB.toNat : Nat), .int .u8 (aC.toNat : Nat), .int .u8 (aD.toNat : Nat), .int .u8 (aE.toNat : Nat), .int .u8 (aF.toNat : Nat), nv] _ HR1.out Tryz.underlying30 rfl (trie_len a0 a1 a2 a3 a4 a5 a6 a7 a8 a9 aA aB aC aD aE aF _) ?_; simp only [Act.put, List.setIfInBounds_toArray, List.set_cons_zero, List.set_cons_succ])
      | (go_at_call 19; (with_reducible refine (CP.out _ hb1).mono ?_); rintro e w2 ⟨nv2, n2, rfl, hn2, hl2, hm2, ht2⟩; have hT2 : Turns W0 w2 mb := hT1.trans ht2; have hone2 := one_node (ok := okf) (w := w2) (v := nv2) (o := some n2) hn2; have HN2 := Lib.hid hn2; have HL2 := Lib.hid hl2; have HTH := Lib.hid (there_of (W := w2.alloc (.cells #[.int .u8 0, .int .u8 0, .int .u8 0, .int .u8 0, .int .u8 0, .int .u8 0, .int .u8 0, .int .u8 0, .int .u8 0, .int .u8 0, .int .u8 0, .int .u8 0, .int .u8 0, .int .u8 0, .int .u8 0, .int .u8 0, .nilIface] 30)) (b := w2.heap.size) (n := 17) (heap_alloc_new w2 _) rfl); obtain ⟨WS, hWS⟩ : ∃ WS, (w2.alloc (.cells #[.int .u8 0, .int .u8 0, .int .u8 0, .int .u8 0, .int .u8 0, .int .u8 0, .int .u8 0, .int .u8 0, .int .u8 0, .int .u8 0, .int .u8 0, .int .u8 0, .int .u8 0, .int .u8 0, .int .u8 0, .int .u8 0, .nilIface] 30)).setCells w2.heap.size 0 [.int .u8 (a0.toNat : Nat), .int .u8 (a1.toNat : Nat), .int .u8 (a2.toNat : Nat), .int .u8 (a3.toNat : Nat), .int .u8 (a4.toNat : Nat), .int .u8 (a5.toNat : Nat), .int .u8 (a6.toNat : Nat), .int .u8 (a7.toNat : Nat), .int .u8 (a8.toNat : Nat), .int .u8 (a9.toNat : Nat), .int .u8 (aA.toNat : Nat), .int .u8 (aB.toNat : Nat), .int .u8 (aC.toNat : Nat), .int .u8 (aD.toNat : Nat), .int .u8 (aE.toNat : Nat), .int .u8 (aF.toNat : Nat), nv2] = WS := ⟨_, rfl⟩; have HWS := Lib.hid hWS; clear hWS hn2 hl2)
      | (refine wpList_store_mid (P := Tryz.prog) rfl 30 (.tmp 14) (.tmp 42) rfl (w2.heap.size) 0 #[.int .u8 (a0.toNat : Nat), .int .u8 (a1.toNat : Nat), .int .u8 (a2.toNat : Nat), .int .u8 (a3.toNat : Nat), .int .u8 (a4.toNat : Nat), .int .u8 (a5.toNat : Nat), .int .u8 (a6.toNat : Nat), .int .u8 (a7.toNat : Nat), .int .u8 (a8.toNat : Nat), .int .u8 (a9.toNat : Nat), .int .u8 (aA.toNat : Nat), .int .u8 (aB.toNat : Nat), .int .u8 (aC.toNat : Nat), .int .u8 (aD.toNat : Nat), .int .u8 (aE.toNat : Nat), .int .u8 (aF.toNat : Nat), nv2] rfl rfl HTH.out trie_size (one17 a0 a1 a2 a3 a4 a5 a6 a7 a8 a9 aA aB aC aD aE aF hone2) ?_; simp only [HWS.out, Act.put]))
    have hsz2 := (HB0.out.trans (hb1.mono HB0.out.size)).size
    have hb2S : Below w2.heap.size w2 WS := by rw [<- HWS.out]; exact World.below_setCells (Nat.le_refl _) _ _ _ (by exact gB3)
    have hs2 : w.heap.size + 3 <= w2.heap.size := Nat.le_trans HS0.out hT2.size
    have hTS : Turns W0 WS mb := hT2.trans (Turns.of_below _ hb2S)
    have hrS : WS.rangeAt w2.heap.size 0 [.int .u8 (a0.toNat : Nat), .int .u8 (a1.toNat : Nat), .int .u8 (a2.toNat : Nat), .int .u8 (a3.toNat : Nat), .int .u8 (a4.toNat : Nat), .int .u8 (a5.toNat : Nat), .int .u8 (a6.toNat : Nat), .int .u8 (a7.toNat : Nat), .int .u8 (a8.toNat : Nat), .int .u8 (a9.toNat : Nat), .int .u8 (aA.toNat : Nat), .int .u8 (aB.toNat : Nat), .int .u8 (aC.toNat : Nat), .int .u8 (aD.toNat : Nat), .int .u8 (aE.toNat : Nat), .int .u8 (aF.toNat : Nat), nv2] := by rw [<- HWS.out]; exact World.rangeAt_setCells_same _ _ _ _ HTH.out
    have hltS : w2.heap.size < WS.heap.size := World.block_lt_of_cell? WS _ (hrS 0 _ rfl)
    have HRS : Hid (∀ W : World, Keeps WS (w.heap.size + 1 + 1) W -> W.rangeAt w2.heap.size 0 [.int .u8 (a0.toNat : Nat), .int .u8 (a1.toNat : Nat), .int .u8 (a2.toNat : Nat), .int .u8 (a3.toNat : Nat), .int .u8 (a4.toNat : Nat), .int .u8 (a5.toNat : Nat), .int .u8 (a6.toNat : Nat), .int .u8 (a7.toNat : Nat), .int .u8 (a8.toNat : Nat), .int .u8 (a9.toNat : Nat), .int .u8 (aA.toNat : Nat), .int .u8 (aB.toNat : Nat), .int .u8 (aC.toNat : Nat), .int .u8 (aD.toNat : Nat), .int .u8 (aE.toNat : Nat), .int .u8 (aF.toNat : Nat), nv2]) := Lib.hid fun W hW => hW.rng hltS (by omega) hrS
    have CU2 := Lib.hid (fun (W : World) (hW : Below WS.heap.size WS W) => CU.out W (HRW.out W ((Turns.of_below _ HB0.out).trans (hTS.trans (Turns.of_below _ hW)))))
    have HB2S := Lib.hid hb2S
    clear y0 y1 y2 z0 z1 z2 q1
    have hbd : Below WS.heap.size WS WS.drew := by exact gB3
    have hS0 : Keeps WS (w.heap.size + 1 + 1) WS.drew := (Keeps.refl _ _).below hbd
    have HC2 : Hid (∀ W : World, Keeps WS (w.heap.size + 1 + 1) W -> W.cell? ⟨w.heap.size + 1, 2, none⟩ = some (.slice V p.2.length cv) /\ (convert 33 9 (.slice V p.2.length cv)).run Tryz.prog W = .ok (.string ⟨p.2.toArray⟩) W) := Lib.hid fun W hW => ⟨(World.cell?_of_block (hW (w.heap.size + 1) (by omega) (by omega))).trans (SO.out WS hTS).2.2, HQ2.out WS ((Turns.of_below _ HB0.out).trans hTS) W (fun k hk => hW k (by omega) (by omega))⟩
    clear hb2S
    refine wp_region_noPanic ?_
    refine wp_region_held_drew (S := Keeps WS (w.heap.size + 1 + 1)) (by kernel_rfl) hS0 (fun _ => ?_)
    refine take_op (i := 0) rfl (by kernel_rfl) (by kernel_rfl) (by kernel_rfl) (fun _ _ _ h => h) (yieldsIf_load_mid (by rfl) _ _ rfl _ _ rfl _ _ (fun w h => HRS.out w h) Tryz.underlying30 rfl (trie_len a0 a1 a2 a3 a4 a5 a6 a7 a8 a9 aA aB aC aD aE aF _)) hS0 ?_
    try simp only [Act.put, List.setIfInBounds_toArray, List.set_cons_zero, List.set_cons_succ]
    refine take_op (i := 1) (v := .slice X m.length cx) rfl (by kernel_rfl) (by kernel_rfl) (by kernel_rfl) (fun _ _ _ h => h) (Or.inl ⟨by rfl, fun w hw => by go_simp⟩) hS0 ?_
    try simp only [Act.put, List.setIfInBounds_toArray, List.set_cons_zero, List.set_cons_succ]
    refine take_op (i := 2) (v := .string ⟨p.1.toArray⟩) rfl (by kernel_rfl) (by kernel_rfl) (by kernel_rfl) (fun _ _ _ h => h) (Or.inl ⟨by rfl, fun w hw => by go_simp⟩) hS0 ?_
    try simp only [Act.put, List.setIfInBounds_toArray, List.set_cons_zero, List.set_cons_succ]
    refine take_op (i := 3) (v := .pointer (some ⟨w.heap.size + 1, 2, none⟩)) rfl (by kernel_rfl) (by kernel_rfl) (by kernel_rfl) (fun _ _ _ h => h) (Or.inl ⟨by rfl, fun w hw => by go_simp⟩) hS0 ?_
    try simp only [Act.put, List.setIfInBounds_toArray, List.set_cons_zero, List.set_cons_succ]
    refine take_op (i := 4) (v := .slice V p.2.length cv) rfl (by kernel_rfl) (by kernel_rfl) (by kernel_rfl) (fun _ _ _ h => h) (Or.inl ⟨by rfl, fun w hw => by have hc := (HC2.out w hw).1; go_simp⟩) hS0 ?_
    try simp only [Act.put, List.setIfInBounds_toArray, List.set_cons_zero, List.set_cons_succ]
    refine take_op (i := 5) (v := .string ⟨p.2.toArray⟩) rfl (by kernel_rfl) (by kernel_rfl) (by kernel_rfl) (fun _ _ _ h => h) (Or.inl ⟨by rfl, fun w hw => by have hc := (HC2.out w hw).2; go_simp⟩) hS0 ?_
    try simp only [Act.put, List.setIfInBounds_toArray, List.set_cons_zero, List.set_cons_succ]
    refine take_op (i := 6) (v := .agg #[.string ⟨p.1.toArray⟩, .string ⟨p.2.toArray⟩]) rfl (by kernel_rfl) (by kernel_rfl) (by kernel_rfl) (fun _ _ _ h => h) (Or.inl ⟨by rfl, fun w hw => by go_simp⟩) hS0 ?_
    try simp only [Act.put, List.setIfInBounds_toArray, List.set_cons_zero, List.set_cons_succ]
    refine take_op (i := 8) (v := .bool false) rfl (by kernel_rfl) (by kernel_rfl) (by kernel_rfl) (fun _ _ _ h => h) (Or.inl ⟨by rfl, fun w hw => by go_simp⟩) hS0 ?_
    try simp only [Act.put, List.setIfInBounds_toArray, List.set_cons_zero, List.set_cons_succ]
    refine take_op (i := 9) (v := .bool true) rfl (by kernel_rfl) (by kernel_rfl) (by kernel_rfl) (fun _ _ _ h => h) (Or.inl ⟨by rfl, fun w hw => by go_simp⟩) hS0 ?_
    try simp only [Act.put, List.setIfInBounds_toArray, List.set_cons_zero, List.set_cons_succ]
    refine take_op (i := 10) (v := .bool true) rfl (by kernel_rfl) (by kernel_rfl) (by kernel_rfl) (fun _ _ _ h => h) (Or.inl ⟨by rfl, fun w hw => by go_simp⟩) hS0 ?_
    try simp only [Act.put, List.setIfInBounds_toArray, List.set_cons_zero, List.set_cons_succ]
    refine ready_op (i := 7) rfl (by kernel_rfl) (by rfl) (fun K hK => ?_)
    go_simp
    refine (CU2.out _ hbd).mono ?_
    rintro e w4 ⟨x4, rfl, hx4, hb4'⟩
    have hb4 : Below WS.heap.size WS w4 := hbd.trans (hb4'.mono hbd.size)
    go_wp2_with fail
    refine hK.out _ _ (hS0.below (hb4'.mono hbd.size)) (fun hS4 => ?_)
    clear hK K
    try simp only [Act.put]
    refine ready_op (i := 11) rfl (by kernel_rfl) (by rfl) (fun K hK => ?_)
    refine wp_store_mid _ _ _ rfl _ _ (List.toArray _) rfl rfl (there_of (SB.out w4 (hTS.trans (Turns.of_below _ hb4))).2.2 (n := 17) rfl) trie_size (one17 a0 a1 a2 a3 a4 a5 a6 a7 a8 a9 aA aB aC aD aE aF hone2) ?_
    refine hK.out _ _ (hS4.cells _) (fun hS5 => ?_)
    clear hK K
    simp only [Act.put]
    refine take_op (i := 12) (v := x4) rfl (by kernel_rfl) (by kernel_rfl) (by kernel_rfl) (fun _ _ _ h => h) (Or.inl ⟨by rfl, fun w hw => by go_simp⟩) hS5 ?_
    try simp only [Act.put, List.setIfInBounds_toArray, List.set_cons_zero, List.set_cons_succ]
    refine take_op (i := 13) (v := .bool true) rfl (by kernel_rfl) (by kernel_rfl) (by kernel_rfl) (fun _ _ _ h => h) (Or.inl ⟨by rfl, fun w hw => by go_simp⟩) hS5 ?_
    try simp only [Act.put, List.setIfInBounds_toArray, List.set_cons_zero, List.set_cons_succ]
    refine wpAnyH_done (by kernel_rfl) ?_ _
    refine NoPanic.normal ?_
    go_wp2_with fail
    have hb24 : Below w2.heap.size w2 w4 := HB2S.out.trans (hb4.mono HB2S.out.size)
    have hT4 : Turns W0 w4 mb := hT2.trans (Turns.of_below _ hb24)
    obtain ⟨WX, hWX⟩ : ∃ WX, w4.setCells (w.heap.size + 1 + 1) 0 [.int .u8 (a0.toNat : Nat), .int .u8 (a1.toNat : Nat), .int .u8 (a2.toNat : Nat), .int .u8 (a3.toNat : Nat), .int .u8 (a4.toNat : Nat), .int .u8 (a5.toNat : Nat), .int .u8 (a6.toNat : Nat), .int .u8 (a7.toNat : Nat), .int .u8 (a8.toNat : Nat), .int .u8 (a9.toNat : Nat), .int .u8 (aA.toNat : Nat), .int .u8 (aB.toNat : Nat), .int .u8 (aC.toNat : Nat), .int .u8 (aD.toNat : Nat), .int .u8 (aE.toNat : Nat), .int .u8 (aF.toNat : Nat), nv2] = WX := ⟨_, rfl⟩
    have hTX : WX.rangeAt (w.heap.size + 1 + 1) 0 [.int .u8 (a0.toNat : Nat), .int .u8 (a1.toNat : Nat), .int .u8 (a2.toNat : Nat), .int .u8 (a3.toNat : Nat), .int .u8 (a4.toNat : Nat), .int .u8 (a5.toNat : Nat), .int .u8 (a6.toNat : Nat), .int .u8 (a7.toNat : Nat), .int .u8 (a8.toNat : Nat), .int .u8 (a9.toNat : Nat), .int .u8 (aA.toNat : Nat), .int .u8 (aB.toNat : Nat), .int .u8 (aC.toNat : Nat), .int .u8 (aD.toNat : Nat), .int .u8 (aE.toNat : Nat), .int .u8 (aF.toNat : Nat), nv2] := by rw [<- hWX]; exact World.rangeAt_setCells_same _ _ _ _ (there_of (SB.out w4 hT4).2.2 (n := 17) rfl)
    have hbX : Below w.heap.size w4 WX := by rw [<- hWX]; exact World.below_setCells (by omega) _ _ _ (Below.refl _ _)
    have hTw : Turns w WX mb := Turns.after ((Turns.of_below mb HB0.out).trans hT4) hbX
    rw [hWX]
    have hmv : Moves okf ok w2 WX := by rw [<- hWX]; exact (Moves.below hb24).trans hb24.size (HFO.out _ _)
    have hmx : Moves (fun k => WS.drew.heap.size <= k) ok w4 WX := fun k hk _ => ⟨HHOK.out k (by have := hbd.size; omega), by rw [<- hWX]; exact World.other_setCells (by have := hbd.size; omega) _ _ _⟩
    exact bodyPost_ret (results_row3 (cs := [.int .u8 (a0.toNat : Nat), .int .u8 (a1.toNat : Nat), .int .u8 (a2.toNat : Nat), .int .u8 (a3.toNat : Nat), .int .u8 (a4.toNat : Nat), .int .u8 (a5.toNat : Nat), .int .u8 (a6.toNat : Nat), .int .u8 (a7.toNat : Nat), .int .u8 (a8.toNat : Nat), .int .u8 (a9.toNat : Nat), .int .u8 (aA.toNat : Nat), .int .u8 (aB.toNat : Nat), .int .u8 (aC.toNat : Nat), .int .u8 (aD.toNat : Nat), .int .u8 (aE.toNat : Nat), .int .u8 (aF.toNat : Nat), nv2]) rfl _ rfl hTX Tryz.underlying30 rfl (trie_len a0 a1 a2 a3 a4 a5 a6 a7 a8 a9 aA aB aC aD aE aF _)) rfl ⟨_, some n2, _, _, _, by rw [HTV.out]; rfl, HN2.out.move hmv, HL2.out, hx4.move goodSp hmx, (hm2.below hb24).belowN HML.out hbX, HLE.out.1, HLE.out.2, hTw⟩
end Go.Proofs.YtadaoceidkagfaaGreatDoor
/- law21.step: a get. -/
namespace Go.Proofs.YtadaoceidkagfaaGreatDoor
open Go.RowKit Go.Bw
theorem told_bytes {w w' : World} {u : Value} {b : Bool} {r : Option Bw.Bytes} (h : LookFresh w w' u b r) : BytesAt (fun k => w.heap.size <= k) w' u (r.getD []) /\ b = r.isSome := by
  cases r with
  | none =>
    obtain ⟨rfl, rfl⟩ := h
    exact ⟨⟨none, 0, rfl, Nat.le_refl _, Nat.zero_le _, fun _ => rfl, fun _ e _ => (by cases e), fun j x hj => (by simp at hj)⟩, rfl⟩
  | some x => exact ⟨h.2, h.1⟩
theorem look_low {h : Nat} {k : Bw.Bytes} {L : Nat} (h1 : 1 <= L) : ∀ (f level : Nat) (o : Option Bw.N), (∀ n, o = some n -> n.low L) ->
    (Bw.wayO f o h level).2 + (Bw.costEnd (Bw.wayO f o h level).1 h k).1 <= f + L /\ (Bw.costEnd (Bw.wayO f o h level).1 h k).2 <= (Bw.costEnd (Bw.wayO f o h level).1 h k).1
  | f, level, none, _ => by rw [Bw.wayO_none]; exact ⟨Nat.zero_le _, Nat.le_refl _⟩
  | f, level, some (.leaf g q), _ => by
    rw [Bw.wayO_leaf]
    refine ⟨?_, ?_⟩
    · show 0 + 1 <= f + L
      omega
    · show (if g = h then 1 else 0) <= 1
      split <;> decide
  | f, level, some (.bucket g t), hn => by
    rw [Bw.wayO_bucket]
    have hl : t.hi <= L := hn _ rfl
    have hd := steps_le k t
    show 0 + (if g = h then (t.steps k, t.steps k) else (0, 0)).1 <= f + L /\ (if g = h then (t.steps k, t.steps k) else (0, 0)).2 <= (if g = h then (t.steps k, t.steps k) else (0, 0)).1
    split
    · refine ⟨?_, Nat.le_refl _⟩
      show 0 + t.steps k <= f + L
      omega
    · refine ⟨?_, Nat.le_refl _⟩
      show 0 + 0 <= f + L
      omega
  | 0, level, some (.branch m kids), _ => ⟨Nat.zero_le _, Nat.le_refl _⟩
  | f + 1, level, some (.branch m kids), hn => by
    have hb : (Bw.N.branch m kids).low L := hn _ rfl
    simp only [Bw.N.low, Bw.N.lowL_iff] at hb
    have ih := look_low (h := h) (k := k) h1 f (level + 1) (Bw.kidO m kids (Bw.chunkAt h level)) fun n e => by
      unfold Bw.kidO at e
      split at e
      · exact hb n (List.mem_of_getElem? e)
      · cases e
    simp only [Bw.wayO]
    omega
set_option maxRecDepth 100000 in
set_option maxHeartbeats 4000000 in
theorem step_get {ok okb : Nat -> Prop} {mb : Option Nat} {s : List UInt8} {m : List Bw.PV} {o : Option Bw.N} {p : Bw.PV} {c : Nat × Nat} {w : World} {nv xv u1 u2 mv : Value} (H : StepIn ok okb mb s m o p c w nv xv u1 u2 mv) :
    Calls Tryz.prog 10 #[trieV s nv, xv, .agg #[.int .i64 3, u1, u2], mv] w (StepEnds ok mb s m m c w mv) := by
  obtain ⟨X, cx, rfl⟩ := H.row.form
  obtain ⟨U, cu, rfl⟩ := H.b1.form
  obtain ⟨V, cv, rfl⟩ := H.b2.form
  obtain ⟨AM, rfl⟩ := H.meter.form
  obtain ⟨a0, a1, a2, a3, a4, a5, a6, a7, a8, a9, aA, aB, aC, aD, aE, aF, hs16⟩ := mapE16 H.seed
  have htv : ∀ x, trieV s x = .agg #[.int .u8 (a0.toNat : Nat), .int .u8 (a1.toNat : Nat), .int .u8 (a2.toNat : Nat), .int .u8 (a3.toNat : Nat), .int .u8 (a4.toNat : Nat), .int .u8 (a5.toNat : Nat), .int .u8 (a6.toNat : Nat), .int .u8 (a7.toNat : Nat), .int .u8 (a8.toNat : Nat), .int .u8 (a9.toNat : Nat), .int .u8 (aA.toNat : Nat), .int .u8 (aB.toNat : Nat), .int .u8 (aC.toNat : Nat), .int .u8 (aD.toNat : Nat), .int .u8 (aE.toNat : Nat), .int .u8 (aF.toNat : Nat), x] := fun x => by rw [hs16]; rfl
  rw [htv]
  have HTV := Lib.hid htv
  have HML : Hid (∀ k, mb = some k -> k < w.heap.size) := Lib.hid fun k e => by subst e; exact H.meter.lt
  obtain ⟨W0, hW0⟩ : ∃ W0, ((w.alloc (.cells #[.int .u8 (a0.toNat : Nat), .int .u8 (a1.toNat : Nat), .int .u8 (a2.toNat : Nat), .int .u8 (a3.toNat : Nat), .int .u8 (a4.toNat : Nat), .int .u8 (a5.toNat : Nat), .int .u8 (a6.toNat : Nat), .int .u8 (a7.toNat : Nat), .int .u8 (a8.toNat : Nat), .int .u8 (a9.toNat : Nat), .int .u8 (aA.toNat : Nat), .int .u8 (aB.toNat : Nat), .int .u8 (aC.toNat : Nat), .int .u8 (aD.toNat : Nat), .int .u8 (aE.toNat : Nat), .int .u8 (aF.toNat : Nat), nv] 30)).alloc (.cells #[.int .i64 3, .slice U p.1.length cu, .slice V p.2.length cv] 35)).alloc (.cells #[.int .u8 0, .int .u8 0, .int .u8 0, .int .u8 0, .int .u8 0, .int .u8 0, .int .u8 0, .int .u8 0, .int .u8 0, .int .u8 0, .int .u8 0, .int .u8 0, .int .u8 0, .int .u8 0, .int .u8 0, .int .u8 0, .nilIface] 30) = W0 := ⟨_, rfl⟩
  have hB0 : Below w.heap.size w W0 := by rw [<- hW0]; exact gB3
  have hs0 : W0.heap.size = w.heap.size + 3 := by rw [<- hW0]; simp
  have hb0 : W0.heap[w.heap.size]? = some (.cells #[.int .u8 (a0.toNat : Nat), .int .u8 (a1.toNat : Nat), .int .u8 (a2.toNat : Nat), .int .u8 (a3.toNat : Nat), .int .u8 (a4.toNat : Nat), .int .u8 (a5.toNat : Nat), .int .u8 (a6.toNat : Nat), .int .u8 (a7.toNat : Nat), .int .u8 (a8.toNat : Nat), .int .u8 (a9.toNat : Nat), .int .u8 (aA.toNat : Nat), .int .u8 (aB.toNat : Nat), .int .u8 (aC.toNat : Nat), .int .u8 (aD.toNat : Nat), .int .u8 (aE.toNat : Nat), .int .u8 (aF.toNat : Nat), nv] 30 (0, 0)) := by rw [<- hW0]; exact (heap_alloc_old _ _ (by simp; omega)).trans ((heap_alloc_old _ _ (by simp)).trans (heap_alloc_new w _))
  have hb1 : W0.heap[w.heap.size + 1]? = some (.cells #[.int .i64 3, .slice U p.1.length cu, .slice V p.2.length cv] 35 (0, 0)) := by rw [<- hW0]; refine (heap_alloc_old _ _ (by simp)).trans ?_; have := heap_alloc_new (w.alloc (.cells #[.int .u8 (a0.toNat : Nat), .int .u8 (a1.toNat : Nat), .int .u8 (a2.toNat : Nat), .int .u8 (a3.toNat : Nat), .int .u8 (a4.toNat : Nat), .int .u8 (a5.toNat : Nat), .int .u8 (a6.toNat : Nat), .int .u8 (a7.toNat : Nat), .int .u8 (a8.toNat : Nat), .int .u8 (a9.toNat : Nat), .int .u8 (aA.toNat : Nat), .int .u8 (aB.toNat : Nat), .int .u8 (aC.toNat : Nat), .int .u8 (aD.toNat : Nat), .int .u8 (aE.toNat : Nat), .int .u8 (aF.toNat : Nat), nv] 30)) (.cells #[.int .i64 3, .slice U p.1.length cu, .slice V p.2.length cv] 35); simpa using this
  have hb2 : W0.heap[w.heap.size + 1 + 1]? = some (.cells #[.int .u8 0, .int .u8 0, .int .u8 0, .int .u8 0, .int .u8 0, .int .u8 0, .int .u8 0, .int .u8 0, .int .u8 0, .int .u8 0, .int .u8 0, .int .u8 0, .int .u8 0, .int .u8 0, .int .u8 0, .int .u8 0, .nilIface] 30 (0, 0)) := by rw [<- hW0]; have := heap_alloc_new ((w.alloc (.cells #[.int .u8 (a0.toNat : Nat), .int .u8 (a1.toNat : Nat), .int .u8 (a2.toNat : Nat), .int .u8 (a3.toNat : Nat), .int .u8 (a4.toNat : Nat), .int .u8 (a5.toNat : Nat), .int .u8 (a6.toNat : Nat), .int .u8 (a7.toNat : Nat), .int .u8 (a8.toNat : Nat), .int .u8 (a9.toNat : Nat), .int .u8 (aA.toNat : Nat), .int .u8 (aB.toNat : Nat), .int .u8 (aC.toNat : Nat), .int .u8 (aD.toNat : Nat), .int .u8 (aE.toNat : Nat), .int .u8 (aF.toNat : Nat), nv] 30)).alloc (.cells #[.int .i64 3, .slice U p.1.length cu, .slice V p.2.length cv] 35)) (.cells #[.int .u8 0, .int .u8 0, .int .u8 0, .int .u8 0, .int .u8 0, .int .u8 0, .int .u8 0, .int .u8 0, .int .u8 0, .int .u8 0, .int .u8 0, .int .u8 0, .int .u8 0, .int .u8 0, .int .u8 0, .int .u8 0, .nilIface] 30); simpa using this
  have hwm : ∀ k, w.heap.size <= k -> some k ≠ mb := fun k hk e => by have := HML.out k e.symm; omega
  have SB : Hid (∀ W, Turns W0 W mb -> W.heap[w.heap.size]? = some (.cells #[.int .u8 (a0.toNat : Nat), .int .u8 (a1.toNat : Nat), .int .u8 (a2.toNat : Nat), .int .u8 (a3.toNat : Nat), .int .u8 (a4.toNat : Nat), .int .u8 (a5.toNat : Nat), .int .u8 (a6.toNat : Nat), .int .u8 (a7.toNat : Nat), .int .u8 (a8.toNat : Nat), .int .u8 (a9.toNat : Nat), .int .u8 (aA.toNat : Nat), .int .u8 (aB.toNat : Nat), .int .u8 (aC.toNat : Nat), .int .u8 (aD.toNat : Nat), .int .u8 (aE.toNat : Nat), .int .u8 (aF.toNat : Nat), nv] 30 (0, 0)) /\ W.heap[w.heap.size + 1]? = some (.cells #[.int .i64 3, .slice U p.1.length cu, .slice V p.2.length cv] 35 (0, 0)) /\ W.heap[w.heap.size + 1 + 1]? = some (.cells #[.int .u8 0, .int .u8 0, .int .u8 0, .int .u8 0, .int .u8 0, .int .u8 0, .int .u8 0, .int .u8 0, .int .u8 0, .int .u8 0, .int .u8 0, .int .u8 0, .int .u8 0, .int .u8 0, .int .u8 0, .int .u8 0, .nilIface] 30 (0, 0))) :=
    Lib.hid fun W hW => ⟨(hW.block w.heap.size (by omega) (hwm _ (Nat.le_refl _))).trans hb0, (hW.block (w.heap.size + 1) (by omega) (hwm _ (by omega))).trans hb1, (hW.block (w.heap.size + 1 + 1) (by omega) (hwm _ (by omega))).trans hb2⟩
  have SO : Hid (∀ W, Turns W0 W mb -> W.cell? ⟨w.heap.size + 1, 0, none⟩ = some (.int .i64 3) /\ W.cell? ⟨w.heap.size + 1, 1, none⟩ = some (.slice U p.1.length cu) /\ W.cell? ⟨w.heap.size + 1, 2, none⟩ = some (.slice V p.2.length cv)) :=
    Lib.hid fun W hW => ⟨(cell_of_row W (w.heap.size + 1) 0 _ _ (0, 0) (SB.out W hW).2.1).trans rfl, (cell_of_row W (w.heap.size + 1) 1 _ _ (0, 0) (SB.out W hW).2.1).trans rfl, (cell_of_row W (w.heap.size + 1) 2 _ _ (0, 0) (SB.out W hW).2.1).trans rfl⟩
  have q1 := run_conv (P := Tryz.prog) 33 9 5 Tryz.underlying33 Tryz.underlying5 Tryz.underlying9 (H.b1.move goodByte (Moves.below hB0))
  have CG := Lib.hid (rget_any (ok := ok) (key := p.1) (m := m) (w := W0) (Nat.le_trans H.map.len (by decide)) (H.row.move goodSp (Moves.below hB0)))
  simp only [getV, str] at CG
  have HB0 := Lib.hid hB0
  have HS0 : Hid (w.heap.size + 3 <= W0.heap.size) := Lib.hid (by omega)
  obtain ⟨okf, hokf⟩ : ∃ okf : Nat -> Prop, okf = fun k => ok k /\ k ≠ w.heap.size + 1 + 1 := ⟨_, rfl⟩
  have hwo : Moves ok okf w w := Moves.weaken fun k hk hl => by rw [hokf]; exact ⟨hk, by omega⟩
  have hfm : ∀ k, okf k -> some k ≠ mb := fun k hk => by rw [hokf] at hk; exact H.hokm k hk.1
  have hfs : ∀ W, Below W0.heap.size W0 W -> ∀ k, W.heap.size <= k -> okf k := fun W hW k hk => by have := hW.size; rw [hokf]; exact ⟨H.hok k (by omega), by omega⟩
  have HFO : Hid (∀ (W : World) (cs : List Value), Moves okf ok W (W.setCells (w.heap.size + 1 + 1) 0 cs)) := Lib.hid fun W cs k hk _ => by rw [hokf] at hk; exact ⟨hk.1, World.other_setCells hk.2 cs 0 W⟩
  have hnf := onode_form H.node
  have CP := fun (W : World) (hW : Below W0.heap.size W0 W) => tget_trie (ok := okf) (okb := okb) (mb := mb) (s := s) (m := m) (key := p.1) (o := o) (nv := nv) (c := c) (w := W) H.seed H.map (H.node.move (hwo.trans (Nat.le_refl _) (Moves.below (hB0.trans (hW.mono hB0.size))))) H.lays (H.b1.move goodByte (Moves.below (hB0.trans (hW.mono hB0.size)))) H.p1 (H.meter.below (hB0.trans (hW.mono hB0.size))) hfm H.hokb (H.sta.below H.sta.pos (hB0.trans (hW.mono hB0.size))) ⟨H.c1, H.c2⟩
  simp only [htv] at CP
  have CP := Lib.hid CP
  have HLE : Hid ((lookCost o (Bw.sipHash s p.1) p.1).2 <= (lookCost o (Bw.sipHash s p.1) p.1).1 /\ ∀ L : Nat, (m.length + 1) ^ 6 < 2 ^ L -> (lookCost o (Bw.sipHash s p.1) p.1).1 <= 13 + L) := Lib.hid ⟨Nat.le_trans (look_low (h := Bw.sipHash s p.1) (k := p.1) (L := (m.length + 1) ^ 6) (Nat.one_le_pow _ _ (Nat.succ_pos _)) 13 0 o (ents_low H.map H.lays Nat.lt_two_pow_self)).2 (Nat.le_add_left _ _), fun L hL => (look_low (h := Bw.sipHash s p.1) (k := p.1) (one_le_L hL) 13 0 o (ents_low H.map H.lays hL)).1⟩
  have HH := Lib.hid H
  have hone2 := one_node H.node
  generalize lookCost o (Bw.sipHash s p.1) p.1 = cc at *
  have told : ∀ (W W' : World) (u : Value) (b : Bool), LookFresh W W' u b (Bw.get m p.1) -> BytesAt (fun k => W.heap.size <= k) W' u ((Bw.get m p.1).getD []) /\ b = (Bw.get m p.1).isSome := fun W W' u b h => told_bytes h
  have TOLD := Lib.hid told
  clear told
  generalize (Bw.get m p.1).isSome = gb at *
  generalize (Bw.get m p.1).getD [] = gs at *
  clear hB0 hs0 hb0 hb1 hb2 hwm hs16 htv H hokf hwo hfm hfs hnf
  cases gb
  ·
    have hTb := Turns.refl W0 mb
    obtain ⟨y0, y1, y2⟩ := SO.out W0 hTb
    go_enter Tryz.func10, Tryz.ntmps10
    go_wp2_with (first
      | ((go_at_call 17; (with_reducible refine CG.out.mono ?_); rintro e w1 ⟨rfl, hb1⟩; have hT1 : Turns W0 w1 mb := Turns.of_below _ hb1; obtain ⟨z0, z1, z2⟩ := SO.out w1 hT1); have HR1 := Lib.hid (rng17 (SB.out w1 hT1).1))
      | (refine wpList_load_mid (P := Tryz.prog) rfl 30 (.tmp 4) rfl (w.heap.size) 0 rfl [.int .u8 (a0.toNat : Nat), .int .u8 (a1.toNat : Nat), .int .u8 (a2.toNat : Nat), .int .u8 (a3.toNat : Nat), .int .u8 (a4.toNat : Nat), .int .u8 (a5.toNat : Nat), .int .u8 (a6.toNat : Nat), .int .u8 (a7.toNat : Nat), .int .u8 (a8.toNat : Nat), .int .u8 (a9.toNat : Nat), .int .u8 (aA.toNat : Nat), .int .u8 (aB.toNat : Nat), .int .u8 (aC.toNat : Nat), .int .u8 (aD.toNat : Nat), .int .u8 (aE.toNat : Nat), .int .u8 (aF.toNat : Nat), nv] _ HR1.out Tryz.underlying30 rfl (trie_len a0 a1 a2 a3 a4 a5 a6 a7 a8 a9 aA aB aC aD aE aF _) ?_; simp only [Act.put, List.setIfInBounds_toArray, List.set_cons_zero, List.set_cons_succ])
      | (go_at_call 25; (with_reducible refine (CP.out _ hb1).mono ?_); rintro e w2 ⟨u2, b2, rfl, hlt, hm2, ht2⟩; obtain ⟨hu2, rfl⟩ := TOLD.out _ _ _ _ hlt; obtain ⟨U2, cu2, rfl⟩ := hu2.form; have HU2 := Lib.hid hu2; have HW1 : Hid (w.heap.size + 3 <= w1.heap.size) := Lib.hid (Nat.le_trans HS0.out hT1.size); have HM2 := Lib.hid hm2; have HT2 : Hid (Turns W0 w2 mb) := Lib.hid (hT1.trans ht2); clear hlt hu2 hm2 ht2))
    have hsz2 : w.heap.size + 3 <= w2.heap.size := Nat.le_trans HS0.out HT2.out.size
    have hbd : Below w2.heap.size w2 w2.drew := by exact gB3
    have hTd : Turns W0 w2.drew mb := HT2.out.trans (Turns.of_below _ hbd)
    have hS0 : Keeps w2 (w.heap.size + 1 + 1) w2.drew := (Keeps.refl _ _).below hbd
    have HRS : Hid (∀ W : World, Keeps w2 (w.heap.size + 1 + 1) W -> W.rangeAt w.heap.size 0 [.int .u8 (a0.toNat : Nat), .int .u8 (a1.toNat : Nat), .int .u8 (a2.toNat : Nat), .int .u8 (a3.toNat : Nat), .int .u8 (a4.toNat : Nat), .int .u8 (a5.toNat : Nat), .int .u8 (a6.toNat : Nat), .int .u8 (a7.toNat : Nat), .int .u8 (a8.toNat : Nat), .int .u8 (a9.toNat : Nat), .int .u8 (aA.toNat : Nat), .int .u8 (aB.toNat : Nat), .int .u8 (aC.toNat : Nat), .int .u8 (aD.toNat : Nat), .int .u8 (aE.toNat : Nat), .int .u8 (aF.toNat : Nat), nv]) := Lib.hid fun W hW => hW.rng (by omega) (by omega) (rng17 (SB.out w2 HT2.out).1)
    have HQ2 : Hid (∀ W : World, Keeps w2 (w.heap.size + 1 + 1) W -> (convert 33 9 (.slice U2 gs.length cu2)).run Tryz.prog W = .ok (.string ⟨gs.toArray⟩) W) := Lib.hid fun W hW => run_conv (P := Tryz.prog) 33 9 5 Tryz.underlying33 Tryz.underlying5 Tryz.underlying9 (HU2.out.move (ok' := AllB) goodByte (fun k hk hl => ⟨trivial, hW k hl (by have := HW1.out; omega)⟩))
    clear y0 y1 y2 z0 z1 z2 q1 hT1 hb1
    refine wp_region_noPanic ?_
    refine wp_region_held_drew (S := Keeps w2 (w.heap.size + 1 + 1)) (by kernel_rfl) hS0 (fun _ => ?_)
    refine take_op (i := 0) rfl (by kernel_rfl) (by kernel_rfl) (by kernel_rfl) (fun _ _ _ h => h) (yieldsIf_load_mid (by rfl) _ _ rfl _ _ rfl _ _ (fun w h => HRS.out w h) Tryz.underlying30 rfl (trie_len a0 a1 a2 a3 a4 a5 a6 a7 a8 a9 aA aB aC aD aE aF _)) hS0 ?_
    try simp only [Act.put, List.setIfInBounds_toArray, List.set_cons_zero, List.set_cons_succ]
    refine take_op (i := 1) (v := .slice X m.length cx) rfl (by kernel_rfl) (by kernel_rfl) (by kernel_rfl) (fun _ _ _ h => h) (Or.inl ⟨by rfl, fun w hw => by go_simp⟩) hS0 ?_
    try simp only [Act.put, List.setIfInBounds_toArray, List.set_cons_zero, List.set_cons_succ]
    refine take_op (i := 2) (v := .bool false) rfl (by kernel_rfl) (by kernel_rfl) (by kernel_rfl) (fun _ _ _ h => h) (Or.inl ⟨by rfl, fun w hw => by go_simp⟩) hS0 ?_
    try simp only [Act.put, List.setIfInBounds_toArray, List.set_cons_zero, List.set_cons_succ]
    refine take_op (i := 3) (v := .bool false) rfl (by kernel_rfl) (by kernel_rfl) (by kernel_rfl) (fun _ _ _ h => h) (Or.inl ⟨by rfl, fun w hw => by go_simp⟩) hS0 ?_
    try simp only [Act.put, List.setIfInBounds_toArray, List.set_cons_zero, List.set_cons_succ]
    refine take_op (i := 4) (v := .bool true) rfl (by kernel_rfl) (by kernel_rfl) (by kernel_rfl) (fun _ _ _ h => h) (Or.inl ⟨by rfl, fun w hw => by go_simp⟩) hS0 ?_
    try simp only [Act.put, List.setIfInBounds_toArray, List.set_cons_zero, List.set_cons_succ]
    refine take_op (i := 5) (v := .bool true) rfl (by kernel_rfl) (by kernel_rfl) (by kernel_rfl) (fun _ _ _ h => h) (Or.inl ⟨by rfl, fun w hw => by go_simp⟩) hS0 ?_
    try simp only [Act.put, List.setIfInBounds_toArray, List.set_cons_zero, List.set_cons_succ]
    refine take_op (i := 6) (v := .slice U2 gs.length cu2) rfl (by kernel_rfl) (by kernel_rfl) (by kernel_rfl) (fun _ _ _ h => h) (Or.inl ⟨by rfl, fun w hw => by go_simp⟩) hS0 ?_
    try simp only [Act.put, List.setIfInBounds_toArray, List.set_cons_zero, List.set_cons_succ]
    refine take_op (i := 8) (v := .string ⟨gs.toArray⟩) rfl (by kernel_rfl) (by kernel_rfl) (by kernel_rfl) (fun _ _ _ h => h) (Or.inl ⟨by rfl, fun w hw => by go_simp⟩) hS0 ?_
    try simp only [Act.put, List.setIfInBounds_toArray, List.set_cons_zero, List.set_cons_succ]
    refine take_op (i := 7) (v := .string ⟨gs.toArray⟩) rfl (by kernel_rfl) (by kernel_rfl) (by kernel_rfl) (fun _ _ _ h => h) (Or.inl ⟨by rfl, fun w hw => by have hc := HQ2.out w hw; go_simp⟩) hS0 ?_
    try simp only [Act.put, List.setIfInBounds_toArray, List.set_cons_zero, List.set_cons_succ]
    refine take_op (i := 9) (v := .bool true) rfl (by kernel_rfl) (by kernel_rfl) (by kernel_rfl) (fun _ _ _ h => h) (Or.inl ⟨by rfl, fun w hw => by go_simp⟩) hS0 ?_
    try simp only [Act.put, List.setIfInBounds_toArray, List.set_cons_zero, List.set_cons_succ]
    refine take_op (i := 10) (v := .bool true) rfl (by kernel_rfl) (by kernel_rfl) (by kernel_rfl) (fun _ _ _ h => h) (Or.inl ⟨by rfl, fun w hw => by go_simp⟩) hS0 ?_
    try simp only [Act.put, List.setIfInBounds_toArray, List.set_cons_zero, List.set_cons_succ]
    refine ready_op (i := 11) rfl (by kernel_rfl) (by rfl) (fun K hK => ?_)
    refine wp_store_mid _ _ _ rfl _ _ (List.toArray _) rfl rfl (there_of (SB.out w2.drew hTd).2.2 (n := 17) rfl) trie_size (one17 a0 a1 a2 a3 a4 a5 a6 a7 a8 a9 aA aB aC aD aE aF hone2) ?_
    refine hK.out _ _ (hS0.cells _) (fun hS5 => ?_)
    clear hK K
    simp only [Act.put]
    refine take_op (i := 12) (v := .slice X m.length cx) rfl (by kernel_rfl) (by kernel_rfl) (by kernel_rfl) (fun _ _ _ h => h) (Or.inl ⟨by rfl, fun w hw => by go_simp⟩) hS5 ?_
    try simp only [Act.put, List.setIfInBounds_toArray, List.set_cons_zero, List.set_cons_succ]
    refine take_op (i := 13) (v := .bool true) rfl (by kernel_rfl) (by kernel_rfl) (by kernel_rfl) (fun _ _ _ h => h) (Or.inl ⟨by rfl, fun w hw => by go_simp⟩) hS5 ?_
    try simp only [Act.put, List.setIfInBounds_toArray, List.set_cons_zero, List.set_cons_succ]
    refine wpAnyH_done (by kernel_rfl) ?_ _
    refine NoPanic.normal ?_
    go_wp2_with fail
    obtain ⟨WX, hWX⟩ : ∃ WX, w2.drew.setCells (w.heap.size + 1 + 1) 0 [.int .u8 (a0.toNat : Nat), .int .u8 (a1.toNat : Nat), .int .u8 (a2.toNat : Nat), .int .u8 (a3.toNat : Nat), .int .u8 (a4.toNat : Nat), .int .u8 (a5.toNat : Nat), .int .u8 (a6.toNat : Nat), .int .u8 (a7.toNat : Nat), .int .u8 (a8.toNat : Nat), .int .u8 (a9.toNat : Nat), .int .u8 (aA.toNat : Nat), .int .u8 (aB.toNat : Nat), .int .u8 (aC.toNat : Nat), .int .u8 (aD.toNat : Nat), .int .u8 (aE.toNat : Nat), .int .u8 (aF.toNat : Nat), nv] = WX := ⟨_, rfl⟩
    have hTX : WX.rangeAt (w.heap.size + 1 + 1) 0 [.int .u8 (a0.toNat : Nat), .int .u8 (a1.toNat : Nat), .int .u8 (a2.toNat : Nat), .int .u8 (a3.toNat : Nat), .int .u8 (a4.toNat : Nat), .int .u8 (a5.toNat : Nat), .int .u8 (a6.toNat : Nat), .int .u8 (a7.toNat : Nat), .int .u8 (a8.toNat : Nat), .int .u8 (a9.toNat : Nat), .int .u8 (aA.toNat : Nat), .int .u8 (aB.toNat : Nat), .int .u8 (aC.toNat : Nat), .int .u8 (aD.toNat : Nat), .int .u8 (aE.toNat : Nat), .int .u8 (aF.toNat : Nat), nv] := by rw [<- hWX]; exact World.rangeAt_setCells_same _ _ _ _ (there_of (SB.out w2.drew hTd).2.2 (n := 17) rfl)
    have hbX : Below w.heap.size w2 WX := by rw [<- hWX]; exact World.below_setCells (by omega) _ _ _ (hbd.mono (by omega))
    have hTw : Turns w WX mb := Turns.after ((Turns.of_below mb HB0.out).trans HT2.out) hbX
    rw [hWX]
    have hmv : Moves ok ok w WX := hTw.moves HH.out.hokm
    exact bodyPost_ret (results_row3 (cs := [.int .u8 (a0.toNat : Nat), .int .u8 (a1.toNat : Nat), .int .u8 (a2.toNat : Nat), .int .u8 (a3.toNat : Nat), .int .u8 (a4.toNat : Nat), .int .u8 (a5.toNat : Nat), .int .u8 (a6.toNat : Nat), .int .u8 (a7.toNat : Nat), .int .u8 (a8.toNat : Nat), .int .u8 (a9.toNat : Nat), .int .u8 (aA.toNat : Nat), .int .u8 (aB.toNat : Nat), .int .u8 (aC.toNat : Nat), .int .u8 (aD.toNat : Nat), .int .u8 (aE.toNat : Nat), .int .u8 (aF.toNat : Nat), nv]) rfl _ rfl hTX Tryz.underlying30 rfl (trie_len a0 a1 a2 a3 a4 a5 a6 a7 a8 a9 aA aB aC aD aE aF _)) rfl ⟨_, _, _, _, _, by rw [HTV.out]; rfl, HH.out.node.move hmv, HH.out.lays, HH.out.row.move goodSp hmv, HM2.out.belowN HML.out hbX, HLE.out.1, HLE.out.2, hTw⟩
  ·
    have hTb := Turns.refl W0 mb
    obtain ⟨y0, y1, y2⟩ := SO.out W0 hTb
    go_enter Tryz.func10, Tryz.ntmps10
    go_wp2_with (first
      | ((go_at_call 17; (with_reducible refine CG.out.mono ?_); rintro e w1 ⟨rfl, hb1⟩; have hT1 : Turns W0 w1 mb := Turns.of_below _ hb1; obtain ⟨z0, z1, z2⟩ := SO.out w1 hT1); have HR1 := Lib.hid (rng17 (SB.out w1 hT1).1))
      | (refine wpList_load_mid (P := Tryz.prog) rfl 30 (.tmp 4) rfl (w.heap.size) 0 rfl [.int .u8 (a0.toNat : Nat), .int .u8 (a1.toNat : Nat), .int .u8 (a2.toNat : Nat), .int .u8 (a3.toNat : Nat), .int .u8 (a4.toNat : Nat), .int .u8 (a5.toNat : Nat), .int .u8 (a6.toNat : Nat), .int .u8 (a7.toNat : Nat), .int .u8 (a8.toNat : Nat), .int .u8 (a9.toNat : Nat), .int .u8 (aA.toNat : Nat), .int .u8 (aB.toNat : Nat), .int .u8 (aC.toNat : Nat), .int .u8 (aD.toNat : Nat), .int .u8 (aE.toNat : Nat), .int .u8 (aF.toNat : Nat), nv] _ HR1.out Tryz.underlying30 rfl (trie_len a0 a1 a2 a3 a4 a5 a6 a7 a8 a9 aA aB aC aD aE aF _) ?_; simp only [Act.put, List.setIfInBounds_toArray, List.set_cons_zero, List.set_cons_succ])
      | (go_at_call 25; (with_reducible refine (CP.out _ hb1).mono ?_); rintro e w2 ⟨u2, b2, rfl, hlt, hm2, ht2⟩; obtain ⟨hu2, rfl⟩ := TOLD.out _ _ _ _ hlt; obtain ⟨U2, cu2, rfl⟩ := hu2.form; have HU2 := Lib.hid hu2; have HW1 : Hid (w.heap.size + 3 <= w1.heap.size) := Lib.hid (Nat.le_trans HS0.out hT1.size); have HM2 := Lib.hid hm2; have HT2 : Hid (Turns W0 w2 mb) := Lib.hid (hT1.trans ht2); clear hlt hu2 hm2 ht2))
    have hsz2 : w.heap.size + 3 <= w2.heap.size := Nat.le_trans HS0.out HT2.out.size
    have hbd : Below w2.heap.size w2 w2.drew := by exact gB3
    have hTd : Turns W0 w2.drew mb := HT2.out.trans (Turns.of_below _ hbd)
    have hS0 : Keeps w2 (w.heap.size + 1 + 1) w2.drew := (Keeps.refl _ _).below hbd
    have HRS : Hid (∀ W : World, Keeps w2 (w.heap.size + 1 + 1) W -> W.rangeAt w.heap.size 0 [.int .u8 (a0.toNat : Nat), .int .u8 (a1.toNat : Nat), .int .u8 (a2.toNat : Nat), .int .u8 (a3.toNat : Nat), .int .u8 (a4.toNat : Nat), .int .u8 (a5.toNat : Nat), .int .u8 (a6.toNat : Nat), .int .u8 (a7.toNat : Nat), .int .u8 (a8.toNat : Nat), .int .u8 (a9.toNat : Nat), .int .u8 (aA.toNat : Nat), .int .u8 (aB.toNat : Nat), .int .u8 (aC.toNat : Nat), .int .u8 (aD.toNat : Nat), .int .u8 (aE.toNat : Nat), .int .u8 (aF.toNat : Nat), nv]) := Lib.hid fun W hW => hW.rng (by omega) (by omega) (rng17 (SB.out w2 HT2.out).1)
    have HQ2 : Hid (∀ W : World, Keeps w2 (w.heap.size + 1 + 1) W -> (convert 33 9 (.slice U2 gs.length cu2)).run Tryz.prog W = .ok (.string ⟨gs.toArray⟩) W) := Lib.hid fun W hW => run_conv (P := Tryz.prog) 33 9 5 Tryz.underlying33 Tryz.underlying5 Tryz.underlying9 (HU2.out.move (ok' := AllB) goodByte (fun k hk hl => ⟨trivial, hW k hl (by have := HW1.out; omega)⟩))
    clear y0 y1 y2 z0 z1 z2 q1 hT1 hb1
    refine wp_region_noPanic ?_
    refine wp_region_held_drew (S := Keeps w2 (w.heap.size + 1 + 1)) (by kernel_rfl) hS0 (fun _ => ?_)
    refine take_op (i := 0) rfl (by kernel_rfl) (by kernel_rfl) (by kernel_rfl) (fun _ _ _ h => h) (yieldsIf_load_mid (by rfl) _ _ rfl _ _ rfl _ _ (fun w h => HRS.out w h) Tryz.underlying30 rfl (trie_len a0 a1 a2 a3 a4 a5 a6 a7 a8 a9 aA aB aC aD aE aF _)) hS0 ?_
    try simp only [Act.put, List.setIfInBounds_toArray, List.set_cons_zero, List.set_cons_succ]
    refine take_op (i := 1) (v := .slice X m.length cx) rfl (by kernel_rfl) (by kernel_rfl) (by kernel_rfl) (fun _ _ _ h => h) (Or.inl ⟨by rfl, fun w hw => by go_simp⟩) hS0 ?_
    try simp only [Act.put, List.setIfInBounds_toArray, List.set_cons_zero, List.set_cons_succ]
    refine take_op (i := 2) (v := .bool true) rfl (by kernel_rfl) (by kernel_rfl) (by kernel_rfl) (fun _ _ _ h => h) (Or.inl ⟨by rfl, fun w hw => by go_simp⟩) hS0 ?_
    try simp only [Act.put, List.setIfInBounds_toArray, List.set_cons_zero, List.set_cons_succ]
    refine take_op (i := 3) (v := .bool true) rfl (by kernel_rfl) (by kernel_rfl) (by kernel_rfl) (fun _ _ _ h => h) (Or.inl ⟨by rfl, fun w hw => by go_simp⟩) hS0 ?_
    try simp only [Act.put, List.setIfInBounds_toArray, List.set_cons_zero, List.set_cons_succ]
    refine take_op (i := 4) (v := .bool true) rfl (by kernel_rfl) (by kernel_rfl) (by kernel_rfl) (fun _ _ _ h => h) (Or.inl ⟨by rfl, fun w hw => by go_simp⟩) hS0 ?_
    try simp only [Act.put, List.setIfInBounds_toArray, List.set_cons_zero, List.set_cons_succ]
    refine take_op (i := 5) (v := .bool true) rfl (by kernel_rfl) (by kernel_rfl) (by kernel_rfl) (fun _ _ _ h => h) (Or.inl ⟨by rfl, fun w hw => by go_simp⟩) hS0 ?_
    try simp only [Act.put, List.setIfInBounds_toArray, List.set_cons_zero, List.set_cons_succ]
    refine take_op (i := 6) (v := .slice U2 gs.length cu2) rfl (by kernel_rfl) (by kernel_rfl) (by kernel_rfl) (fun _ _ _ h => h) (Or.inl ⟨by rfl, fun w hw => by go_simp⟩) hS0 ?_
    try simp only [Act.put, List.setIfInBounds_toArray, List.set_cons_zero, List.set_cons_succ]
    refine take_op (i := 8) (v := .string ⟨gs.toArray⟩) rfl (by kernel_rfl) (by kernel_rfl) (by kernel_rfl) (fun _ _ _ h => h) (Or.inl ⟨by rfl, fun w hw => by go_simp⟩) hS0 ?_
    try simp only [Act.put, List.setIfInBounds_toArray, List.set_cons_zero, List.set_cons_succ]
    refine take_op (i := 7) (v := .string ⟨gs.toArray⟩) rfl (by kernel_rfl) (by kernel_rfl) (by kernel_rfl) (fun _ _ _ h => h) (Or.inl ⟨by rfl, fun w hw => by have hc := HQ2.out w hw; go_simp⟩) hS0 ?_
    try simp only [Act.put, List.setIfInBounds_toArray, List.set_cons_zero, List.set_cons_succ]
    refine take_op (i := 9) (v := .bool true) rfl (by kernel_rfl) (by kernel_rfl) (by kernel_rfl) (fun _ _ _ h => h) (Or.inl ⟨by rfl, fun w hw => by go_simp⟩) hS0 ?_
    try simp only [Act.put, List.setIfInBounds_toArray, List.set_cons_zero, List.set_cons_succ]
    refine take_op (i := 10) (v := .bool true) rfl (by kernel_rfl) (by kernel_rfl) (by kernel_rfl) (fun _ _ _ h => h) (Or.inl ⟨by rfl, fun w hw => by go_simp⟩) hS0 ?_
    try simp only [Act.put, List.setIfInBounds_toArray, List.set_cons_zero, List.set_cons_succ]
    refine ready_op (i := 11) rfl (by kernel_rfl) (by rfl) (fun K hK => ?_)
    refine wp_store_mid _ _ _ rfl _ _ (List.toArray _) rfl rfl (there_of (SB.out w2.drew hTd).2.2 (n := 17) rfl) trie_size (one17 a0 a1 a2 a3 a4 a5 a6 a7 a8 a9 aA aB aC aD aE aF hone2) ?_
    refine hK.out _ _ (hS0.cells _) (fun hS5 => ?_)
    clear hK K
    simp only [Act.put]
    refine take_op (i := 12) (v := .slice X m.length cx) rfl (by kernel_rfl) (by kernel_rfl) (by kernel_rfl) (fun _ _ _ h => h) (Or.inl ⟨by rfl, fun w hw => by go_simp⟩) hS5 ?_
    try simp only [Act.put, List.setIfInBounds_toArray, List.set_cons_zero, List.set_cons_succ]
    refine take_op (i := 13) (v := .bool true) rfl (by kernel_rfl) (by kernel_rfl) (by kernel_rfl) (fun _ _ _ h => h) (Or.inl ⟨by rfl, fun w hw => by go_simp⟩) hS5 ?_
    try simp only [Act.put, List.setIfInBounds_toArray, List.set_cons_zero, List.set_cons_succ]
    refine wpAnyH_done (by kernel_rfl) ?_ _
    refine NoPanic.normal ?_
    go_wp2_with fail
    obtain ⟨WX, hWX⟩ : ∃ WX, w2.drew.setCells (w.heap.size + 1 + 1) 0 [.int .u8 (a0.toNat : Nat), .int .u8 (a1.toNat : Nat), .int .u8 (a2.toNat : Nat), .int .u8 (a3.toNat : Nat), .int .u8 (a4.toNat : Nat), .int .u8 (a5.toNat : Nat), .int .u8 (a6.toNat : Nat), .int .u8 (a7.toNat : Nat), .int .u8 (a8.toNat : Nat), .int .u8 (a9.toNat : Nat), .int .u8 (aA.toNat : Nat), .int .u8 (aB.toNat : Nat), .int .u8 (aC.toNat : Nat), .int .u8 (aD.toNat : Nat), .int .u8 (aE.toNat : Nat), .int .u8 (aF.toNat : Nat), nv] = WX := ⟨_, rfl⟩
    have hTX : WX.rangeAt (w.heap.size + 1 + 1) 0 [.int .u8 (a0.toNat : Nat), .int .u8 (a1.toNat : Nat), .int .u8 (a2.toNat : Nat), .int .u8 (a3.toNat : Nat), .int .u8 (a4.toNat : Nat), .int .u8 (a5.toNat : Nat), .int .u8 (a6.toNat : Nat), .int .u8 (a7.toNat : Nat), .int .u8 (a8.toNat : Nat), .int .u8 (a9.toNat : Nat), .int .u8 (aA.toNat : Nat), .int .u8 (aB.toNat : Nat), .int .u8 (aC.toNat : Nat), .int .u8 (aD.toNat : Nat), .int .u8 (aE.toNat : Nat), .int .u8 (aF.toNat : Nat), nv] := by rw [<- hWX]; exact World.rangeAt_setCells_same _ _ _ _ (there_of (SB.out w2.drew hTd).2.2 (n := 17) rfl)
    have hbX : Below w.heap.size w2 WX := by rw [<- hWX]; exact World.below_setCells (by omega) _ _ _ (hbd.mono (by omega))
    have hTw : Turns w WX mb := Turns.after ((Turns.of_below mb HB0.out).trans HT2.out) hbX
    rw [hWX]
    have hmv : Moves ok ok w WX := hTw.moves HH.out.hokm
    exact bodyPost_ret (results_row3 (cs := [.int .u8 (a0.toNat : Nat), .int .u8 (a1.toNat : Nat), .int .u8 (a2.toNat : Nat), .int .u8 (a3.toNat : Nat), .int .u8 (a4.toNat : Nat), .int .u8 (a5.toNat : Nat), .int .u8 (a6.toNat : Nat), .int .u8 (a7.toNat : Nat), .int .u8 (a8.toNat : Nat), .int .u8 (a9.toNat : Nat), .int .u8 (aA.toNat : Nat), .int .u8 (aB.toNat : Nat), .int .u8 (aC.toNat : Nat), .int .u8 (aD.toNat : Nat), .int .u8 (aE.toNat : Nat), .int .u8 (aF.toNat : Nat), nv]) rfl _ rfl hTX Tryz.underlying30 rfl (trie_len a0 a1 a2 a3 a4 a5 a6 a7 a8 a9 aA aB aC aD aE aF _)) rfl ⟨_, _, _, _, _, by rw [HTV.out]; rfl, HH.out.node.move hmv, HH.out.lays, HH.out.row.move goodSp hmv, HM2.out.belowN HML.out hbX, HLE.out.1, HLE.out.2, hTw⟩
end Go.Proofs.YtadaoceidkagfaaGreatDoor
/- law21.step: any call. -/
namespace Go.Proofs.YtadaoceidkagfaaGreatDoor
open Go.RowKit Go.Bw
def stepM (m : List Bw.PV) (e : Bw.Op) : List Bw.PV := if e.1 = 1 then Bw.put m e.2 else if e.1 = 2 then Bw.without m e.2.1 else m
theorem stepM_ok {m : List Bw.PV} {e : Bw.Op} (hm : MapOk m) (hl : m.length < 1048000) (h1 : e.2.1.length <= 1048576) (h2 : e.2.2.length <= 1048576) : MapOk (stepM m e) /\ (stepM m e).length <= m.length + 1 := by
  have hp : (Bw.put m e.2).length <= m.length + 1 := Bw.length_put m e.2
  unfold stepM
  split
  · exact ⟨⟨Bw.rises_put hm.rises _, by omega, fun p hp => by
      rcases Bw.mem_put hp with h | h
      · subst h; exact ⟨h1, h2⟩
      · exact hm.bytes p h⟩, hp⟩
  · split
    · exact ⟨hm.without _, Nat.le_succ_of_le (List.length_filter_le _ _)⟩
    · exact ⟨hm, Nat.le_succ _⟩
theorem step_any {ok okb : Nat -> Prop} {mb : Option Nat} {s : List UInt8} {m : List Bw.PV} {o : Option Bw.N} {p : Bw.PV} {c : Nat × Nat} {w : World} {nv xv u1 u2 mv : Value} (H : StepIn ok okb mb s m o p c w nv xv u1 u2 mv) (kd : Int) :
    Calls Tryz.prog 10 #[trieV s nv, xv, .agg #[.int .i64 kd, u1, u2], mv] w (StepEnds ok mb s m (stepM m (kd, p)) c w mv) := by
  by_cases h1 : kd = 1
  · subst h1; exact step_put H
  · by_cases h2 : kd = 2
    · subst h2; exact step_del H
    · have e : stepM m (kd, p) = m := by unfold stepM; rw [if_neg h1, if_neg h2]
      rw [e]
      by_cases h3 : kd = 3
      · subst h3; exact step_get H
      · exact step_none H h1 h2 h3
end Go.Proofs.YtadaoceidkagfaaGreatDoor
