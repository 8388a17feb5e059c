/- law21.TrieMeters. -/
import Derived.Test.YtadaoceidkagfaaDoorAw21
import Derived.Test.YtadaoceidkagfaaDoorStepT
import Derived.Test.YtadaoceidkagfaaDoorBound
import Derived.Deep.RegionHeld3
import Derived.Deep.DrawnRows
namespace Go.Proofs.YtadaoceidkagfaaDoor
open Go.RowKit Go.Bw

attribute [local go_sem ↓] Go.wp_at_zero Go.wp_at_succ

/-- between two rounds -/
def TLoop (s : List UInt8) (l : List Bw.Op) (w : World) (B : Nat) (xv i : Value) (W : World) : Prop :=
  ∃ j nv o m, j ≤ l.length ∧ i = .int .i64 (j : Nat) ∧ W.rangeAt B 0 (s.map encB ++ [nv]) ∧ W.there B 0 17 ∧ ONodeAt nt (fun k => k ≠ B) W nv o ∧
    Bw.OLays 0 o (Bw.ents (Bw.sipHash s) m) ∧ SPairsAt (fun k => k ≠ B) W xv m ∧ MapOk m ∧ m.length ≤ j ∧ Below w.heap.size w W

theorem rng_same {W W' : World} {B : Nat} {cs : List Value} (h : W'.heap[B]? = W.heap[B]?) (hr : W.rangeAt B 0 cs) : W'.rangeAt B 0 cs := fun j v hv => (World.cell?_of_block h).trans (hr j v hv)
theorem there_same {W W' : World} {B n : Nat} (h : W'.heap[B]? = W.heap[B]?) (hr : W.there B 0 n) : W'.there B 0 n := fun j hj => by
  have h1 := hr j hj
  refine ⟨by rw [World.cell?_of_block h]; exact h1.1, ?_⟩
  have h2 := h1.2
  simp only [World.frozen?, h] at h2 ⊢
  exact h2
theorem there_lt {W : World} {B n : Nat} (hr : W.there B 0 (n + 1)) : B < W.heap.size := by
  obtain ⟨u, hu⟩ := Option.isSome_iff_exists.1 (hr 0 (Nat.succ_pos _)).1
  exact World.block_lt_of_cell? W _ hu

set_option maxRecDepth 100000 in
set_option maxHeartbeats 4000000 in
theorem triemeters_any {s : List UInt8} {l : List Bw.Op} {v : Value} {w : World} (hs : s.length = 16) (hr : OpsAt AllB w v l) (hT : Tab w) (hSt : Sta w) :
    Calls Tryd.prog 3 #[seedV s, v] w fun e w' => e = .returned (.bool true) ∧ Below w.heap.size w w' := by
  obtain ⟨A, c, rfl⟩ := hr.form
  obtain ⟨a0, a1, a2, a3, a4, a5, a6, a7, a8, a9, aA, aB, aC, aD, aE, aF, hs16⟩ := mapE16 hs
  have htv : ∀ x, trieV s x = .agg #[.int .u8 (a0.toNat : Nat), .int .u8 (a1.toNat : Nat), .int .u8 (a2.toNat : Nat), .int .u8 (a3.toNat : Nat), .int .u8 (a4.toNat : Nat), .int .u8 (a5.toNat : Nat), .int .u8 (a6.toNat : Nat), .int .u8 (a7.toNat : Nat), .int .u8 (a8.toNat : Nat), .int .u8 (a9.toNat : Nat), .int .u8 (aA.toNat : Nat), .int .u8 (aB.toNat : Nat), .int .u8 (aC.toNat : Nat), .int .u8 (aD.toNat : Nat), .int .u8 (aE.toNat : Nat), .int .u8 (aF.toNat : Nat), x] := fun x => by rw [hs16]; rfl
  have hsv : seedV s = .agg #[.int .u8 (a0.toNat : Nat), .int .u8 (a1.toNat : Nat), .int .u8 (a2.toNat : Nat), .int .u8 (a3.toNat : Nat), .int .u8 (a4.toNat : Nat), .int .u8 (a5.toNat : Nat), .int .u8 (a6.toNat : Nat), .int .u8 (a7.toNat : Nat), .int .u8 (a8.toNat : Nat), .int .u8 (a9.toNat : Nat), .int .u8 (aA.toNat : Nat), .int .u8 (aB.toNat : Nat), .int .u8 (aC.toNat : Nat), .int .u8 (aD.toNat : Nat), .int .u8 (aE.toNat : Nat), .int .u8 (aF.toNat : Nat)] := by rw [hs16]; rfl
  have hbv : ∀ x, s.map encB ++ [x] = [.int .u8 (a0.toNat : Nat), .int .u8 (a1.toNat : Nat), .int .u8 (a2.toNat : Nat), .int .u8 (a3.toNat : Nat), .int .u8 (a4.toNat : Nat), .int .u8 (a5.toNat : Nat), .int .u8 (a6.toNat : Nat), .int .u8 (a7.toNat : Nat), .int .u8 (a8.toNat : Nat), .int .u8 (a9.toNat : Nat), .int .u8 (aA.toNat : Nat), .int .u8 (aB.toNat : Nat), .int .u8 (aC.toNat : Nat), .int .u8 (aD.toNat : Nat), .int .u8 (aE.toNat : Nat), .int .u8 (aF.toNat : Nat), x] := fun x => by rw [hs16]; rfl
  obtain ⟨W0, hW0⟩ : ∃ W0, w.alloc (.cells #[.int .u8 (a0.toNat : Nat), .int .u8 (a1.toNat : Nat), .int .u8 (a2.toNat : Nat), .int .u8 (a3.toNat : Nat), .int .u8 (a4.toNat : Nat), .int .u8 (a5.toNat : Nat), .int .u8 (a6.toNat : Nat), .int .u8 (a7.toNat : Nat), .int .u8 (a8.toNat : Nat), .int .u8 (a9.toNat : Nat), .int .u8 (aA.toNat : Nat), .int .u8 (aB.toNat : Nat), .int .u8 (aC.toNat : Nat), .int .u8 (aD.toNat : Nat), .int .u8 (aE.toNat : Nat), .int .u8 (aF.toNat : Nat)] 23) = W0 := ⟨_, rfl⟩
  have hB0 : Below w.heap.size w W0 := by rw [← hW0]; exact (Below.refl _ _).alloc (Nat.le_refl _) _
  have hb0 : W0.heap[w.heap.size]? = some (.cells #[.int .u8 (a0.toNat : Nat), .int .u8 (a1.toNat : Nat), .int .u8 (a2.toNat : Nat), .int .u8 (a3.toNat : Nat), .int .u8 (a4.toNat : Nat), .int .u8 (a5.toNat : Nat), .int .u8 (a6.toNat : Nat), .int .u8 (a7.toNat : Nat), .int .u8 (a8.toNat : Nat), .int .u8 (a9.toNat : Nat), .int .u8 (aA.toNat : Nat), .int .u8 (aB.toNat : Nat), .int .u8 (aC.toNat : Nat), .int .u8 (aD.toNat : Nat), .int .u8 (aE.toNat : Nat), .int .u8 (aF.toNat : Nat)] 23 (0, 0)) := by rw [← hW0]; exact heap_alloc_new w _
  have hlt0 : w.heap.size < W0.heap.size := by rw [← hW0]; simp
  have CF := Lib.hid (fine11_any 60 (by decide) (hr.move goodOp (Moves.below hB0)))
  have CA := Lib.hid (fun W (hW : Below w.heap.size w W) => awake21_any W (hT.below hT.pos hW) (hSt.below hSt.pos hW))
  rw [hsv]
  have HB0 := Lib.hid hB0
  cases hfine : opsB l 60 with
  | false =>
    rw [hfine] at CF
    clear hr hfine hT hSt hs hs16 htv hsv hbv hB0 hb0
    go_enter Tryd.func3, Tryd.ntmps3
    go_wp2_with (first
      | (go_at_call 4; (refine CF.out.mono ?_); rintro e w1 ⟨rfl, hb1⟩; have hw1 := HB0.out.trans (hb1.mono HB0.out.size))
      | (go_at_call 5; (with_reducible refine (CA.out _ hw1).mono ?_); rintro e w2 ⟨rfl, hb2⟩))
    go_ret
    exact ⟨rfl, hw1.trans (hb2.mono hw1.size)⟩
  | true =>
    rw [hfine] at CF
    obtain ⟨hl60, hby⟩ := opsB_parts hfine
    have HL60 := Lib.hid hl60
    have HL : Hid (l.length ≤ 1048576) := Lib.hid (by omega)
    have HBY := Lib.hid hby; have HR := Lib.hid hr; have HTAB := Lib.hid hT; have HSTA := Lib.hid hSt; have HS := Lib.hid hs
    have HTV := Lib.hid htv; have HBV := Lib.hid hbv
    have CN := fun W => tnew_any hs W
    simp only [hsv, htv] at CN
    have CN := Lib.hid CN
    have HR0 : Hid (∀ W, Below W0.heap.size W0 W → W.rangeAt w.heap.size 0 [.int .u8 (a0.toNat : Nat), .int .u8 (a1.toNat : Nat), .int .u8 (a2.toNat : Nat), .int .u8 (a3.toNat : Nat), .int .u8 (a4.toNat : Nat), .int .u8 (a5.toNat : Nat), .int .u8 (a6.toNat : Nat), .int .u8 (a7.toNat : Nat), .int .u8 (a8.toNat : Nat), .int .u8 (a9.toNat : Nat), .int .u8 (aA.toNat : Nat), .int .u8 (aB.toNat : Nat), .int .u8 (aC.toNat : Nat), .int .u8 (aD.toNat : Nat), .int .u8 (aE.toNat : Nat), .int .u8 (aF.toNat : Nat)]) := Lib.hid fun W hW => rng_seed ((hW.block w.heap.size hlt0).trans hb0)
    clear hr hfine hT hSt hs hs16 hsv hl60 hby htv hbv hB0 hb0 hlt0
    go_enter Tryd.func3, Tryd.ntmps3
    go_wp2_with (first
      | (go_at_call 4; (refine CF.out.mono ?_); rintro e w1 ⟨rfl, hb1⟩)
      | (refine wpList_load_mid (P := Tryd.prog) rfl 23 (.tmp 2) rfl w.heap.size 0 rfl [.int .u8 (a0.toNat : Nat), .int .u8 (a1.toNat : Nat), .int .u8 (a2.toNat : Nat), .int .u8 (a3.toNat : Nat), .int .u8 (a4.toNat : Nat), .int .u8 (a5.toNat : Nat), .int .u8 (a6.toNat : Nat), .int .u8 (a7.toNat : Nat), .int .u8 (a8.toNat : Nat), .int .u8 (a9.toNat : Nat), .int .u8 (aA.toNat : Nat), .int .u8 (aB.toNat : Nat), .int .u8 (aC.toNat : Nat), .int .u8 (aD.toNat : Nat), .int .u8 (aE.toNat : Nat), .int .u8 (aF.toNat : Nat)] _ (HR0.out _ hb1) Tryd.underlying23 rfl (rng_len a0 a1 a2 a3 a4 a5 a6 a7 a8 a9 aA aB aC aD aE aF) ?_; simp only [Act.put, List.setIfInBounds_toArray, List.set_cons_zero, List.set_cons_succ])
      | (go_at_call 6; (with_reducible refine (CN.out _).mono ?_); rintro e w2 ⟨rfl, hb2⟩; have HTH := Lib.hid (there_of (W := w2.alloc (.cells #[.int .u8 0, .int .u8 0, .int .u8 0, .int .u8 0, .int .u8 0, .int .u8 0, .int .u8 0, .int .u8 0, .int .u8 0, .int .u8 0, .int .u8 0, .int .u8 0, .int .u8 0, .int .u8 0, .int .u8 0, .int .u8 0, .nilIface] 30)) (b := w2.heap.size) (n := 17) (heap_alloc_new w2 _) rfl); obtain ⟨WS, hWS⟩ : ∃ WS, (w2.alloc (.cells #[.int .u8 0, .int .u8 0, .int .u8 0, .int .u8 0, .int .u8 0, .int .u8 0, .int .u8 0, .int .u8 0, .int .u8 0, .int .u8 0, .int .u8 0, .int .u8 0, .int .u8 0, .int .u8 0, .int .u8 0, .int .u8 0, .nilIface] 30)).setCells w2.heap.size 0 [.int .u8 (a0.toNat : Nat), .int .u8 (a1.toNat : Nat), .int .u8 (a2.toNat : Nat), .int .u8 (a3.toNat : Nat), .int .u8 (a4.toNat : Nat), .int .u8 (a5.toNat : Nat), .int .u8 (a6.toNat : Nat), .int .u8 (a7.toNat : Nat), .int .u8 (a8.toNat : Nat), .int .u8 (a9.toNat : Nat), .int .u8 (aA.toNat : Nat), .int .u8 (aB.toNat : Nat), .int .u8 (aC.toNat : Nat), .int .u8 (aD.toNat : Nat), .int .u8 (aE.toNat : Nat), .int .u8 (aF.toNat : Nat), .nilIface] = WS := ⟨_, rfl⟩; have HWS := Lib.hid hWS; clear hWS)
      | (refine wpList_store_mid (P := Tryd.prog) rfl 30 (.tmp 5) (.tmp 17) rfl (w2.heap.size) 0 #[.int .u8 (a0.toNat : Nat), .int .u8 (a1.toNat : Nat), .int .u8 (a2.toNat : Nat), .int .u8 (a3.toNat : Nat), .int .u8 (a4.toNat : Nat), .int .u8 (a5.toNat : Nat), .int .u8 (a6.toNat : Nat), .int .u8 (a7.toNat : Nat), .int .u8 (a8.toNat : Nat), .int .u8 (a9.toNat : Nat), .int .u8 (aA.toNat : Nat), .int .u8 (aB.toNat : Nat), .int .u8 (aC.toNat : Nat), .int .u8 (aD.toNat : Nat), .int .u8 (aE.toNat : Nat), .int .u8 (aF.toNat : Nat), .nilIface] rfl rfl HTH.out trie_size (one17 a0 a1 a2 a3 a4 a5 a6 a7 a8 a9 aA aB aC aD aE aF rfl) ?_; simp only [HWS.out, Act.put]))
    have H0 : Hid (TLoop s l w w2.heap.size (.slice none 0 0) (.int .i64 0) WS) := Lib.hid (by
      have h1 : Below w.heap.size w w2 := (HB0.out.trans (hb1.mono HB0.out.size)).trans (hb2.mono (Nat.le_trans HB0.out.size hb1.size))
      have h2 : Below w.heap.size w2 WS := by rw [← HWS.out]; exact World.below_setCells h1.size _ _ _ ((Below.refl _ _).alloc h1.size _)
      have h3 : WS.rangeAt w2.heap.size 0 [.int .u8 (a0.toNat : Nat), .int .u8 (a1.toNat : Nat), .int .u8 (a2.toNat : Nat), .int .u8 (a3.toNat : Nat), .int .u8 (a4.toNat : Nat), .int .u8 (a5.toNat : Nat), .int .u8 (a6.toNat : Nat), .int .u8 (a7.toNat : Nat), .int .u8 (a8.toNat : Nat), .int .u8 (a9.toNat : Nat), .int .u8 (aA.toNat : Nat), .int .u8 (aB.toNat : Nat), .int .u8 (aC.toNat : Nat), .int .u8 (aD.toNat : Nat), .int .u8 (aE.toNat : Nat), .int .u8 (aF.toNat : Nat), .nilIface] := by rw [← HWS.out]; exact World.rangeAt_setCells_same _ _ _ _ HTH.out
      have h4 : WS.there w2.heap.size 0 17 := by rw [← HWS.out]; exact World.there_setCells HTH.out _ _ _
      exact ⟨0, .nilIface, none, [], Nat.zero_le _, rfl, by rw [HBV.out]; exact h3, h4, rfl, rfl, RowAt.nil, mapOk_nil, Nat.le_refl _, h1.trans h2⟩)
    have HBw : Hid (w.heap.size ≤ w2.heap.size) := Lib.hid (Nat.le_trans HB0.out.size (Nat.le_trans hb1.size hb2.size))
    generalize w2.heap.size = B at *
    clear hb1 hb2 HTH HWS HR0 CN CF hW0 HB0
    go_wp2_with fail
    go_loopw [6, 20] (TLoop s l w B) (fun _ i _ => l.length - (intOf i).toNat)
    case atStart => exact H0.out
    case round =>
      obtain ⟨j, nv, o, m, hk, rfl, hrng, hthr, hN, hOL, hMv, hMk, hml, hB⟩ := hrel
      rw [HBV.out] at hrng
      by_cases hlt : j < l.length
      · obtain ⟨b, off, u1, u2, rfl, hob, c0, c1, c2, hu, hv⟩ := op_get HR.out (List.getElem?_eq_getElem hlt)
        obtain ⟨U1, cu1, rfl⟩ := hu.form
        obtain ⟨U2, cu2, rfl⟩ := hv.form
        have hbl := World.block_lt_of_cell? w _ c0
        dsimp only at hbl
        have d0 := (hB.cell (p := ⟨b, off + j * 3, none⟩) hbl).trans c0
        have d1 := (hB.cell (p := ⟨b, off + j * 3 + 1, none⟩) hbl).trans c1
        have d2 := (hB.cell (p := ⟨b, off + j * 3 + 2, none⟩) hbl).trans c2
        have hbl2 : b < wr.heap.size := Nat.lt_of_lt_of_le hbl hB.size
        have h0 : (0 : Int) ≤ (j : Int) := by omega
        have h1 : (j : Int) < (l.length : Int) := by omega
        have hq := HBY.out l[j] (List.getElem_mem hlt)
        generalize l[j] = q at *
        obtain ⟨kd, qx, qy⟩ := q
        dsimp only at *
        have hBlt : B < wr.heap.size := there_lt hthr
        have hnf := onode_form hN
        obtain ⟨X, cx, rfl⟩ := hMv.form
        obtain ⟨W1, hW1⟩ : ∃ W1, wr.alloc (.cells #[.int .i64 kd, .slice U1 qx.length cu1, .slice U2 qy.length cu2] 35) = W1 := ⟨_, rfl⟩
        obtain ⟨W2, hW2⟩ : ∃ W2, W1.alloc (.cells #[.int .i64 0, .int .i64 0] 37) = W2 := ⟨_, rfl⟩
        have hb1 : Below wr.heap.size wr W1 := by rw [← hW1]; exact (Below.refl _ _).alloc (Nat.le_refl _) _
        have hb12 : Below W1.heap.size W1 W2 := by rw [← hW2]; exact (Below.refl _ _).alloc (Nat.le_refl _) _
        have hs1 : W1.heap.size = wr.heap.size + 1 := by rw [← hW1]; simp
        have hs2 : W2.heap.size = wr.heap.size + 2 := by rw [← hW2]; simp [hs1]
        have hb2 : Below wr.heap.size wr W2 := hb1.trans (hb12.mono hb1.size)
        have hm2 : MeterAt W2 (.pointer (some ⟨W1.heap.size, 0, none⟩)) (0, 0) (some W1.heap.size) := by
          rw [← hW2]
          exact ⟨rfl, cell_new W1 0 _ _ 0 _ rfl, cell_new W1 0 _ _ 1 _ rfl, by simp only [World.frozen?, heap_alloc_new]; rfl, by simp only [World.frozen?, heap_alloc_new]; rfl⟩
        have hox : W2.heap[wr.heap.size]? = some (.cells #[.int .i64 kd, .slice U1 qx.length cu1, .slice U2 qy.length cu2] 35 (0, 0)) := (hb12.block _ (by omega)).trans (by rw [← hW1]; exact heap_alloc_new wr _)
        have SO : Hid (∀ W, Below W2.heap.size W2 W → W.cell? ⟨wr.heap.size, 0, none⟩ = some (.int .i64 kd) ∧ W.cell? ⟨wr.heap.size, 1, none⟩ = some (.slice U1 qx.length cu1) ∧ W.cell? ⟨wr.heap.size, 2, none⟩ = some (.slice U2 qy.length cu2)) := Lib.hid fun W hW =>
          have h := (hW.block wr.heap.size (by omega)).trans hox
          ⟨(cell_of_row W wr.heap.size 0 _ _ (0, 0) h).trans rfl, (cell_of_row W wr.heap.size 1 _ _ (0, 0) h).trans rfl, (cell_of_row W wr.heap.size 2 _ _ (0, 0) h).trans rfl⟩
        have hw2 : Below w.heap.size w W2 := hB.trans (hb2.mono hB.size)
        have HBK : Hid (∀ W, Below W2.heap.size W2 W → W.rangeAt B 0 [.int .u8 (a0.toNat : Nat), .int .u8 (a1.toNat : Nat), .int .u8 (a2.toNat : Nat), .int .u8 (a3.toNat : Nat), .int .u8 (a4.toNat : Nat), .int .u8 (a5.toNat : Nat), .int .u8 (a6.toNat : Nat), .int .u8 (a7.toNat : Nat), .int .u8 (a8.toNat : Nat), .int .u8 (a9.toNat : Nat), .int .u8 (aA.toNat : Nat), .int .u8 (aB.toNat : Nat), .int .u8 (aC.toNat : Nat), .int .u8 (aD.toNat : Nat), .int .u8 (aE.toNat : Nat), .int .u8 (aF.toNat : Nat), nv] ∧ W.there B 0 17) := Lib.hid fun W hW => have h := (hW.block B (by omega)).trans (hb2.block B hBlt); ⟨rng_same h hrng, there_same h hthr⟩
        have HIN : Hid (∀ W, Below W2.heap.size W2 W → StepIn (fun k => k ≠ B ∧ k ≠ W1.heap.size) (fun k => k < w.heap.size) (some W1.heap.size) s m o (qx, qy) (0, 0) W nv (.slice X m.length cx) (.slice U1 qx.length cu1) (.slice U2 qy.length cu2) (.pointer (some ⟨W1.heap.size, 0, none⟩))) := Lib.hid fun W hW =>
          have hbW : Below wr.heap.size wr W := hb2.trans (hW.mono hb2.size)
          have hwW : Below w.heap.size w W := hw2.trans (hW.mono hw2.size)
          have hmv : Moves (fun k => k ≠ B) (fun k => k ≠ B ∧ k ≠ W1.heap.size) wr W := fun k hk hl => ⟨⟨hk, by omega⟩, hbW.block k hl⟩
          have hmb : Moves AllB (fun k => k < w.heap.size) w W := fun k _ hl => ⟨hl, hwW.block k hl⟩
          have hws := hw2.size
          have hWs := hW.size
          have hbs := hB.size
          { seed := HS.out, map := hMk, node := hN.move hmv, lays := hOL, row := hMv.move goodSp hmv, b1 := hu.move goodByte hmb, b2 := hv.move goodByte hmb, p1 := Nat.le_trans hq.1 (by decide), p2 := Nat.le_trans hq.2 (by decide),
            meter := hm2.below hW, hokm := fun k hk e => hk.2 (by injection e), hokb := fun k hk e => by injection e with e; omega, hmt := fun e => by injection e with e; have := HTAB.out.pos; omega,
            hok := fun k hk => ⟨by omega, by omega⟩, tab := HTAB.out.below HTAB.out.pos hwW, sta := HSTA.out.below HSTA.out.pos hwW, c1 := by decide, c2 := by decide }
        have CST := fun (W : World) (hW : Below W2.heap.size W2 W) => (step_any (HIN.out W hW) kd).mono (R' := fun e w' => ∃ nv' o' xv' cv cc, e = .returned (.tuple #[.agg #[.int .u8 (a0.toNat : Nat), .int .u8 (a1.toNat : Nat), .int .u8 (a2.toNat : Nat), .int .u8 (a3.toNat : Nat), .int .u8 (a4.toNat : Nat), .int .u8 (a5.toNat : Nat), .int .u8 (a6.toNat : Nat), .int .u8 (a7.toNat : Nat), .int .u8 (a8.toNat : Nat), .int .u8 (a9.toNat : Nat), .int .u8 (aA.toNat : Nat), .int .u8 (aB.toNat : Nat), .int .u8 (aC.toNat : Nat), .int .u8 (aD.toNat : Nat), .int .u8 (aE.toNat : Nat), .int .u8 (aF.toNat : Nat), nv'], xv', .bool true]) ∧ ONodeAt nt (fun k => k ≠ B ∧ k ≠ W1.heap.size) w' nv' o' ∧ Bw.OLays 0 o' (Bw.ents (Bw.sipHash s) (stepM m (kd, (qx, qy)))) ∧ SPairsAt (fun k => k ≠ B ∧ k ≠ W1.heap.size) w' xv' (stepM m (kd, (qx, qy))) ∧
          MeterAt w' (.pointer (some ⟨W1.heap.size, 0, none⟩)) (cv, cc) (some W1.heap.size) ∧ cc ≤ cv ∧ (∀ L : Nat, (m.length + 1) ^ 6 < 2 ^ L → cv ≤ 13 + L) ∧ Turns W w' (some W1.heap.size))
          (fun e w' ⟨nv', o', xv', cv, cc, he, h1, h2, h3, h4, r⟩ => ⟨nv', o', xv', cv, cc, by rw [he, HTV.out], h1, h2, h3, by simpa using h4, r⟩)
        simp only [HTV.out] at CST
        have CST := Lib.hid CST
        have CL := fun (W : World) (hW : Below W2.heap.size W2 W) => tlen_any (s := s) HS.out (HIN.out W hW).node
        simp only [HTV.out, ents_many hMk hOL] at CL
        have CL := Lib.hid CL
        have HOK := Lib.hid (stepM_ok (e := (kd, (qx, qy))) hMk (by have := HL60.out; omega) (Nat.le_trans hq.1 (by decide)) (Nat.le_trans hq.2 (by decide)))
        have hm60 : m.length ≤ 60 := by have := HL60.out; omega
        have CBD : Hid (∀ (W : World) (x : Nat), (∀ L : Nat, (m.length + 1) ^ 6 < 2 ^ L → x ≤ 13 + L) → Calls Tryd.prog 9 #[.int .i64 (m.length : Nat)] W fun e w' => ∃ Bd : Nat, e = .returned (.int .i64 (Bd : Nat)) ∧ x ≤ Bd ∧ Below W.heap.size W w') := Lib.hid fun W x hx =>
          (rbound_any (n := m.length) (w := W) (Nat.le_trans hm60 (by decide))).mono fun e w' ⟨L, he, hL, _, hb⟩ => ⟨16 + L, he, by have h1 := hx L hL; clear hL; omega, hb⟩
        have HLT := Lib.hid hlt; have HML := Lib.hid hml; have Hw2 := Lib.hid hw2; have HM2 := Lib.hid hm2
        have HSZ : Hid (B < wr.heap.size ∧ W1.heap.size = wr.heap.size + 1 ∧ W2.heap.size = wr.heap.size + 2 ∧ w.heap.size ≤ wr.heap.size) := Lib.hid ⟨hBlt, hs1, hs2, hB.size⟩
        clear hu hv c0 c1 c2 hrng hthr hN hOL hMv hMk hml hB hq H0 CA hBlt hb1 hb12 hs1 hs2 hb2 hm2 hox hw2 hm60 hlt
        rcases hnf with rfl | ⟨tn, bn, rfl⟩
        all_goals
         (have hz2 := Below.refl W2.heap.size W2
          obtain ⟨y0, y1, y2⟩ := SO.out W2 hz2
          have HR2 := Lib.hid (HBK.out W2 hz2).1
          go_wp2_with (first
            | (first | (refine wpList_load_mid (P := Tryd.prog) rfl 30 (.tmp 5) rfl (B) 0 rfl [.int .u8 (a0.toNat : Nat), .int .u8 (a1.toNat : Nat), .int .u8 (a2.toNat : Nat), .int .u8 (a3.toNat : Nat), .int .u8 (a4.toNat : Nat), .int .u8 (a5.toNat : Nat), .int .u8 (a6.toNat : Nat), .int .u8 (a7.toNat : Nat), .int .u8 (a8.toNat : Nat), .int .u8 (a9.toNat : Nat), .int .u8 (aA.toNat : Nat), .int .u8 (aB.toNat : Nat), .int .u8 (aC.toNat : Nat), .int .u8 (aD.toNat : Nat), .int .u8 (aE.toNat : Nat), .int .u8 (aF.toNat : Nat), .nilIface] _ HR2.out Tryd.underlying30 rfl (trie_len a0 a1 a2 a3 a4 a5 a6 a7 a8 a9 aA aB aC aD aE aF _) ?_; simp only [Act.put, List.setIfInBounds_toArray, List.set_cons_zero, List.set_cons_succ]) | (refine wpList_load_mid (P := Tryd.prog) rfl 30 (.tmp 5) rfl (B) 0 rfl [.int .u8 (a0.toNat : Nat), .int .u8 (a1.toNat : Nat), .int .u8 (a2.toNat : Nat), .int .u8 (a3.toNat : Nat), .int .u8 (a4.toNat : Nat), .int .u8 (a5.toNat : Nat), .int .u8 (a6.toNat : Nat), .int .u8 (a7.toNat : Nat), .int .u8 (a8.toNat : Nat), .int .u8 (a9.toNat : Nat), .int .u8 (aA.toNat : Nat), .int .u8 (aB.toNat : Nat), .int .u8 (aC.toNat : Nat), .int .u8 (aD.toNat : Nat), .int .u8 (aE.toNat : Nat), .int .u8 (aF.toNat : Nat), (.iface tn (.pointer (some ⟨bn, 0, none⟩)))] _ HR2.out Tryd.underlying30 rfl (trie_len a0 a1 a2 a3 a4 a5 a6 a7 a8 a9 aA aB aC aD aE aF _) ?_; simp only [Act.put, List.setIfInBounds_toArray, List.set_cons_zero, List.set_cons_succ]))
            | (go_at_call 7; (with_reducible refine (CL.out _ hz2).mono ?_); rintro e w3 ⟨rfl, hb3⟩; obtain ⟨z0, z1, z2⟩ := SO.out w3 hb3; have HR3 := Lib.hid (HBK.out w3 hb3).1; have CS3 := Lib.hid (CST.out w3 hb3); have HB3 := Lib.hid hb3)
            | (first | (refine wpList_load_mid (P := Tryd.prog) rfl 30 (.tmp 5) rfl (B) 0 rfl [.int .u8 (a0.toNat : Nat), .int .u8 (a1.toNat : Nat), .int .u8 (a2.toNat : Nat), .int .u8 (a3.toNat : Nat), .int .u8 (a4.toNat : Nat), .int .u8 (a5.toNat : Nat), .int .u8 (a6.toNat : Nat), .int .u8 (a7.toNat : Nat), .int .u8 (a8.toNat : Nat), .int .u8 (a9.toNat : Nat), .int .u8 (aA.toNat : Nat), .int .u8 (aB.toNat : Nat), .int .u8 (aC.toNat : Nat), .int .u8 (aD.toNat : Nat), .int .u8 (aE.toNat : Nat), .int .u8 (aF.toNat : Nat), .nilIface] _ HR3.out Tryd.underlying30 rfl (trie_len a0 a1 a2 a3 a4 a5 a6 a7 a8 a9 aA aB aC aD aE aF _) ?_; simp only [Act.put, List.setIfInBounds_toArray, List.set_cons_zero, List.set_cons_succ]) | (refine wpList_load_mid (P := Tryd.prog) rfl 30 (.tmp 5) rfl (B) 0 rfl [.int .u8 (a0.toNat : Nat), .int .u8 (a1.toNat : Nat), .int .u8 (a2.toNat : Nat), .int .u8 (a3.toNat : Nat), .int .u8 (a4.toNat : Nat), .int .u8 (a5.toNat : Nat), .int .u8 (a6.toNat : Nat), .int .u8 (a7.toNat : Nat), .int .u8 (a8.toNat : Nat), .int .u8 (a9.toNat : Nat), .int .u8 (aA.toNat : Nat), .int .u8 (aB.toNat : Nat), .int .u8 (aC.toNat : Nat), .int .u8 (aD.toNat : Nat), .int .u8 (aE.toNat : Nat), .int .u8 (aF.toNat : Nat), (.iface tn (.pointer (some ⟨bn, 0, none⟩)))] _ HR3.out Tryd.underlying30 rfl (trie_len a0 a1 a2 a3 a4 a5 a6 a7 a8 a9 aA aB aC aD aE aF _) ?_; simp only [Act.put, List.setIfInBounds_toArray, List.set_cons_zero, List.set_cons_succ]))
            | (go_at_call 8; (with_reducible refine CS3.out.mono ?_); rintro e w4 ⟨nv4, o4, xv4, cv, cc, rfl, hn4, hl4, hx4, hm4, hcc, hbd, ht4⟩; have hone4 := one_node hn4; have HTH := Lib.hid (there_same (ht4.block B (by have h1 := HSZ.out; have h2 := HB3.out.size; omega) (by have h1 := HSZ.out; intro e; injection e with e; omega)) (HBK.out w3 HB3.out).2); obtain ⟨WX, hWX⟩ : ∃ WX, w4.setCells B 0 [.int .u8 (a0.toNat : Nat), .int .u8 (a1.toNat : Nat), .int .u8 (a2.toNat : Nat), .int .u8 (a3.toNat : Nat), .int .u8 (a4.toNat : Nat), .int .u8 (a5.toNat : Nat), .int .u8 (a6.toNat : Nat), .int .u8 (a7.toNat : Nat), .int .u8 (a8.toNat : Nat), .int .u8 (a9.toNat : Nat), .int .u8 (aA.toNat : Nat), .int .u8 (aB.toNat : Nat), .int .u8 (aC.toNat : Nat), .int .u8 (aD.toNat : Nat), .int .u8 (aE.toNat : Nat), .int .u8 (aF.toNat : Nat), nv4] = WX := ⟨_, rfl⟩; have HWX := Lib.hid hWX; have HN4 := Lib.hid hn4; have HL4 := Lib.hid hl4; have HX4 := Lib.hid hx4; have HM4 := Lib.hid hm4; have HT4 := Lib.hid ht4; have HCC := Lib.hid hcc; have HBD := Lib.hid hbd; clear hWX hn4 hl4 hx4 hm4 hcc hbd ht4)
            | (refine wpList_store_mid (P := Tryd.prog) rfl 30 (.tmp 5) (.tmp 31) rfl (B) 0 #[.int .u8 (a0.toNat : Nat), .int .u8 (a1.toNat : Nat), .int .u8 (a2.toNat : Nat), .int .u8 (a3.toNat : Nat), .int .u8 (a4.toNat : Nat), .int .u8 (a5.toNat : Nat), .int .u8 (a6.toNat : Nat), .int .u8 (a7.toNat : Nat), .int .u8 (a8.toNat : Nat), .int .u8 (a9.toNat : Nat), .int .u8 (aA.toNat : Nat), .int .u8 (aB.toNat : Nat), .int .u8 (aC.toNat : Nat), .int .u8 (aD.toNat : Nat), .int .u8 (aE.toNat : Nat), .int .u8 (aF.toNat : Nat), nv4] rfl rfl HTH.out trie_size (one17 a0 a1 a2 a3 a4 a5 a6 a7 a8 a9 aA aB aC aD aE aF hone4) ?_; simp only [HWX.out, Act.put]))
          have hsz := HSZ.out
          have hwB := HBw.out
          have hb34 : Below w.heap.size w w4 := (Hw2.out.trans (HB3.out.mono Hw2.out.size)).grown HT4.out (Hw2.out.trans (HB3.out.mono Hw2.out.size)).size (fun k e => by injection e with e; omega)
          have hbX : Below w.heap.size w4 WX := by rw [← HWX.out]; exact World.below_setCells hwB _ _ _ ((Below.refl _ _).mono hb34.size)
          have hMX : WX.heap[W1.heap.size]? = w4.heap[W1.heap.size]? := by rw [← HWX.out]; exact World.other_setCells (by omega) _ _ _
          have hRX : WX.rangeAt B 0 [.int .u8 (a0.toNat : Nat), .int .u8 (a1.toNat : Nat), .int .u8 (a2.toNat : Nat), .int .u8 (a3.toNat : Nat), .int .u8 (a4.toNat : Nat), .int .u8 (a5.toNat : Nat), .int .u8 (a6.toNat : Nat), .int .u8 (a7.toNat : Nat), .int .u8 (a8.toNat : Nat), .int .u8 (a9.toNat : Nat), .int .u8 (aA.toNat : Nat), .int .u8 (aB.toNat : Nat), .int .u8 (aC.toNat : Nat), .int .u8 (aD.toNat : Nat), .int .u8 (aE.toNat : Nat), .int .u8 (aF.toNat : Nat), nv4] := by rw [← HWX.out]; exact World.rangeAt_setCells_same _ _ _ _ HTH.out
          have hTX : WX.there B 0 17 := by rw [← HWX.out]; exact World.there_setCells HTH.out _ _ _
          have hOX : ∀ k, k ≠ B → WX.heap[k]? = w4.heap[k]? := fun k hk => by rw [← HWX.out]; exact World.other_setCells hk _ _ _
          have hMlt : W1.heap.size < WX.heap.size := Nat.lt_of_lt_of_le HM4.out.lt hbX.size
          have HRX := Lib.hid hRX; have HTX := Lib.hid hTX; have HOX := Lib.hid hOX; have HBX := Lib.hid hbX; have HB4 := Lib.hid hb34; have HBltX := Lib.hid (there_lt hTX)
          have QK : Hid (∀ W, Below WX.heap.size WX W → W.cell? ⟨W1.heap.size, 0, none⟩ = some (.int .i64 (cv : Int)) ∧ W.cell? ⟨W1.heap.size, 1, none⟩ = some (.int .i64 (cc : Int))) := Lib.hid fun W hW =>
            have h := (hW.block W1.heap.size hMlt).trans hMX
            ⟨(World.cell?_of_block h).trans HM4.out.2.1, (World.cell?_of_block h).trans HM4.out.2.2.1⟩
          have hrX : Below WX.heap.size WX WX.drew := by (repeat (first | exact Below.refl _ _ | with_reducible assumption | refine Below.drew ?_ | (refine Below.alloc ?_ (by simp) _) | (refine Below.alloc ?_ (by simp; omega) _)))
          have g3 : ¬ ((cv : Int) < (cc : Int)) := by have := HCC.out; omega
          have g4 := decide_eq_false g3
          have g6 : decide (cv < cc) = false := decide_eq_false (Nat.not_lt.2 HCC.out)
          clear hMX hRX hTX hOX hbX hb34 hsz hwB hMlt y0 y1 y2 z0 z1 z2 CL CST hb3
          go_region_held3 (fun w' => w'.cell? ⟨W1.heap.size, 0, none⟩ = some (.int .i64 (cv : Int)) ∧ w'.cell? ⟨W1.heap.size, 1, none⟩ = some (.int .i64 (cc : Int))) (first | with_reducible exact QK.out _ hw5 | with_reducible exact QK.out _ hrX)
            ((go_at_call 9; (with_reducible refine (CBD.out _ cv HBD.out).mono ?_); rintro e w5 ⟨Bd, rfl, hBd, hb5⟩; have hw5 : Below WX.heap.size WX w5 := hrX.trans (hb5.mono hrX.size); have g1 : ¬ ((Bd : Int) < (cv : Int)) := Int.not_lt.2 (Int.ofNat_le.2 hBd); have g2 := decide_eq_false g1; have g5 : decide (Bd < cv) = false := decide_eq_false (Nat.not_lt.2 hBd)))
          have HW5 := Lib.hid hw5
          clear hw5 hb5 hBd QK CBD hrX
          go_wp2_with fail
          have hmv : Moves (fun k => k ≠ B ∧ k ≠ W1.heap.size) (fun k => k ≠ B) w4 w5 := fun k hk hl => ⟨hk.1, (HW5.out.block k (Nat.lt_of_lt_of_le hl HBX.out.size)).trans (HOX.out k hk.1)⟩
          exact ⟨⟨j + 1, nv4, o4, _, HLT.out, int_succ HLT.out HL.out, by rw [HBV.out]; exact rng_same (HW5.out.block B HBltX.out) HRX.out, there_same (HW5.out.block B HBltX.out) HTX.out, ONodeAt.move hmv HN4.out, HL4.out, HX4.out.move goodSp hmv, HOK.out.1, Nat.le_trans HOK.out.2 (Nat.succ_le_succ HML.out), (HB4.out.trans HBX.out).trans (HW5.out.mono (Nat.le_trans HB4.out.size HBX.out.size))⟩, less_succ HLT.out HL.out⟩)
      · obtain rfl : j = l.length := by omega
        have CAW := Lib.hid (CA.out wr hB)
        have HB := Lib.hid hB
        clear hlt hB hrng hthr hN hOL hMv hMk hml H0 CA
        go_wp2_with (go_at_call 5; (with_reducible refine CAW.out.mono ?_); rintro e w2 ⟨rfl, hb2⟩; have HB2 := Lib.hid (HB.out.trans (hb2.mono HB.out.size)))
        go_ret
        exact ⟨rfl, HB2.out⟩
end Go.Proofs.YtadaoceidkagfaaDoor
