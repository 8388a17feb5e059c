/- law21.TriePlays. -/
import Derived.Test.YtadaoceidkagfaaGreatDoorTwoA
import Derived.Test.YtadaoceidkagfaaGreatDoorLay21
import Derived.Test.YtadaoceidkagfaaGreatDoorShapeA
import Derived.Test.YtadaoceidkagfaaGreatDoorSameA
namespace Go.Proofs.YtadaoceidkagfaaGreatDoor
open Go.RowKit Go.Bw
def PLoop (s : List UInt8) (l : List Bw.Op) (w : World) (b : Nat) (xv i : Value) (W : World) : Prop :=
  ∃ j nv o m, j <= l.length /\ i = .int .i64 (j : Nat) /\ OneAt w b s m nv o W /\ SPairsAt (Not1 b) W xv m /\ MapOk m /\ m.length <= j
set_option maxRecDepth 100000 in
set_option maxHeartbeats 8000000 in
theorem trieplays_any {s : List UInt8} {l : List Bw.Op} {v : Value} {w : World} (hs : s.length = 16) (hr : OpsAt AllB w v l) (hT : Tab w) (hSt : Sta w) :
    Calls Tryz.prog 6 #[seedV s, v] w fun e w' => e = .returned (.bool true) /\ Below w.heap.size w w' := by
  obtain ⟨A, c, rfl⟩ := hr.form
  obtain ⟨W0, hW0⟩ : ∃ W0, w.alloc (.cells (seedL s).toArray 23) = W0 := ⟨_, rfl⟩
  have hB0 : Below w.heap.size w W0 := by rw [<- hW0]; exact (Below.refl _ _).alloc (Nat.le_refl _) _
  have hr1 : W0.rangeAt w.heap.size 0 (seedL s) := by rw [<- hW0]; exact seed_in
  have hlt : w.heap.size < W0.heap.size := by rw [<- hW0]; simp
  have CF := Lib.hid (fine11_any 40 (by decide) (hr.move goodOp (Moves.below hB0)))
  have CA := Lib.hid (fun W (hW : Below w.heap.size w W) => awake21_any W (hT.below hT.pos hW) (hSt.below hSt.pos hW))
  have HB0 := Lib.hid hB0
  simp only [seedV_is]
  cases hfine : opsB l 40 with
  | false =>
    rw [hfine] at CF
    clear hr hfine hT hSt hs hB0 hr1 hlt
    go_enter Tryz.func6, Tryz.ntmps6
    go_wp2_with (first
      | (go_at_call 7; (refine CF.out.mono ?_); rintro e w1 ⟨rfl, hb1⟩; have hw1 := HB0.out.trans (hb1.mono HB0.out.size))
      | (go_at_call 8; (with_reducible refine (CA.out _ hw1).mono ?_); rintro e w2 ⟨rfl, hb2⟩))
    go_ret
    exact ⟨rfl, hw1.trans (hb2.mono hw1.size)⟩
  | true =>
    rw [hfine] at CF
    obtain ⟨hl40, hby⟩ := opsB_parts hfine
    have HL40 := Lib.hid hl40
    have HL : Hid (l.length <= 1048576) := Lib.hid (by omega)
    have HBY := Lib.hid hby; have HR := Lib.hid hr; have HTAB := Lib.hid hT; have HSTA := Lib.hid hSt; have HS := Lib.hid hs
    have CN1 := Lib.hid (fun W => tnew_any hs W)
    have HR0 : Hid (∀ W, Below W0.heap.size W0 W -> W.rangeAt w.heap.size 0 (seedL s)) := Lib.hid fun W hW => rng_same (hW.block w.heap.size hlt) hr1
    have HLW := Lib.hid hlt
    clear hr hfine hT hSt hs hl40 hby hB0 hr1 hlt
    go_enter Tryz.func6, Tryz.ntmps6
    go_wp2_with (first
      | (go_at_call 7; (refine CF.out.mono ?_); rintro e w1 ⟨rfl, hb1⟩; have hwA : Below w.heap.size w w1 := HB0.out.trans (hb1.mono HB0.out.size); have hsw : w.heap.size < w1.heap.size := Nat.lt_of_lt_of_le HLW.out hb1.size; have hrw := HR0.out w1 hb1; clear CF)
      | (refine wpl_load_seed (x := .tmp 2) rfl rfl (b := w.heap.size) rfl HS.out hrw ?_; simp only [Act.put, List.setIfInBounds_toArray, List.set_cons_zero, List.set_cons_succ])
      | (go_at_call 9; (with_reducible refine (CN1.out _).mono ?_); rintro e w2 ⟨rfl, hb2⟩; have hth := trie_there w2 #[.int .u8 0, .int .u8 0, .int .u8 0, .int .u8 0, .int .u8 0, .int .u8 0, .int .u8 0, .int .u8 0, .int .u8 0, .int .u8 0, .int .u8 0, .int .u8 0, .int .u8 0, .int .u8 0, .int .u8 0, .int .u8 0, .nilIface] 30 rfl; obtain ⟨WZ, hWZ⟩ : ∃ WZ, (w2.alloc (.cells #[.int .u8 0, .int .u8 0, .int .u8 0, .int .u8 0, .int .u8 0, .int .u8 0, .int .u8 0, .int .u8 0, .int .u8 0, .int .u8 0, .int .u8 0, .int .u8 0, .int .u8 0, .int .u8 0, .int .u8 0, .int .u8 0, .nilIface] 30)).setCells w2.heap.size 0 (trieL s .nilIface) = WZ := ⟨_, rfl⟩)
      | (refine wpl_store_trie (x := .tmp 5) (y := .tmp 16) (s := s) (nv := .nilIface) rfl rfl (b := w2.heap.size) rfl rfl HS.out rfl hth ?_; simp only [hWZ, Act.put]))
    obtain ⟨b, hb⟩ : ∃ b, w2.heap.size = b := ⟨_, rfl⟩
    have hOne : OneAt w b s [] .nilIface none WZ := by
      have hb3 : Below w2.heap.size w2 (w2.alloc (.cells #[.int .u8 0, .int .u8 0, .int .u8 0, .int .u8 0, .int .u8 0, .int .u8 0, .int .u8 0, .int .u8 0, .int .u8 0, .int .u8 0, .int .u8 0, .int .u8 0, .int .u8 0, .int .u8 0, .int .u8 0, .int .u8 0, .nilIface] 30)) := (Below.refl _ _).alloc (Nat.le_refl _) _
      rw [<- hWZ, <- hb]
      exact one_start hwA (Nat.lt_of_lt_of_le hsw hb2.size) hb2.size hth HS.out (rng_same ((hb3.block _ (Nat.lt_of_lt_of_le hsw hb2.size)).trans (hb2.block _ hsw)) hrw) (hb2.trans (hb3.mono hb2.size))
    obtain ⟨WA, rfl⟩ : ∃ WA, WA = WZ := ⟨_, rfl⟩
    rw [hb]
    have H0 : Hid (PLoop s l w b (.slice none 0 0) (.int .i64 0) WA) := Lib.hid ⟨0, _, _, [], Nat.zero_le _, rfl, hOne, RowAt.nil, mapOk_nil, Nat.le_refl _⟩
    clear hOne hwA CN1 HLW hb1 HR0 HB0 hW0 hsw hrw hth hWZ hb2 hb
    go_wp2_with fail
    go_loopw [6, 19] (PLoop s l w b) (fun _ i _ => l.length - (intOf i).toNat)
    case atStart => exact H0.out
    case round =>
      obtain ⟨j, nv, o, m, hk, rfl, hTw, hMv, hMk, hml⟩ := hrel
      by_cases hlt : j < l.length
      · obtain ⟨bb, off, u1, u2, rfl, hob, c0, c1, c2, hu, hv⟩ := op_get HR.out (List.getElem?_eq_getElem hlt)
        obtain ⟨U1, cu1, rfl⟩ := hu.form
        obtain ⟨U2, cu2, rfl⟩ := hv.form
        have hB := hTw.hB
        have hbl := World.block_lt_of_cell? w _ c0
        dsimp only at hbl
        have d0 := (hB.cell (p := ⟨bb, off + j * 3, none⟩) hbl).trans c0
        have d1 := (hB.cell (p := ⟨bb, off + j * 3 + 1, none⟩) hbl).trans c1
        have d2 := (hB.cell (p := ⟨bb, off + j * 3 + 2, none⟩) hbl).trans c2
        have hbl2 : bb < wr.heap.size := Nat.lt_of_lt_of_le hbl hB.size
        have h0 : (0 : Int) <= (j : Int) := by omega
        have h1 : (j : Int) < (l.length : Int) := by omega
        have hq := HBY.out l[j] (List.getElem_mem hlt)
        generalize l[j] = q at *
        obtain ⟨kd, qx, qy⟩ := q
        dsimp only at *
        obtain ⟨X, cx, rfl⟩ := hMv.form
        have hq' : qx.length <= 1048576 /\ qy.length <= 1048576 := ⟨Nat.le_trans hq.1 (by decide), Nat.le_trans hq.2 (by decide)⟩
        obtain ⟨W1, hW1⟩ : ∃ W1, wr.alloc (.cells #[.int .i64 kd, .slice U1 qx.length cu1, .slice U2 qy.length cu2] 35) = W1 := ⟨_, rfl⟩
        have hb1 : Below wr.heap.size wr W1 := by rw [<- hW1]; exact (Below.refl _ _).alloc (Nat.le_refl _) _
        have hox : W1.heap[wr.heap.size]? = some (.cells #[.int .i64 kd, .slice U1 qx.length cu1, .slice U2 qy.length cu2] 35 (0, 0)) := by rw [<- hW1]; exact heap_alloc_new wr _
        have hT1 : OneAt w b s m nv o W1 := hTw.below hb1
        have hM1 : SPairsAt (Not1 b) W1 (.slice X m.length cx) m := hMv.move goodSp (Moves.below hb1)
        have SO : Hid (W1.cell? ⟨wr.heap.size, 0, none⟩ = some (.int .i64 kd) /\ W1.cell? ⟨wr.heap.size, 1, none⟩ = some (.slice U1 qx.length cu1) /\ W1.cell? ⟨wr.heap.size, 2, none⟩ = some (.slice U2 qy.length cu2)) := Lib.hid
          ⟨(cell_of_row W1 wr.heap.size 0 _ _ (0, 0) hox).trans rfl, (cell_of_row W1 wr.heap.size 1 _ _ (0, 0) hox).trans rfl, (cell_of_row W1 wr.heap.size 2 _ _ (0, 0) hox).trans rfl⟩
        have CS1 := Lib.hid (step_any (hT1.ins (q := (qx, qy)) HS.out hMk hM1 hu hv hq' HTAB.out HSTA.out) kd)
        have HOK := Lib.hid (stepM_ok (e := (kd, (qx, qy))) hMk (by have := HL40.out; omega) hq'.1 hq'.2)
        have HLT := Lib.hid hlt; have HML := Lib.hid hml; have HT1 := Lib.hid hT1
        have HM40 : Hid (m.length < 40) := Lib.hid (by have := HL40.out; omega)
        obtain ⟨M', hM'⟩ : ∃ M', stepM m (kd, (qx, qy)) = M' := ⟨_, rfl⟩
        simp only [hM'] at CS1 HOK
        clear hu hv c0 c1 c2 hTw hMv hMk hml hq hq' H0 hlt hb1 hox hT1 hM1 hB hM'
        obtain ⟨y0, y1, y2⟩ := SO.out
        go_wp2_with (first
          | (refine wpl_load_trie (x := .tmp 5) rfl rfl (b := b) rfl HS.out HT1.out.t ?_; simp only [Act.put, List.setIfInBounds_toArray, List.set_cons_zero, List.set_cons_succ])
          | (go_at_call 10; (with_reducible refine CS1.out.mono ?_); rintro e w2 ⟨na2, oa2, xv2, cva, cca, rfl, hn2, hl2, hx2, _, _, _, ht2⟩; have hb2 := ht2.below; have hT2 := HT1.out.below hb2; have hone2 := one_node hn2; obtain ⟨WX, hWX⟩ : ∃ WX, w2.setCells b 0 (trieL s na2) = WX := ⟨_, rfl⟩; have hTX := hT2.set HS.out hn2 hl2; rw [hWX] at hTX; have HTX := Lib.hid hTX; have HT2 := Lib.hid hT2; have HWX := Lib.hid hWX; have HMX : Hid (SPairsAt (Not1 b) WX xv2 M') := Lib.hid (by rw [<- hWX]; exact hx2.move goodSp (moves_set b w2 _)); clear hn2 hl2 hx2 ht2 hb2 hT2 hTX hWX)
          | (refine wpl_store_trie (x := .tmp 5) (y := .tmp 28) (s := s) (nv := na2) rfl rfl (b := b) rfl rfl HS.out hone2 HT2.out.t.there ?_; simp only [HWX.out, Act.put]))
        have hlM : M'.length <= 40 := by have h1 := HOK.out.2; have h2 := HM40.out; omega
        have HLM : Hid (M'.length <= 1048576) := Lib.hid (by omega)
        obtain ⟨X2, cx2, rfl⟩ := HMX.out.form
        have hbd : Below WX.heap.size WX WX.drew := by exact gB3
        have hS0 := hbd
        have CSD := Lib.hid (fun W => tseed_any (nv := na2) HS.out W)
        have HNQ := Lib.hid (neqSeed HS.out)
        have hmA : manyO oa2 = M'.length := ents_many HOK.out.1 HTX.out.y
        have CL1 := Lib.hid (fun (W : World) (hW : Below WX.heap.size WX W) => tlen_any (s := s) HS.out (HTX.out.below hW).n)
        rw [hmA] at CL1
        have CP1 := Lib.hid (fun (W : World) (hW : Below WX.heap.size WX W) => tpairs_any HS.out HOK.out.1 HLM.out (HTX.out.below hW).n HTX.out.y)
        have CIS := Lib.hid (fun (W : World) (q : Value) (ok : Nat -> Prop) (hq : PairsAt ok W q M') (hW : Below WX.heap.size WX W) => (ris_any (w := W) HLM.out hq (HMX.out.move goodSp (Moves.below hW))).mono (R' := fun e w' => e = .returned (.bool true) /\ Below W.heap.size W w') (fun e w' ⟨he, n, hn⟩ => ⟨by rw [he]; simp, by rw [hn]; exact b_drewN (Below.refl _ _) n⟩))
        have HLM40 := Lib.hid hlM
        clear hmA y0 y1 y2 CS1 hW1 hbd hlM
        refine wp_region_held_drew (S := fun W => Below WX.heap.size WX W) (by kernel_rfl) hS0 (fun _ => ?_)
        generalize WX.drew = V0 at *
        refine take_op (i := 0) (v := .bool true) rfl (by kernel_rfl) (by kernel_rfl) (by kernel_rfl) (fun _ _ _ h => h) (Or.inl ⟨by rfl, fun w hw => by go_simp⟩) hS0 ?_
        simp only [Act.put, List.setIfInBounds_toArray, List.set_cons_zero, List.set_cons_succ]
        refine take_op (i := 1) (v := .bool false) rfl (by kernel_rfl) (by kernel_rfl) (by kernel_rfl) (fun _ _ _ h => h) (Or.inl ⟨by rfl, fun w hw => by go_simp⟩) hS0 ?_
        simp only [Act.put, List.setIfInBounds_toArray, List.set_cons_zero, List.set_cons_succ]
        refine take_op (i := 2) (v := .bool false) rfl (by kernel_rfl) (by kernel_rfl) (by kernel_rfl) (fun _ _ _ h => h) (Or.inl ⟨by rfl, fun w hw => by go_simp⟩) hS0 ?_
        simp only [Act.put, List.setIfInBounds_toArray, List.set_cons_zero, List.set_cons_succ]
        refine take_op (i := 3) rfl (by kernel_rfl) (by kernel_rfl) (by kernel_rfl) (fun _ _ _ h => h) (yieldsIf_load_trie (x := .tmp 5) (b := b) (by rfl) rfl rfl HS.out (fun w h => (HTX.out.below h).t)) hS0 ?_
        simp only [Act.put, List.setIfInBounds_toArray, List.set_cons_zero, List.set_cons_succ]
        refine take_op (i := 5) rfl (by kernel_rfl) (by kernel_rfl) (by kernel_rfl) (fun _ _ _ h => h) (yieldsIf_load_seed (x := .tmp 2) (b := w.heap.size) (by rfl) rfl rfl HS.out (fun w h => (HTX.out.below h).sd)) hS0 ?_
        simp only [Act.put, List.setIfInBounds_toArray, List.set_cons_zero, List.set_cons_succ]
        refine wpAnyH_ready (rs := [4]) (by kernel_rfl) (by simp) (ready_cons (i := 4) rfl (by rfl) (fun K hK => ?_) AllReadyH.nil)
        go_simp
        refine (CSD.out V0).mono ?_
        rintro e V1 ⟨rfl, hb1⟩
        go_wp2_with fail
        refine hK.out _ _ (hS0.trans (Below.mono hb1 hS0.size)) (fun hS1 => ?_)
        clear hK K
        try simp only [Act.put, List.setIfInBounds_toArray, List.set_cons_zero, List.set_cons_succ]
        refine take_op (i := 6) (v := .bool false) rfl (by kernel_rfl) (by kernel_rfl) (by kernel_rfl) (fun _ _ _ h => h) (Or.inl ⟨by rfl, fun W hw => by have hq := HNQ.out W; have hg := eqgSeed s (.tmp 35) (.tmp 36) W; go_simp⟩) hS1 ?_
        simp only [Act.put, List.setIfInBounds_toArray, List.set_cons_zero, List.set_cons_succ]
        refine take_op (i := 7) (v := .bool false) rfl (by kernel_rfl) (by kernel_rfl) (by kernel_rfl) (fun _ _ _ h => h) (Or.inl ⟨by rfl, fun w hw => by go_simp⟩) hS1 ?_
        simp only [Act.put, List.setIfInBounds_toArray, List.set_cons_zero, List.set_cons_succ]
        refine take_op (i := 8) (v := .bool false) rfl (by kernel_rfl) (by kernel_rfl) (by kernel_rfl) (fun _ _ _ h => h) (Or.inl ⟨by rfl, fun w hw => by go_simp⟩) hS1 ?_
        simp only [Act.put, List.setIfInBounds_toArray, List.set_cons_zero, List.set_cons_succ]
        refine take_op (i := 9) rfl (by kernel_rfl) (by kernel_rfl) (by kernel_rfl) (fun _ _ _ h => h) (yieldsIf_load_trie (x := .tmp 5) (b := b) (by rfl) rfl rfl HS.out (fun w h => (HTX.out.below h).t)) hS1 ?_
        simp only [Act.put, List.setIfInBounds_toArray, List.set_cons_zero, List.set_cons_succ]
        refine take_op (i := 11) (v := .slice X2 M'.length cx2) rfl (by kernel_rfl) (by kernel_rfl) (by kernel_rfl) (fun _ _ _ h => h) (Or.inl ⟨by rfl, fun w hw => by go_simp⟩) hS1 ?_
        simp only [Act.put, List.setIfInBounds_toArray, List.set_cons_zero, List.set_cons_succ]
        refine take_op (i := 12) (v := .int .i64 (M'.length : Nat)) rfl (by kernel_rfl) (by kernel_rfl) (by kernel_rfl) (fun _ _ _ h => h) (Or.inl ⟨by rfl, fun w hw => by go_simp⟩) hS1 ?_
        simp only [Act.put, List.setIfInBounds_toArray, List.set_cons_zero, List.set_cons_succ]
        refine wpAnyH_ready (rs := [10]) (by kernel_rfl) (by simp) (ready_cons (i := 10) rfl (by rfl) (fun K hK => ?_) AllReadyH.nil)
        go_simp
        refine (CL1.out V1 hS1).mono ?_
        rintro e V2 ⟨rfl, hb2⟩
        go_wp2_with fail
        refine hK.out _ _ (hS1.trans (Below.mono hb2 hS1.size)) (fun hS2 => ?_)
        clear hK K
        try simp only [Act.put, List.setIfInBounds_toArray, List.set_cons_zero, List.set_cons_succ]
        refine take_op (i := 13) (v := .bool false) rfl (by kernel_rfl) (by kernel_rfl) (by kernel_rfl) (fun _ _ _ h => h) (Or.inl ⟨by rfl, fun w hw => by go_simp⟩) hS2 ?_
        simp only [Act.put, List.setIfInBounds_toArray, List.set_cons_zero, List.set_cons_succ]
        refine take_op (i := 14) (v := .bool false) rfl (by kernel_rfl) (by kernel_rfl) (by kernel_rfl) (fun _ _ _ h => h) (Or.inl ⟨by rfl, fun w hw => by go_simp⟩) hS2 ?_
        simp only [Act.put, List.setIfInBounds_toArray, List.set_cons_zero, List.set_cons_succ]
        refine take_op (i := 15) (v := .bool false) rfl (by kernel_rfl) (by kernel_rfl) (by kernel_rfl) (fun _ _ _ h => h) (Or.inl ⟨by rfl, fun w hw => by go_simp⟩) hS2 ?_
        simp only [Act.put, List.setIfInBounds_toArray, List.set_cons_zero, List.set_cons_succ]
        refine take_op (i := 16) rfl (by kernel_rfl) (by kernel_rfl) (by kernel_rfl) (fun _ _ _ h => h) (yieldsIf_load_trie (x := .tmp 5) (b := b) (by rfl) rfl rfl HS.out (fun w h => (HTX.out.below h).t)) hS2 ?_
        simp only [Act.put, List.setIfInBounds_toArray, List.set_cons_zero, List.set_cons_succ]
        refine take_op (i := 18) (v := .slice X2 M'.length cx2) rfl (by kernel_rfl) (by kernel_rfl) (by kernel_rfl) (fun _ _ _ h => h) (Or.inl ⟨by rfl, fun w hw => by go_simp⟩) hS2 ?_
        simp only [Act.put, List.setIfInBounds_toArray, List.set_cons_zero, List.set_cons_succ]
        refine wpAnyH_ready (rs := [17]) (by kernel_rfl) (by simp) (ready_cons (i := 17) rfl (by rfl) (fun K hK => ?_) AllReadyH.nil)
        go_simp
        refine (CP1.out V2 hS2).mono ?_
        rintro e V3 ⟨q3, rfl, hq3, hb3⟩
        go_wp2_with fail
        refine hK.out _ _ (hS2.trans (Below.mono hb3 hS2.size)) (fun hS3 => ?_)
        clear hK K
        try simp only [Act.put, List.setIfInBounds_toArray, List.set_cons_zero, List.set_cons_succ]
        refine wpAnyH_ready (rs := [19]) (by kernel_rfl) (by simp) (ready_cons (i := 19) rfl (by rfl) (fun K hK => ?_) AllReadyH.nil)
        go_simp
        refine (CIS.out V3 _ _ hq3 hS3).mono ?_
        rintro e V4 ⟨rfl, hb4⟩
        go_wp2_with fail
        refine hK.out _ _ (hS3.trans (Below.mono hb4 hS3.size)) (fun hS4 => ?_)
        clear hK K
        try simp only [Act.put, List.setIfInBounds_toArray, List.set_cons_zero, List.set_cons_succ]
        refine take_op (i := 20) (v := .bool false) rfl (by kernel_rfl) (by kernel_rfl) (by kernel_rfl) (fun _ _ _ h => h) (Or.inl ⟨by rfl, fun w hw => by go_simp⟩) hS4 ?_
        simp only [Act.put, List.setIfInBounds_toArray, List.set_cons_zero, List.set_cons_succ]
        refine take_op (i := 21) (v := .bool false) rfl (by kernel_rfl) (by kernel_rfl) (by kernel_rfl) (fun _ _ _ h => h) (Or.inl ⟨by rfl, fun w hw => by go_simp⟩) hS4 ?_
        simp only [Act.put, List.setIfInBounds_toArray, List.set_cons_zero, List.set_cons_succ]
        refine wpAnyH_done (by kernel_rfl) ?_ _
        have HT10 := Lib.hid (HTX.out.below hS4)
        have HM10 := Lib.hid (HMX.out.move goodSp (Moves.below hS4))
        have hab := ents_abs (fun k => Bw.sipHash_lt s k) HOK.out.1 HTX.out.y
        have CLY := rlay21_any (w := V4) HS.out HOK.out.1 HLM.out HM10.out
        rw [hab] at CLY
        obtain ⟨xx, hxx⟩ : ∃ x, Bw.absO oa2 = x := ⟨_, rfl⟩
        rw [hxx] at CLY
        have CLY := Lib.hid CLY
        have HXX := Lib.hid hxx
        clear hab hxx hS0 hS1 hS2 hS3 hS4 hb1 hb2 hb3 hb4 hq3 CSD CL1 CP1 CIS
        obtain ⟨kx, gx, px, sx, nx⟩ := xx
        generalize V4 = WB at *
        go_wp2_with (first
          | (refine wpl_load_seed (x := .tmp 2) rfl rfl (b := w.heap.size) rfl HS.out HT10.out.sd ?_; simp only [Act.put, List.setIfInBounds_toArray, List.set_cons_zero, List.set_cons_succ])
          | (go_at_call 16; (with_reducible refine CLY.out.mono ?_); rintro e w5 ⟨q5, rfl, ⟨cs5, rfl, hx5⟩, hb5⟩; obtain ⟨vp6, vs6, vk6, rfl, hp6, hs6, hk6⟩ := xK_iff.1 hx5; obtain ⟨P6, cp6, rfl⟩ := hp6.form; obtain ⟨S6, cs6, rfl⟩ := hs6.form; obtain ⟨K6, ck6, rfl⟩ := hk6.form))
        obtain ⟨W7, hW7⟩ : ∃ W7, w5.alloc (.cells #[.int .i64 (kx : Nat), .int .u64 (gx : Nat), .slice P6 px.length cp6, .slice S6 sx.length cs6, .slice K6 nx.length ck6] 51) = W7 := ⟨_, rfl⟩
        have hb57 : Below w5.heap.size w5 W7 := by rw [<- hW7]; exact (Below.refl _ _).alloc (Nat.le_refl _) _
        have hbx7 : W7.heap[w5.heap.size]? = some (.cells #[.int .i64 (kx : Nat), .int .u64 (gx : Nat), .slice P6 px.length cp6, .slice S6 sx.length cs6, .slice K6 nx.length ck6] 51 (0, 0)) := by rw [<- hW7]; exact heap_alloc_new w5 _
        have SK : Hid (∀ W, Below W7.heap.size W7 W -> W.cell? ⟨w5.heap.size, 0, none⟩ = some (.int .i64 (kx : Nat)) /\ W.cell? ⟨w5.heap.size, 1, none⟩ = some (.int .u64 (gx : Nat)) /\ W.cell? ⟨w5.heap.size, 2, none⟩ = some (.slice P6 px.length cp6) /\ W.cell? ⟨w5.heap.size, 3, none⟩ = some (.slice S6 sx.length cs6) /\ W.cell? ⟨w5.heap.size, 4, none⟩ = some (.slice K6 nx.length ck6)) := Lib.hid fun W hW => by
          have h := cells5 ((hW.block _ (heap_lt hbx7)).trans hbx7)
          exact ⟨h.1, h.2.1, h.2.2.1, h.2.2.2.1, h.2.2.2.2.1⟩
        have hb17 := hb5.trans (hb57.mono hb5.size)
        have HT13 := Lib.hid (HT10.out.below hb17)
        have HM13 := Lib.hid (HM10.out.move goodSp (Moves.below hb17))
        have HX7 : Hid (∀ W, Below W7.heap.size W7 W -> xK AllB W (Bw.absO oa2) [.int .i64 (kx : Nat), .int .u64 (gx : Nat), .slice P6 px.length cp6, .slice S6 sx.length cs6, .slice K6 nx.length ck6]) := Lib.hid fun W hW => by
          rw [HXX.out]
          exact XAt.move (ok' := AllB) (fun b _ hbl => ⟨trivial, (hb57.trans (hW.mono hb57.size)).block b hbl⟩) _ _ hx5
        have hfit : ∀ n, oa2 = some n -> n.fit := ents_fit HOK.out.1 HTX.out.y
        have hslim : ∀ n, oa2 = some n -> Slim n := ents_slim (fun k => Bw.sipHash_lt s k) HOK.out.1 (by have := HLM40.out; omega) HTX.out.y
        have hmany : manyO oa2 = M'.length := ents_many HOK.out.1 HTX.out.y
        have CR := Lib.hid (fun W => troot_any (nv := na2) HS.out W)
        have CSM := Lib.hid (fun (W : World) (hW : Below W7.heap.size W7 W) => sameO_any (o := oa2) ((HT13.out.below hW).n.move (ok' := AllB) (Moves.weaken fun _ _ _ => trivial)) (HX7.out W hW) hfit)
        have CSH := fun (W : World) (hW : Below W7.heap.size W7 W) => rshapeO_any (HX7.out W hW) (fun n e => ⟨fit_thin n (hfit n e), by subst e; have h1 : n.count = M'.length := hmany; have := HLM40.out; omega⟩) (slim_len hslim).1
        have CSP := fun (W : World) (hW : Below W7.heap.size W7 W) (ok : Nat -> Prop) (q : Value) (hq : SpotsAt ok W q (Bw.spotsOf (Bw.visitsO 0 oa2))) => shaped_any (HT13.out.below hW).n hslim (HTAB.out.below HTAB.out.pos (HT13.out.below hW).hB) hq
        have CTS := fun (W : World) (hW : Below W7.heap.size W7 W) => tshape_any HS.out (HT13.out.below hW).n hslim (HTAB.out.below HTAB.out.pos (HT13.out.below hW).hB)
        generalize Bw.spotsOf (Bw.visitsO 0 oa2) = SP at CSH CSP CTS
        have CSH := Lib.hid CSH; have CSP := Lib.hid CSP; have CTS := Lib.hid CTS
        have hbd : Below W7.heap.size W7 W7.drew := by exact gB3
        have hS0 := hbd
        clear hmany hfit hslim hb17 hbx7 hb57 hx5 hb5 hp6 hs6 hk6 CLY hbd
        go_wp2_with (rw [hW7])
        refine wp_region_held_drew (S := fun W => Below W7.heap.size W7 W) (by kernel_rfl) hS0 (fun _ => ?_)
        generalize W7.drew = V0 at *
        refine take_op (i := 0) rfl (by kernel_rfl) (by kernel_rfl) (by kernel_rfl) (fun _ _ _ h => h) (yieldsIf_load_trie (x := .tmp 5) (b := b) (by rfl) rfl rfl HS.out (fun w h => (HT13.out.below h).t)) hS0 ?_
        simp only [Act.put, List.setIfInBounds_toArray, List.set_cons_zero, List.set_cons_succ]
        refine take_op (i := 2) (v := .agg #[.int .i64 (kx : Nat), .int .u64 (gx : Nat), .slice P6 px.length cp6, .slice S6 sx.length cs6, .slice K6 nx.length ck6]) rfl (by kernel_rfl) (by kernel_rfl) (by kernel_rfl) (fun _ _ _ h => h) (Or.inl ⟨by rfl, fun W hw => by obtain ⟨c0, c1, c2, c3, c4⟩ := SK.out W hw; go_simp⟩) hS0 ?_
        simp only [Act.put, List.setIfInBounds_toArray, List.set_cons_zero, List.set_cons_succ]
        refine wpAnyH_ready (rs := [1]) (by kernel_rfl) (by simp) (ready_cons (i := 1) rfl (by rfl) (fun K hK => ?_) AllReadyH.nil)
        go_simp
        refine (CR.out V0).mono ?_
        rintro e V1 ⟨rfl, hb1⟩
        go_wp2_with fail
        refine hK.out _ _ (hS0.trans (Below.mono hb1 hS0.size)) (fun hS1 => ?_)
        clear hK K
        try simp only [Act.put, List.setIfInBounds_toArray, List.set_cons_zero, List.set_cons_succ]
        refine wpAnyH_ready (rs := [3]) (by kernel_rfl) (by simp) (ready_cons (i := 3) rfl (by rfl) (fun K hK => ?_) AllReadyH.nil)
        go_simp
        refine (CSM.out V1 hS1).mono ?_
        rintro e V2 ⟨rfl, hb2⟩
        go_wp2_with fail
        refine hK.out _ _ (hS1.trans (Below.mono hb2 hS1.size)) (fun hS2 => ?_)
        clear hK K
        try simp only [Act.put, List.setIfInBounds_toArray, List.set_cons_zero, List.set_cons_succ]
        refine take_op (i := 4) (v := .bool false) rfl (by kernel_rfl) (by kernel_rfl) (by kernel_rfl) (fun _ _ _ h => h) (Or.inl ⟨by rfl, fun w hw => by go_simp⟩) hS2 ?_
        simp only [Act.put, List.setIfInBounds_toArray, List.set_cons_zero, List.set_cons_succ]
        refine take_op (i := 5) (v := .bool false) rfl (by kernel_rfl) (by kernel_rfl) (by kernel_rfl) (fun _ _ _ h => h) (Or.inl ⟨by rfl, fun w hw => by go_simp⟩) hS2 ?_
        simp only [Act.put, List.setIfInBounds_toArray, List.set_cons_zero, List.set_cons_succ]
        refine take_op (i := 6) rfl (by kernel_rfl) (by kernel_rfl) (by kernel_rfl) (fun _ _ _ h => h) (yieldsIf_load_trie (x := .tmp 5) (b := b) (by rfl) rfl rfl HS.out (fun w h => (HT13.out.below h).t)) hS2 ?_
        simp only [Act.put, List.setIfInBounds_toArray, List.set_cons_zero, List.set_cons_succ]
        refine take_op (i := 8) (v := .agg #[.int .i64 (kx : Nat), .int .u64 (gx : Nat), .slice P6 px.length cp6, .slice S6 sx.length cs6, .slice K6 nx.length ck6]) rfl (by kernel_rfl) (by kernel_rfl) (by kernel_rfl) (fun _ _ _ h => h) (Or.inl ⟨by rfl, fun W hw => by obtain ⟨c0, c1, c2, c3, c4⟩ := SK.out W hw; go_simp⟩) hS2 ?_
        simp only [Act.put, List.setIfInBounds_toArray, List.set_cons_zero, List.set_cons_succ]
        refine wpAnyH_ready (rs := [7]) (by kernel_rfl) (by simp) (ready_cons (i := 7) rfl (by rfl) (fun K hK => ?_) AllReadyH.nil)
        go_simp
        refine (CR.out V2).mono ?_
        rintro e V3 ⟨rfl, hb3⟩
        go_wp2_with fail
        refine hK.out _ _ (hS2.trans (Below.mono hb3 hS2.size)) (fun hS3 => ?_)
        clear hK K
        try simp only [Act.put, List.setIfInBounds_toArray, List.set_cons_zero, List.set_cons_succ]
        refine wpAnyH_ready (rs := [9]) (by kernel_rfl) (by simp) (ready_cons (i := 9) rfl (by rfl) (fun K hK => ?_) AllReadyH.nil)
        go_simp
        refine (CSH.out V3 hS3).mono ?_
        rintro e V4 ⟨q9, rfl, hq9, hb4⟩
        go_wp2_with fail
        refine hK.out _ _ (hS3.trans (Below.mono hb4 hS3.size)) (fun hS4 => ?_)
        clear hK K
        try simp only [Act.put, List.setIfInBounds_toArray, List.set_cons_zero, List.set_cons_succ]
        refine wpAnyH_ready (rs := [10]) (by kernel_rfl) (by simp) (ready_cons (i := 10) rfl (by rfl) (fun K hK => ?_) AllReadyH.nil)
        go_simp
        refine (CSP.out V4 hS4 _ _ hq9).mono ?_
        rintro e V5 ⟨rfl, hb5⟩
        go_wp2_with fail
        refine hK.out _ _ (hS4.trans (Below.mono hb5 hS4.size)) (fun hS5 => ?_)
        clear hK K
        try simp only [Act.put, List.setIfInBounds_toArray, List.set_cons_zero, List.set_cons_succ]
        refine take_op (i := 11) (v := .bool false) rfl (by kernel_rfl) (by kernel_rfl) (by kernel_rfl) (fun _ _ _ h => h) (Or.inl ⟨by rfl, fun w hw => by go_simp⟩) hS5 ?_
        simp only [Act.put, List.setIfInBounds_toArray, List.set_cons_zero, List.set_cons_succ]
        refine take_op (i := 12) (v := .bool false) rfl (by kernel_rfl) (by kernel_rfl) (by kernel_rfl) (fun _ _ _ h => h) (Or.inl ⟨by rfl, fun w hw => by go_simp⟩) hS5 ?_
        simp only [Act.put, List.setIfInBounds_toArray, List.set_cons_zero, List.set_cons_succ]
        refine take_op (i := 13) (v := .bool false) rfl (by kernel_rfl) (by kernel_rfl) (by kernel_rfl) (fun _ _ _ h => h) (Or.inl ⟨by rfl, fun w hw => by go_simp⟩) hS5 ?_
        simp only [Act.put, List.setIfInBounds_toArray, List.set_cons_zero, List.set_cons_succ]
        refine take_op (i := 14) rfl (by kernel_rfl) (by kernel_rfl) (by kernel_rfl) (fun _ _ _ h => h) (yieldsIf_load_trie (x := .tmp 5) (b := b) (by rfl) rfl rfl HS.out (fun w h => (HT13.out.below h).t)) hS5 ?_
        simp only [Act.put, List.setIfInBounds_toArray, List.set_cons_zero, List.set_cons_succ]
        refine take_op (i := 17) (v := .agg #[.int .i64 (kx : Nat), .int .u64 (gx : Nat), .slice P6 px.length cp6, .slice S6 sx.length cs6, .slice K6 nx.length ck6]) rfl (by kernel_rfl) (by kernel_rfl) (by kernel_rfl) (fun _ _ _ h => h) (Or.inl ⟨by rfl, fun W hw => by obtain ⟨c0, c1, c2, c3, c4⟩ := SK.out W hw; go_simp⟩) hS5 ?_
        simp only [Act.put, List.setIfInBounds_toArray, List.set_cons_zero, List.set_cons_succ]
        refine wpAnyH_ready (rs := [15]) (by kernel_rfl) (by simp) (ready_cons (i := 15) rfl (by rfl) (fun K hK => ?_) AllReadyH.nil)
        go_simp
        refine (CTS.out V5 hS5).mono ?_
        rintro e V6 ⟨q15, rfl, hq15, hb6⟩
        obtain ⟨A15, c15, rfl⟩ := hq15.form
        go_wp2_with fail
        refine hK.out _ _ (hS5.trans (Below.mono hb6 hS5.size)) (fun hS6 => ?_)
        clear hK K
        try simp only [Act.put, List.setIfInBounds_toArray, List.set_cons_zero, List.set_cons_succ]
        refine take_op (i := 16) (v := .int .i64 (SP.length : Nat)) rfl (by kernel_rfl) (by kernel_rfl) (by kernel_rfl) (fun _ _ _ h => h) (Or.inl ⟨by rfl, fun w hw => by go_simp⟩) hS6 ?_
        simp only [Act.put, List.setIfInBounds_toArray, List.set_cons_zero, List.set_cons_succ]
        refine wpAnyH_ready (rs := [18]) (by kernel_rfl) (by simp) (ready_cons (i := 18) rfl (by rfl) (fun K hK => ?_) AllReadyH.nil)
        go_simp
        refine (CSH.out V6 hS6).mono ?_
        rintro e V7 ⟨q18, rfl, hq18, hb7⟩
        obtain ⟨A18, c18, rfl⟩ := hq18.form
        go_wp2_with fail
        refine hK.out _ _ (hS6.trans (Below.mono hb7 hS6.size)) (fun hS7 => ?_)
        clear hK K
        try simp only [Act.put, List.setIfInBounds_toArray, List.set_cons_zero, List.set_cons_succ]
        refine take_op (i := 19) (v := .int .i64 (SP.length : Nat)) rfl (by kernel_rfl) (by kernel_rfl) (by kernel_rfl) (fun _ _ _ h => h) (Or.inl ⟨by rfl, fun w hw => by go_simp⟩) hS7 ?_
        simp only [Act.put, List.setIfInBounds_toArray, List.set_cons_zero, List.set_cons_succ]
        refine take_op (i := 20) (v := .bool false) rfl (by kernel_rfl) (by kernel_rfl) (by kernel_rfl) (fun _ _ _ h => h) (Or.inl ⟨by rfl, fun w hw => by go_simp⟩) hS7 ?_
        simp only [Act.put, List.setIfInBounds_toArray, List.set_cons_zero, List.set_cons_succ]
        refine take_op (i := 21) (v := .bool false) rfl (by kernel_rfl) (by kernel_rfl) (by kernel_rfl) (fun _ _ _ h => h) (Or.inl ⟨by rfl, fun w hw => by go_simp⟩) hS7 ?_
        simp only [Act.put, List.setIfInBounds_toArray, List.set_cons_zero, List.set_cons_succ]
        refine wpAnyH_done (by kernel_rfl) ?_ _
        have HS13 := Lib.hid hS7
        go_wp2_with fail
        exact ⟨⟨j + 1, na2, oa2, M', HLT.out, int_succ HLT.out HL.out, HT13.out.below HS13.out, HM13.out.move goodSp (Moves.below HS13.out), HOK.out.1, Nat.le_trans HOK.out.2 (Nat.succ_le_succ HML.out)⟩, less_succ HLT.out HL.out⟩
      · obtain rfl : j = l.length := by omega
        have HB := Lib.hid hTw.hB
        have CAW := Lib.hid (CA.out wr hTw.hB)
        clear hlt hTw hMv hMk hml H0 CA
        go_wp2_with (go_at_call 8; (with_reducible refine CAW.out.mono ?_); rintro e w2 ⟨rfl, hb2⟩; have HB2 := Lib.hid (HB.out.trans (hb2.mono HB.out.size)))
        go_ret
        exact ⟨rfl, HB2.out⟩
end Go.Proofs.YtadaoceidkagfaaGreatDoor
