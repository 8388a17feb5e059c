/- law21.TrieStays. -/
import Derived.Test.YtadaoceidkagfaaGreatDoorStayT
import Derived.Test.YtadaoceidkagfaaGreatDoorLay21
import Derived.Test.YtadaoceidkagfaaGreatDoorSameA
namespace Go.Proofs.YtadaoceidkagfaaGreatDoor
open Go.RowKit Go.Bw
theorem less_succ' {j n : Nat} (h : j < n) : n - (intOf (.int .i64 ((j + 1 : Nat) : Int))).toNat < n - (intOf (.int .i64 (j : Nat))).toNat := by simp only [intOf]; omega
def TSLoop (s : List UInt8) (l : List Bw.Op) (w : World) (b : Nat) (xv ts ms i : Value) (W : World) : Prop :=
  ∃ j nv o m os mm, j <= l.length /\ i = .int .i64 (j : Nat) /\ SAt w b s xv ts ms m nv o os mm W /\ m.length <= j /\ os.length = j
def TELoop (n : Nat) (wE : World) (i : Value) (W : World) : Prop := ∃ k : Nat, k <= n /\ i = .int .i64 (k : Nat) /\ Below wE.heap.size wE W
set_option maxRecDepth 100000 in
set_option maxHeartbeats 8000000 in
theorem triestays_any {s : List UInt8} {l : List Bw.Op} {v : Value} {w : World} (hs : s.length = 16) (hr : OpsAt AllB w v l) (hT : Tab w) (hSt : Sta w) :
    Calls Tryz.prog 4 #[seedV s, v] w fun e w' => e = .returned (.bool true) /\ Below w.heap.size w w' := by
  obtain ⟨A, c, rfl⟩ := hr.form
  obtain ⟨W0, hW0⟩ : ∃ W0, w.alloc (.cells (seedL s).toArray 23) = W0 := ⟨_, rfl⟩
  have hB0 : Below w.heap.size w W0 := by rw [<- hW0]; exact (Below.refl _ _).alloc (Nat.le_refl _) _
  have hr1 : W0.rangeAt w.heap.size 0 (seedL s) := by rw [<- hW0]; exact seed_in
  have hlt : w.heap.size < W0.heap.size := by rw [<- hW0]; simp
  have CF := Lib.hid (fine11_any 30 (by decide) (hr.move goodOp (Moves.below hB0)))
  have CA := Lib.hid (fun W (hW : Below w.heap.size w W) => awake21_any W (hT.below hT.pos hW) (hSt.below hSt.pos hW))
  have HB0 := Lib.hid hB0
  simp only [seedV_is]
  cases hfine : opsB l 30 with
  | false =>
    rw [hfine] at CF
    clear hr hfine hT hSt hs hB0 hr1 hlt
    go_enter Tryz.func4, Tryz.ntmps4
    go_wp2_with (first
      | (go_at_call 7; (refine CF.out.mono ?_); rintro e w1 ⟨rfl, hb1⟩; have hw1 := HB0.out.trans (hb1.mono HB0.out.size))
      | (go_at_call 8; (with_reducible refine (CA.out _ hw1).mono ?_); rintro e w2 ⟨rfl, hb2⟩))
    go_ret
    exact ⟨rfl, hw1.trans (hb2.mono hw1.size)⟩
  | true =>
    rw [hfine] at CF
    obtain ⟨hl40, hby⟩ := opsB_parts hfine
    have HL40 := Lib.hid hl40
    have HL : Hid (l.length <= 1048576) := Lib.hid (by omega)
    have HBY := Lib.hid hby; have HR := Lib.hid hr; have HTAB := Lib.hid hT; have HSTA := Lib.hid hSt; have HS := Lib.hid hs
    have CN1 := Lib.hid (fun W => tnew_any hs W)
    have HR0 : Hid (∀ W, Below W0.heap.size W0 W -> W.rangeAt w.heap.size 0 (seedL s)) := Lib.hid fun W hW => rng_same (hW.block w.heap.size hlt) hr1
    have HLW := Lib.hid hlt
    obtain ⟨i0, hi, hz0, hz1, hz2⟩ := info_parts infoTr
    have HI := Lib.hid hi; have HZ0 := Lib.hid hz0; have HZ1 := Lib.hid hz1; have HZ2 := Lib.hid hz2
    obtain ⟨iM, mi, mz0, mz1, mz2⟩ := info_parts infoM
    have MI := Lib.hid mi; have MZ0 := Lib.hid mz0; have MZ1 := Lib.hid mz1; have MZ2 := Lib.hid mz2
    clear hr hfine hT hSt hs hl40 hby hB0 hr1 hlt hi hz0 hz1 hz2 mi mz0 mz1 mz2
    go_enter Tryz.func4, Tryz.ntmps4
    go_wp2_with (first
      | (go_at_call 7; (refine CF.out.mono ?_); rintro e w1 ⟨rfl, hb1⟩; have hwA : Below w.heap.size w w1 := HB0.out.trans (hb1.mono HB0.out.size); have hsw : w.heap.size < w1.heap.size := Nat.lt_of_lt_of_le HLW.out hb1.size; have hrw := HR0.out w1 hb1; clear CF)
      | (refine wpl_load_seed (x := .tmp 2) rfl rfl (b := w.heap.size) rfl HS.out hrw ?_; simp only [Act.put, List.setIfInBounds_toArray, List.set_cons_zero, List.set_cons_succ])
      | (go_at_call 9; (with_reducible refine (CN1.out _).mono ?_); rintro e w2 ⟨rfl, hb2⟩; have hth := trie_there w2 #[.int .u8 0, .int .u8 0, .int .u8 0, .int .u8 0, .int .u8 0, .int .u8 0, .int .u8 0, .int .u8 0, .int .u8 0, .int .u8 0, .int .u8 0, .int .u8 0, .int .u8 0, .int .u8 0, .int .u8 0, .int .u8 0, .nilIface] 30 rfl; obtain ⟨WZ, hWZ⟩ : ∃ WZ, (w2.alloc (.cells #[.int .u8 0, .int .u8 0, .int .u8 0, .int .u8 0, .int .u8 0, .int .u8 0, .int .u8 0, .int .u8 0, .int .u8 0, .int .u8 0, .int .u8 0, .int .u8 0, .int .u8 0, .int .u8 0, .int .u8 0, .int .u8 0, .nilIface] 30)).setCells w2.heap.size 0 (trieL s .nilIface) = WZ := ⟨_, rfl⟩)
      | (refine wpl_store_trie (x := .tmp 5) (y := .tmp 17) (s := s) (nv := .nilIface) rfl rfl (b := w2.heap.size) rfl rfl HS.out rfl hth ?_; simp only [hWZ, Act.put]))
    obtain ⟨b, hb⟩ : ∃ b, w2.heap.size = b := ⟨_, rfl⟩
    have hOne : OneAt w b s [] .nilIface none WZ := by
      have hb3 : Below w2.heap.size w2 (w2.alloc (.cells #[.int .u8 0, .int .u8 0, .int .u8 0, .int .u8 0, .int .u8 0, .int .u8 0, .int .u8 0, .int .u8 0, .int .u8 0, .int .u8 0, .int .u8 0, .int .u8 0, .int .u8 0, .int .u8 0, .int .u8 0, .int .u8 0, .nilIface] 30)) := (Below.refl _ _).alloc (Nat.le_refl _) _
      rw [<- hWZ, <- hb]
      exact one_start hwA (Nat.lt_of_lt_of_le hsw hb2.size) hb2.size hth HS.out (rng_same ((hb3.block _ (Nat.lt_of_lt_of_le hsw hb2.size)).trans (hb2.block _ hsw)) hrw) (hb2.trans (hb3.mono hb2.size))
    obtain ⟨WA, rfl⟩ : ∃ WA, WA = WZ := ⟨_, rfl⟩
    rw [hb]
    have H0 : Hid (TSLoop s l w b (.slice none 0 0) (.slice none 0 0) (.slice none 0 0) (.int .i64 0) WA) := Lib.hid ⟨0, .nilIface, none, [], [], [], Nat.zero_le _, rfl,
      { lb := hOne.lb, t := hOne.t, n := rfl, y := rfl, x := RowAt.nil, mo := mapOk_nil, sd := hOne.sd, own1 := OwnAt.nil, own2 := OwnAt.nil, ll := rfl, ok := fun k o' m' h _ => by simp at h, hB := hOne.hB }, Nat.zero_le _, rfl⟩
    clear hOne hwA CN1 HLW hb1 HR0 HB0 hW0 hsw hrw hth hWZ hb2 hb
    go_wp2_with fail
    go_loopw [6, 7, 8, 20] (TSLoop s l w b) (fun _ _ _ i _ => l.length - (intOf i).toNat)
    case atStart => exact H0.out
    case round =>
      obtain ⟨j, nv, o, m, os, mm, hk, rfl, hTw, hml, hol⟩ := hrel
      by_cases hlt : j < l.length
      · obtain ⟨bb, off, u1, u2, rfl, hob, c0, c1, c2, hu, hv⟩ := op_get HR.out (List.getElem?_eq_getElem hlt)
        obtain ⟨U1, cu1, rfl⟩ := hu.form
        obtain ⟨U2, cu2, rfl⟩ := hv.form
        have hB := hTw.hB
        have hbl := World.block_lt_of_cell? w _ c0
        dsimp only at hbl
        have d0 := (hB.cell (p := ⟨bb, off + j * 3, none⟩) hbl).trans c0
        have d1 := (hB.cell (p := ⟨bb, off + j * 3 + 1, none⟩) hbl).trans c1
        have d2 := (hB.cell (p := ⟨bb, off + j * 3 + 2, none⟩) hbl).trans c2
        have hbl2 : bb < wr.heap.size := Nat.lt_of_lt_of_le hbl hB.size
        have h0 : (0 : Int) <= (j : Int) := by omega
        have h1 : (j : Int) < (l.length : Int) := by omega
        have hq := HBY.out l[j] (List.getElem_mem hlt)
        generalize l[j] = q at *
        obtain ⟨kd, qx, qy⟩ := q
        dsimp only at *
        obtain ⟨X, cx, rfl⟩ := hTw.x.form
        have hlm := hTw.ll
        obtain ⟨AT, ct, hts⟩ := (hTw.own1.row (goodTrie HS.out)).form
        obtain ⟨AM, cm, hms⟩ := (hTw.own2.row goodMap).form
        rw [hol] at hts
        rw [<- hlm, hol] at hms
        subst hts; subst hms
        have hq' : qx.length <= 1048576 /\ qy.length <= 1048576 := ⟨Nat.le_trans hq.1 (by decide), Nat.le_trans hq.2 (by decide)⟩
        obtain ⟨W1, hW1⟩ : ∃ W1, wr.alloc (.cells #[.int .i64 kd, .slice U1 qx.length cu1, .slice U2 qy.length cu2] 35) = W1 := ⟨_, rfl⟩
        have hb1 : Below wr.heap.size wr W1 := by rw [<- hW1]; exact (Below.refl _ _).alloc (Nat.le_refl _) _
        have hox : W1.heap[wr.heap.size]? = some (.cells #[.int .i64 kd, .slice U1 qx.length cu1, .slice U2 qy.length cu2] 35 (0, 0)) := by rw [<- hW1]; exact heap_alloc_new wr _
        have hT1 := hTw.below HS.out hb1
        have SO : Hid (W1.cell? ⟨wr.heap.size, 0, none⟩ = some (.int .i64 kd) /\ W1.cell? ⟨wr.heap.size, 1, none⟩ = some (.slice U1 qx.length cu1) /\ W1.cell? ⟨wr.heap.size, 2, none⟩ = some (.slice U2 qy.length cu2)) := Lib.hid
          ⟨(cell_of_row W1 wr.heap.size 0 _ _ (0, 0) hox).trans rfl, (cell_of_row W1 wr.heap.size 1 _ _ (0, 0) hox).trans rfl, (cell_of_row W1 wr.heap.size 2 _ _ (0, 0) hox).trans rfl⟩
        have CS1 := Lib.hid (step_any (hT1.ins (q := (qx, qy)) HS.out hu hv hq' HTAB.out HSTA.out) kd)
        have HOK := Lib.hid (stepM_ok (e := (kd, (qx, qy))) hTw.mo (by have := HL40.out; omega) hq'.1 hq'.2)
        have HLT := Lib.hid hlt; have HML := Lib.hid hml; have HT1 := Lib.hid hT1; have HOL := Lib.hid hol
        obtain ⟨M', hM'⟩ : ∃ M', stepM m (kd, (qx, qy)) = M' := ⟨_, rfl⟩
        simp only [hM'] at CS1 HOK
        clear hu hv c0 c1 c2 hTw hml hq hq' H0 hlt hb1 hox hT1 hB hM' hlm hol
        obtain ⟨y0, y1, y2⟩ := SO.out
        go_wp2_with (first
          | (refine wpl_load_trie (x := .tmp 5) rfl rfl (b := b) rfl HS.out HT1.out.t ?_; simp only [Act.put, List.setIfInBounds_toArray, List.set_cons_zero, List.set_cons_succ])
          | (go_at_call 10; (with_reducible refine CS1.out.mono ?_); rintro e w2 ⟨na2, oa2, xv2, cva, cca, rfl, hn2, hl2, hx2, _, _, _, ht2⟩; have hb2 := ht2.below; have hT2 := HT1.out.below HS.out hb2; have hone2 := one_node hn2; obtain ⟨WX, hWX⟩ : ∃ WX, w2.setCells b 0 (trieL s na2) = WX := ⟨_, rfl⟩; have hTX := hT2.set HS.out hn2 hl2 hx2 HOK.out.1; rw [hWX] at hTX; obtain ⟨X2, cx2, rfl⟩ := hx2.form; have HTX := Lib.hid hTX; have HT2 := Lib.hid hT2; have HWX := Lib.hid hWX; clear hn2 hl2 hx2 ht2 hb2 hT2 hTX hWX)
          | (refine wpl_store_trie (x := .tmp 5) (y := .tmp 29) (s := s) (nv := na2) rfl rfl (b := b) rfl rfl HS.out hone2 HT2.out.t.there ?_; simp only [HWX.out, Act.put])
          | (refine wpl_load_trie (x := .tmp 5) rfl rfl (b := b) rfl HS.out HTX.out.t ?_; simp only [Act.put, List.setIfInBounds_toArray, List.set_cons_zero, List.set_cons_succ])
          | (refine wpl_build_trie (x := .tmp 33) (s := s) (nv := na2) rfl rfl rfl HS.out ?_; simp only [Act.put, List.setIfInBounds_toArray, List.set_cons_zero, List.set_cons_succ])
          | (at_builtin; first
              | (refine wp_app1 (goodTrie HS.out) rfl (.tmp 32) (.tmp 34) 43 rfl (w.heap.size + 1) 30 i0 _ 32 Tryz.underlying43 HI.out HZ0.out HZ1.out HZ2.out rfl (by decide) (.slice AT j ct) os rfl HTX.out.own1 oa2 (trieL s na2).toArray 30 (by rfl) HTX.out.new1 (fun k hk => ⟨(HTX.out.okc k hk).1, (HTX.out.okc k hk).2.2⟩) (by have := HOL.out; have := HLT.out; have := HL.out; omega) (by decide) (by have := HTX.out.lb; have := HTX.out.t.lt; omega) ?_; intro v8 w8 hown8 hb8 hat8 hg8)
              | (refine wp_app1 goodMap rfl (.tmp 36) (.tmp 38) 44 rfl (w.heap.size + 1) 32 iM _ 24 Tryz.underlying44 MI.out MZ0.out MZ1.out MZ2.out rfl (by decide) (.slice AM j cm) mm rfl (HTX.out.rows hg8 hat8) M' #[.slice X2 M'.length cx2] 32 (by go_simp) ⟨_, rfl, HTX.out.new2 hg8 hat8⟩ (fun k hk => ⟨by have := HTX.out.t.lt; have := hg8.size; show ¬ k = b; omega, fun e => by have := (hown8.lt k e).2; omega⟩) (by rw [<- HTX.out.ll]; have := HOL.out; have := HLT.out; have := HL.out; omega) (by decide) (by have := HTX.out.lb; have := HTX.out.t.lt; have := hg8.size; omega) ?_; intro v9 w9 hown9 hb9 hat9 hg9)))
        have hN := HTX.out.next HS.out (by have := HOK.out.2; have := HML.out; have := HLT.out; have := HL40.out; omega) hown8 hg8 hat8 hown9 hg9 hat9 ((HTX.out.hB.trans (hb8.mono (Nat.le_succ _))).trans (hb9.mono (Nat.le_succ _)))
        rw [int_succ HLT.out HL.out]
        exact ⟨⟨j + 1, na2, oa2, M', _, _, HLT.out, rfl, hN, Nat.le_trans HOK.out.2 (Nat.succ_le_succ HML.out), by rw [List.length_append, HOL.out]; rfl⟩, less_succ' HLT.out⟩
      · obtain rfl : j = l.length := by omega
        have hrt := (hTw.own1.row (goodTrie HS.out)).move (ok' := AllB) (goodTrie HS.out) (Moves.weaken fun _ _ _ => trivial)
        have hrm := (hTw.own2.row goodMap).move (ok' := AllB) goodMap (Moves.weaken fun _ _ _ => trivial)
        obtain ⟨AT, ct, rfl⟩ := hrt.form
        obtain ⟨AMM, cm, rfl⟩ := hrm.form
        obtain ⟨wE, rfl⟩ : ∃ wE, wE = wr := ⟨_, rfl⟩
        have HRT := Lib.hid hrt; have HRM := Lib.hid hrm; have HTW := Lib.hid hTw
        have HN : Hid (os.length <= 1048576) := Lib.hid (by have := HL.out; omega)
        have H3 : Hid (TELoop os.length wE (.int .i64 0) wE) := Lib.hid ⟨0, Nat.zero_le _, rfl, Below.refl _ _⟩
        clear hlt hk hml hTw hrt hrm hol H0
        go_wp2_with fail
        go_loopw [43] (TELoop os.length wE) (fun i _ => os.length - (intOf i).toNat)
        case atStart => exact H3.out
        case round =>
          obtain ⟨k, hk, rfl, hB⟩ := hrel
          by_cases hlt : k < os.length
          · have hltm : k < mm.length := by rw [<- HTW.out.ll]; exact hlt
            obtain ⟨bt, ot, cs1, rfl, ⟨nv', rfl, hnv⟩, hc1⟩ := HRT.out.get (List.getElem?_eq_getElem hlt)
            obtain ⟨bm, om, cs2, rfl, ⟨mv, rfl, hmv⟩, hc2⟩ := HRM.out.get (List.getElem?_eq_getElem hltm)
            obtain ⟨hLy, hMo, hM40⟩ := HTW.out.ok k _ _ (List.getElem?_eq_getElem hlt) (List.getElem?_eq_getElem hltm)
            have h0 : (0 : Int) <= (k : Int) := by omega
            have h1 : (k : Int) < (os.length : Int) := by omega
            have h2 : (k : Int) < (mm.length : Int) := by omega
            generalize os[k] = o' at *
            generalize mm[k] = m' at *
            obtain ⟨AM, cmm, rfl⟩ := hmv.form
            have hrg : wE.rangeAt bt (ot + k * 17) (trieL s nv') := fun i u hu => by
              have := (hc1 i u hu).2
              rwa [<- Nat.add_assoc] at this
            have c1 := (hc2 0 _ rfl).2
            simp only [Nat.mul_one, Nat.add_zero] at c1
            have hbm := World.block_lt_of_cell? wE _ c1
            dsimp only at hbm
            have hbt : bt < wE.heap.size := World.block_lt_of_cell? wE ⟨bt, ot + k * 17 + 0, none⟩ (hrg 0 _ (by rw [List.getElem?_eq_getElem (show 0 < (trieL s nv').length by rw [trieL_length HS.out]; decide)]))
            have SK : Hid (∀ W, Below wE.heap.size wE W -> W.rangeAt bt (ot + k * 17) (trieL s nv') /\ W.cell? ⟨bm, om + k, none⟩ = some (.slice AM m'.length cmm) /\ W.rangeAt w.heap.size 0 (seedL s)) := Lib.hid fun W hW =>
              ⟨fun i u hu => (World.cell?_of_block (hW.block bt hbt)).trans (hrg i u hu), (hW.cell (p := ⟨bm, om + k, none⟩) hbm).trans c1, rng_same (hW.block _ (Nat.lt_trans HTW.out.lb HTW.out.t.lt)) HTW.out.sd⟩
            have hl1 : m'.length <= 1048576 := by omega
            have HMX := Lib.hid (fun (W : World) (hW : Below wE.heap.size wE W) => hmv.move (ok' := AllB) goodSp (Moves.below hW))
            have HNX := Lib.hid (fun (W : World) (hW : Below wE.heap.size wE W) => hnv.move (ok' := AllB) (Moves.below hW))
            have CP := Lib.hid (fun (W : World) (hW : Below wE.heap.size wE W) => tpairs_any HS.out hMo hl1 (HNX.out W hW) hLy)
            have CIS := Lib.hid (fun (W : World) (q : Value) (ok : Nat -> Prop) (hq : PairsAt ok W q m') (hW : Below wE.heap.size wE W) => (ris_any (w := W) hl1 hq (HMX.out W hW)).mono (R' := fun e w' => e = .returned (.bool true) /\ Below W.heap.size W w') (fun e w' ⟨he, n, hn⟩ => ⟨by rw [he]; simp, by rw [hn]; exact b_drewN (Below.refl _ _) n⟩))
            have CR := Lib.hid (fun W => troot_any (nv := nv') HS.out W)
            have CLY := fun (W : World) (hW : Below wE.heap.size wE W) => rlay21_any (w := W) HS.out hMo hl1 (HMX.out W hW)
            rw [ents_abs (fun k => Bw.sipHash_lt s k) hMo hLy] at CLY
            have CLY := Lib.hid CLY
            have CSM := Lib.hid (fun (W : World) (hW : Below wE.heap.size wE W) (ok : Nat -> Prop) (cs : List Value) (hx : xK ok W (Bw.absO o') cs) => sameO_any (o := o') (HNX.out W hW) (XAt.move (ok' := AllB) (Moves.weaken fun _ _ _ => trivial) _ _ hx) (ents_fit hMo hLy))
            have HLT := Lib.hid hlt
            have HB := Lib.hid hB
            have hS0 : Below wE.heap.size wE wr.drew := hB.drew
            obtain ⟨z0, z1, _⟩ := SK.out wr hB
            clear hnv hmv hc1 hc2 hrg hbm hbt hLy hMo hM40 hl1 hltm hlt hk hB c1 H3
            go_wp2_with fail
            refine wp_region_held_drew (S := fun W => Below wE.heap.size wE W) (by kernel_rfl) hS0 (fun _ => ?_)
            generalize wr.drew = V0 at *
            refine take_op (i := 0) (v := .slice (some ⟨bt, ot, none⟩) os.length ct) rfl (by kernel_rfl) (by kernel_rfl) (by kernel_rfl) (fun _ _ _ h => h) (Or.inl ⟨by rfl, fun w hw => by go_simp⟩) hS0 ?_
            simp only [Act.put, List.setIfInBounds_toArray, List.set_cons_zero, List.set_cons_succ]
            refine take_op (i := 1) (v := .int .i64 (k : Nat)) rfl (by kernel_rfl) (by kernel_rfl) (by kernel_rfl) (fun _ _ _ h => h) (Or.inl ⟨by rfl, fun w hw => by go_simp⟩) hS0 ?_
            simp only [Act.put, List.setIfInBounds_toArray, List.set_cons_zero, List.set_cons_succ]
            refine take_op (i := 2) (v := .pointer (some ⟨bt, ot + k * 17, none⟩)) rfl (by kernel_rfl) (by kernel_rfl) (by kernel_rfl) (fun _ _ _ h => h) (Or.inl ⟨by rfl, fun w hw => by go_simp⟩) hS0 ?_
            simp only [Act.put, List.setIfInBounds_toArray, List.set_cons_zero, List.set_cons_succ]
            refine take_op (i := 3) rfl (by kernel_rfl) (by kernel_rfl) (by kernel_rfl) (fun _ _ _ h => h) (yieldsIf_load_trieo (x := .tmp 48) (b := bt) (o := ot + k * 17) (by rfl) rfl rfl HS.out (fun w h => (SK.out w h).1)) hS0 ?_
            simp only [Act.put, List.setIfInBounds_toArray, List.set_cons_zero, List.set_cons_succ]
            refine take_op (i := 5) (v := .slice (some ⟨bm, om, none⟩) mm.length cm) rfl (by kernel_rfl) (by kernel_rfl) (by kernel_rfl) (fun _ _ _ h => h) (Or.inl ⟨by rfl, fun w hw => by go_simp⟩) hS0 ?_
            simp only [Act.put, List.setIfInBounds_toArray, List.set_cons_zero, List.set_cons_succ]
            refine take_op (i := 6) (v := .int .i64 (k : Nat)) rfl (by kernel_rfl) (by kernel_rfl) (by kernel_rfl) (fun _ _ _ h => h) (Or.inl ⟨by rfl, fun w hw => by go_simp⟩) hS0 ?_
            simp only [Act.put, List.setIfInBounds_toArray, List.set_cons_zero, List.set_cons_succ]
            refine take_op (i := 7) (v := .pointer (some ⟨bm, om + k, none⟩)) rfl (by kernel_rfl) (by kernel_rfl) (by kernel_rfl) (fun _ _ _ h => h) (Or.inl ⟨by rfl, fun w hw => by go_simp⟩) hS0 ?_
            simp only [Act.put, List.setIfInBounds_toArray, List.set_cons_zero, List.set_cons_succ]
            refine take_op (i := 8) (v := .slice AM m'.length cmm) rfl (by kernel_rfl) (by kernel_rfl) (by kernel_rfl) (fun _ _ _ h => h) (Or.inl ⟨by rfl, fun W hw => by have c := (SK.out W hw).2.1; go_simp⟩) hS0 ?_
            simp only [Act.put, List.setIfInBounds_toArray, List.set_cons_zero, List.set_cons_succ]
            refine wpAnyH_ready (rs := [4]) (by kernel_rfl) (by simp) (ready_cons (i := 4) rfl (by rfl) (fun K hK => ?_) AllReadyH.nil)
            go_simp
            refine (CP.out V0 hS0).mono ?_
            rintro e V1 ⟨q3, rfl, hq3, hb1⟩
            go_wp2_with fail
            refine hK.out _ _ (hS0.trans (Below.mono hb1 hS0.size)) (fun hS1 => ?_)
            clear hK K
            try simp only [Act.put, List.setIfInBounds_toArray, List.set_cons_zero, List.set_cons_succ]
            refine wpAnyH_ready (rs := [9]) (by kernel_rfl) (by simp) (ready_cons (i := 9) rfl (by rfl) (fun K hK => ?_) AllReadyH.nil)
            go_simp
            refine (CIS.out V1 _ _ hq3 hS1).mono ?_
            rintro e V2 ⟨rfl, hb2⟩
            go_wp2_with fail
            refine hK.out _ _ (hS1.trans (Below.mono hb2 hS1.size)) (fun hS2 => ?_)
            clear hK K
            try simp only [Act.put, List.setIfInBounds_toArray, List.set_cons_zero, List.set_cons_succ]
            refine take_op (i := 10) (v := .bool false) rfl (by kernel_rfl) (by kernel_rfl) (by kernel_rfl) (fun _ _ _ h => h) (Or.inl ⟨by rfl, fun w hw => by go_simp⟩) hS2 ?_
            simp only [Act.put, List.setIfInBounds_toArray, List.set_cons_zero, List.set_cons_succ]
            refine take_op (i := 11) (v := .bool false) rfl (by kernel_rfl) (by kernel_rfl) (by kernel_rfl) (fun _ _ _ h => h) (Or.inl ⟨by rfl, fun w hw => by go_simp⟩) hS2 ?_
            simp only [Act.put, List.setIfInBounds_toArray, List.set_cons_zero, List.set_cons_succ]
            refine take_op (i := 12) (v := .slice (some ⟨bt, ot, none⟩) os.length ct) rfl (by kernel_rfl) (by kernel_rfl) (by kernel_rfl) (fun _ _ _ h => h) (Or.inl ⟨by rfl, fun w hw => by go_simp⟩) hS2 ?_
            simp only [Act.put, List.setIfInBounds_toArray, List.set_cons_zero, List.set_cons_succ]
            refine take_op (i := 13) (v := .int .i64 (k : Nat)) rfl (by kernel_rfl) (by kernel_rfl) (by kernel_rfl) (fun _ _ _ h => h) (Or.inl ⟨by rfl, fun w hw => by go_simp⟩) hS2 ?_
            simp only [Act.put, List.setIfInBounds_toArray, List.set_cons_zero, List.set_cons_succ]
            refine take_op (i := 14) (v := .pointer (some ⟨bt, ot + k * 17, none⟩)) rfl (by kernel_rfl) (by kernel_rfl) (by kernel_rfl) (fun _ _ _ h => h) (Or.inl ⟨by rfl, fun w hw => by go_simp⟩) hS2 ?_
            simp only [Act.put, List.setIfInBounds_toArray, List.set_cons_zero, List.set_cons_succ]
            refine take_op (i := 15) rfl (by kernel_rfl) (by kernel_rfl) (by kernel_rfl) (fun _ _ _ h => h) (yieldsIf_load_trieo (x := .tmp 60) (b := bt) (o := ot + k * 17) (by rfl) rfl rfl HS.out (fun w h => (SK.out w h).1)) hS2 ?_
            simp only [Act.put, List.setIfInBounds_toArray, List.set_cons_zero, List.set_cons_succ]
            refine take_op (i := 17) rfl (by kernel_rfl) (by kernel_rfl) (by kernel_rfl) (fun _ _ _ h => h) (yieldsIf_load_seed (x := .tmp 2) (b := w.heap.size) (by rfl) rfl rfl HS.out (fun w h => (SK.out w h).2.2)) hS2 ?_
            simp only [Act.put, List.setIfInBounds_toArray, List.set_cons_zero, List.set_cons_succ]
            refine take_op (i := 18) (v := .slice (some ⟨bm, om, none⟩) mm.length cm) rfl (by kernel_rfl) (by kernel_rfl) (by kernel_rfl) (fun _ _ _ h => h) (Or.inl ⟨by rfl, fun w hw => by go_simp⟩) hS2 ?_
            simp only [Act.put, List.setIfInBounds_toArray, List.set_cons_zero, List.set_cons_succ]
            refine take_op (i := 19) (v := .int .i64 (k : Nat)) rfl (by kernel_rfl) (by kernel_rfl) (by kernel_rfl) (fun _ _ _ h => h) (Or.inl ⟨by rfl, fun w hw => by go_simp⟩) hS2 ?_
            simp only [Act.put, List.setIfInBounds_toArray, List.set_cons_zero, List.set_cons_succ]
            refine take_op (i := 20) (v := .pointer (some ⟨bm, om + k, none⟩)) rfl (by kernel_rfl) (by kernel_rfl) (by kernel_rfl) (fun _ _ _ h => h) (Or.inl ⟨by rfl, fun w hw => by go_simp⟩) hS2 ?_
            simp only [Act.put, List.setIfInBounds_toArray, List.set_cons_zero, List.set_cons_succ]
            refine take_op (i := 21) (v := .slice AM m'.length cmm) rfl (by kernel_rfl) (by kernel_rfl) (by kernel_rfl) (fun _ _ _ h => h) (Or.inl ⟨by rfl, fun W hw => by have c := (SK.out W hw).2.1; go_simp⟩) hS2 ?_
            simp only [Act.put, List.setIfInBounds_toArray, List.set_cons_zero, List.set_cons_succ]
            refine wpAnyH_ready (rs := [16]) (by kernel_rfl) (by simp) (ready_cons (i := 16) rfl (by rfl) (fun K hK => ?_) AllReadyH.nil)
            go_simp
            refine (CR.out V2).mono ?_
            rintro e V3 ⟨rfl, hb3⟩
            go_wp2_with fail
            refine hK.out _ _ (hS2.trans (Below.mono hb3 hS2.size)) (fun hS3 => ?_)
            clear hK K
            try simp only [Act.put, List.setIfInBounds_toArray, List.set_cons_zero, List.set_cons_succ]
            refine wpAnyH_ready (rs := [22]) (by kernel_rfl) (by simp) (ready_cons (i := 22) rfl (by rfl) (fun K hK => ?_) AllReadyH.nil)
            go_simp
            refine (CLY.out V3 hS3).mono ?_
            rintro e V4 ⟨q5, rfl, ⟨cs5, rfl, hx5⟩, hb4⟩
            go_wp2_with fail
            refine hK.out _ _ (hS3.trans (Below.mono hb4 hS3.size)) (fun hS4 => ?_)
            clear hK K
            try simp only [Act.put, List.setIfInBounds_toArray, List.set_cons_zero, List.set_cons_succ]
            refine wpAnyH_ready (rs := [23]) (by kernel_rfl) (by simp) (ready_cons (i := 23) rfl (by rfl) (fun K hK => ?_) AllReadyH.nil)
            go_simp
            refine (CSM.out V4 hS4 _ _ (XAt.move (ok' := AllB) (Moves.weaken fun _ _ _ => trivial) _ _ hx5)).mono ?_
            rintro e V5 ⟨rfl, hb5⟩
            go_wp2_with fail
            refine hK.out _ _ (hS4.trans (Below.mono hb5 hS4.size)) (fun hS5 => ?_)
            clear hK K
            try simp only [Act.put, List.setIfInBounds_toArray, List.set_cons_zero, List.set_cons_succ]
            refine take_op (i := 24) (v := .bool false) rfl (by kernel_rfl) (by kernel_rfl) (by kernel_rfl) (fun _ _ _ h => h) (Or.inl ⟨by rfl, fun w hw => by go_simp⟩) hS5 ?_
            simp only [Act.put, List.setIfInBounds_toArray, List.set_cons_zero, List.set_cons_succ]
            refine take_op (i := 25) (v := .bool false) rfl (by kernel_rfl) (by kernel_rfl) (by kernel_rfl) (fun _ _ _ h => h) (Or.inl ⟨by rfl, fun w hw => by go_simp⟩) hS5 ?_
            simp only [Act.put, List.setIfInBounds_toArray, List.set_cons_zero, List.set_cons_succ]
            refine wpAnyH_done (by kernel_rfl) ?_ _
            have HS16 := Lib.hid hS5
            go_wp2_with fail
            exact ⟨⟨k + 1, HLT.out, int_succ HLT.out HN.out, HS16.out⟩, less_succ HLT.out HN.out⟩
          · obtain rfl : k = os.length := by omega
            have HB := Lib.hid (HTW.out.hB.trans (hB.mono HTW.out.hB.size))
            have CAW := Lib.hid (CA.out wr HB.out)
            clear hlt hk hB H3 CA
            go_wp2_with (go_at_call 8; (with_reducible refine CAW.out.mono ?_); rintro e w2 ⟨rfl, hb2⟩; have HB2 := Lib.hid (HB.out.trans (hb2.mono HB.out.size)))
            go_ret
            exact ⟨rfl, HB2.out⟩
end Go.Proofs.YtadaoceidkagfaaGreatDoor
