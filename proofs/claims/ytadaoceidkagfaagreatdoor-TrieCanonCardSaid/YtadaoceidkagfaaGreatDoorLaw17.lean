/- law21.TrieCanon. -/
import Derived.Test.YtadaoceidkagfaaGreatDoorTwo
import Derived.Test.YtadaoceidkagfaaGreatDoorBwCanon
import Derived.Test.YtadaoceidkagfaaGreatDoorLSameA
import Derived.Test.YtadaoceidkagfaaGreatDoorEntS
namespace Go.Proofs.YtadaoceidkagfaaGreatDoor
open Go.RowKit Go.Bw
theorem wp_unconv {op : Oper} {a : Act} {w : World} {K : Act → World → Prop} {Q : Exit → Act → World → Prop} {x : Operand} {l : Bw.Bytes} (ho : op.op = .convert 9 33 x) (hx : a.eval x = .string ⟨l.toArray⟩) (hl : l.length ≤ maxLen)
    (h : ∀ v' w', BytesAt (fun k => w.heap.size ≤ k) w' v' l → Below w.heap.size w w' → K (a.put op.dst v') w') : op.wp Tryz.prog a w K Q := by
  obtain ⟨v', w', h1, h2, h3⟩ := run_unconv w l hl
  unfold Oper.wp execOp
  simp only [ho, hx, Sem.run_bind, h1, Result.andThen_ok, Sem.run_pure]
  exact h v' w' h2 h3
theorem wpl_unconv {ops : Array Oper} {rest : List Oper} {op : Oper} {a : Act} {w : World} {Q : Exit → Act → World → Prop} {x : Operand} {l : Bw.Bytes} (hgd : op.guard = none) (ho : op.op = .convert 9 33 x) (hx : a.eval x = .string ⟨l.toArray⟩) (hl : l.length ≤ maxLen)
    (h : ∀ v' w', BytesAt (fun k => w.heap.size ≤ k) w' v' l → Below w.heap.size w w' → wpList Tryz.prog ops Q rest (a.put op.dst v') w') : wpList Tryz.prog ops Q (op :: rest) a w :=
  wpList_plain hgd fun _ hK => wp_unconv ho hx hl fun v' w' h1 h2 => hK _ _ (h v' w' h1 h2)
theorem wpl_load1_trie {op : Oper} {a : Act} {w : World} {K : Act → World → Prop} {Q : Exit → Act → World → Prop} {s : List UInt8} {nv : Value} {x : Operand} {b : Nat} (ho : op.op = .load 30 x) (hx : a.eval x = .pointer (some ⟨b, 0, none⟩)) (hs : s.length = 16) (hc : TrieIn w b s nv)
    (h : K (a.put op.dst (trieV s nv)) w) : op.wp Tryz.prog a w K Q :=
  wp_load_mid (P := Tryz.prog) 30 x ho b 0 hx (trieL s nv) _ hc.rng Tryz.underlying30 rfl (trie_size.trans (congrArg some (trieL_length hs nv).symm)) h
/-- the second one is a map's of no pairs at first: said so of a map of no more pairs than calls -/
theorem TwoAt.flat2 {w W : World} {b1 b2 j : Nat} {s : List UInt8} {x : List Bw.PV} {na nb : Value} {oa ob : Option Bw.N} (h : TwoAt w b1 b2 s s x [] na nb oa ob W) (_ : x.length ≤ j) (_ : MapOk x) : TwoAt w b1 b2 s s x [] na nb oa ob W := h
/-- between two rounds of the first loop -/
def CLoop1 (s : List UInt8) (l : List Bw.Op) (w : World) (b1 b2 : Nat) (xv i : Value) (W : World) : Prop :=
  ∃ j na nb oa ob x, j ≤ l.length ∧ i = .int .i64 (j : Nat) ∧ TwoAt w b1 b2 s s x [] na nb oa ob W ∧ SPairsAt (Not2 b1 b2) W xv x ∧ MapOk x ∧ x.length ≤ j
/-- of the second one -/
def CLoop2 (s : List UInt8) (k : List Bw.Op) (w : World) (b1 b2 : Nat) (x : List Bw.PV) (xv yv i : Value) (W : World) : Prop :=
  ∃ j na nb oa ob y, j ≤ k.length ∧ i = .int .i64 (j : Nat) ∧ TwoAt w b1 b2 s s x y na nb oa ob W ∧ SPairsAt (Not2 b1 b2) W yv y ∧ MapOk y ∧ y.length ≤ j ∧ SPairsAt (Not2 b1 b2) W xv x
/-- of the third one -/
def CLoop3 (s : List UInt8) (w : World) (b1 b2 : Nat) (x y : List Bw.PV) (xv yv i : Value) (W : World) : Prop :=
  ∃ j na nb oa ob M, j ≤ y.length ∧ i = .int .i64 (j : Nat) ∧ TwoAt w b1 b2 s s x M na nb oa ob W ∧ SPairsAt (Not2 b1 b2) W yv y ∧ MapOk M ∧ Bw.Cut1 x y M j ∧ M.length ≤ 40 ∧ SPairsAt (Not2 b1 b2) W xv x
/-- of the fourth one -/
def CLoop4 (s : List UInt8) (w : World) (b1 b2 : Nat) (x : List Bw.PV) (xv i : Value) (W : World) : Prop :=
  ∃ j na nb oa ob M, j ≤ x.length ∧ i = .int .i64 ((j : Int) - 1) ∧ TwoAt w b1 b2 s s x M na nb oa ob W ∧ MapOk M ∧ Bw.Put1 x M j ∧ M.length + j ≤ 80 ∧ SPairsAt (Not2 b1 b2) W xv x
set_option maxRecDepth 100000 in
set_option maxHeartbeats 8000000 in
theorem triecanon_any {s : List UInt8} {l k : List Bw.Op} {v kv : Value} {w : World} (hs : s.length = 16) (hr : OpsAt AllB w v l) (hrk : OpsAt AllB w kv k) (hT : Tab w) (hSt : Sta w) :
    Calls Tryz.prog 5 #[seedV s, v, kv] w fun e w' => e = .returned (.bool true) ∧ Below w.heap.size w w' := by
  obtain ⟨A, c, rfl⟩ := hr.form
  obtain ⟨AK, cK, rfl⟩ := hrk.form
  obtain ⟨W0, hW0⟩ : ∃ W0, w.alloc (.cells (seedL s).toArray 23) = W0 := ⟨_, rfl⟩
  have hB0 : Below w.heap.size w W0 := by rw [← hW0]; exact (Below.refl _ _).alloc (Nat.le_refl _) _
  have hr1 : W0.rangeAt w.heap.size 0 (seedL s) := by rw [← hW0]; exact seed_in
  have hlt : w.heap.size < W0.heap.size := by rw [← hW0]; simp
  have CF := Lib.hid (fine11_any 40 (by decide) (hr.move goodOp (Moves.below hB0)))
  have CFK := Lib.hid (fun W (hW : Below w.heap.size w W) => fine11_any 40 (by decide) (hrk.move goodOp (Moves.below hW)))
  have CA := Lib.hid (fun W (hW : Below w.heap.size w W) => awake21_any W (hT.below hT.pos hW) (hSt.below hSt.pos hW))
  have HB0 := Lib.hid hB0
  simp only [seedV_is]
  cases hfine : opsB l 40 with
  | false =>
    rw [hfine] at CF
    clear hr hrk hfine hT hSt hs hB0 hr1 hlt CFK
    go_enter Tryz.func5, Tryz.ntmps5
    go_wp2_with (first
      | (go_at_call 7; (refine CF.out.mono ?_); rintro e w1 ⟨rfl, hb1⟩; have hw1 := HB0.out.trans (hb1.mono HB0.out.size))
      | (go_at_call 8; (with_reducible refine (CA.out _ hw1).mono ?_); rintro e w2 ⟨rfl, hb2⟩))
    go_ret
    exact ⟨rfl, hw1.trans (hb2.mono hw1.size)⟩
  | true =>
    rw [hfine] at CF
    cases hfk : opsB k 40 with
    | false =>
      rw [hfk] at CFK
      clear hr hrk hfine hfk hT hSt hs hB0 hr1 hlt
      go_enter Tryz.func5, Tryz.ntmps5
      go_wp2_with (first
        | (go_at_call 7; (refine CF.out.mono ?_); rintro e w1 ⟨rfl, hb1⟩; have hw1 := HB0.out.trans (hb1.mono HB0.out.size); clear CF)
        | (go_at_call 7; (refine (CFK.out _ hw1).mono ?_); rintro e w3 ⟨rfl, hb3⟩; have hw3 := hw1.trans (hb3.mono hw1.size))
        | (go_at_call 8; (with_reducible refine (CA.out _ hw3).mono ?_); rintro e w2 ⟨rfl, hb2⟩))
      go_ret
      exact ⟨rfl, hw3.trans (hb2.mono hw3.size)⟩
    | true =>
    rw [hfk] at CFK
    obtain ⟨hl40, hby⟩ := opsB_parts hfine
    obtain ⟨hk40, hbk⟩ := opsB_parts hfk
    have HL401 := Lib.hid hl40; have HL402 := Lib.hid hk40
    have HL1 : Hid (l.length ≤ 1048576) := Lib.hid (by omega)
    have HL2 : Hid (k.length ≤ 1048576) := Lib.hid (by omega)
    have HBY1 := Lib.hid hby; have HBY2 := Lib.hid hbk; have HR1 := Lib.hid hr; have HR2 := Lib.hid hrk; have HTAB := Lib.hid hT; have HSTA := Lib.hid hSt; have HS := Lib.hid hs
    have CN1 := Lib.hid (fun W => tnew_any hs W)
    have HR0 : Hid (∀ W, Below W0.heap.size W0 W → W.rangeAt w.heap.size 0 (seedL s)) := Lib.hid fun W hW => rng_same (hW.block w.heap.size hlt) hr1
    clear hr hrk hfine hfk hT hSt hs hl40 hby hk40 hbk hB0 hr1 hlt
    go_enter Tryz.func5, Tryz.ntmps5
    go_wp2_with (first
      | (go_at_call 7; (refine CF.out.mono ?_); rintro e w0 ⟨rfl, hb0⟩; have hw0 := HB0.out.trans (hb0.mono HB0.out.size); clear CF)
      | (go_at_call 7; (refine (CFK.out _ hw0).mono ?_); rintro e w1 ⟨rfl, hb1⟩))
    have hwA : Below w.heap.size w w1 := hw0.trans (hb1.mono hw0.size)
    have HRA : Hid (∀ W, Below w1.heap.size w1 W → W.rangeAt w.heap.size 0 (seedL s)) := Lib.hid fun W hW => HR0.out W (hb0.trans ((hb1.trans (hW.mono hb1.size)).mono hb0.size))
    clear hb0 hb1 hw0 HR0 HB0 hW0 CFK
    refine region_cut (fun a a' W' => ∃ b1 b2, a' = ((((((a.put (some 29) (seedV s)).put (some 30) (trieV s .nilIface)).put (some 31) (seedV s)).put (some 32) (trieV s .nilIface)).put (some 7) (.pointer (some ⟨b1, 0, none⟩))).put (some 8) (.pointer (some ⟨b2, 0, none⟩))) ∧ TwoAt w b1 b2 s s [] [] .nilIface .nilIface none none W') ?_ ?_
    · have hS0 : Below w1.heap.size w1 w1.drew := by (repeat (first | exact Below.refl _ _ | with_reducible assumption | refine Below.drew ?_ | refine b_drewN ?_ _ | (refine Below.alloc ?_ (by first | omega | (simp <;> omega)) _)))
      refine wp_region_held_drew (S := fun W => Below w1.heap.size w1 W) (by kernel_rfl) hS0 (fun _ => ?_)
      generalize w1.drew = V0 at *
      refine take_op (i := 0) rfl (by kernel_rfl) (by kernel_rfl) (by kernel_rfl) (fun _ _ _ h => by cases h.1) (yieldsIf_load_seed (x := .tmp 3) (b := w.heap.size) (by rfl) rfl rfl HS.out (fun w h => HRA.out w h)) hS0 ?_
      simp only [Act.put, List.setIfInBounds_toArray, List.set_cons_zero, List.set_cons_succ]
      refine take_op (i := 2) rfl (by kernel_rfl) (by kernel_rfl) (by kernel_rfl) (fun _ _ _ h => by cases h.1) (yieldsIf_load_seed (x := .tmp 3) (b := w.heap.size) (by rfl) rfl rfl HS.out (fun w h => HRA.out w h)) hS0 ?_
      simp only [Act.put, List.setIfInBounds_toArray, List.set_cons_zero, List.set_cons_succ]
      refine wpAnyH_ready (rs := [1, 4, 5]) (by kernel_rfl) (by simp) ((ready_cons (i := 1) rfl (by rfl) (fun K hK => ?_) (ready_cons (i := 4) rfl (by rfl) (fun K hK => ?_) (ready_cons (i := 5) rfl (by rfl) (fun K hK => ?_) AllReadyH.nil))))
      · go_simp
        refine (CN1.out V0).mono ?_
        rintro e V1 ⟨rfl, hb1⟩
        go_wp2_with fail
        refine hK.out _ _ (hS0.trans (hb1.mono hS0.size)) (fun hS1 => ?_)
        clear hK K
        try simp only [Act.put, List.setIfInBounds_toArray, List.set_cons_zero, List.set_cons_succ]
        refine wpAnyH_ready (rs := [3, 4, 5]) (by kernel_rfl) (by simp) ((ready_cons (i := 3) rfl (by rfl) (fun K hK => ?_) (ready_cons (i := 4) rfl (by rfl) (fun K hK => ?_) (ready_cons (i := 5) rfl (by rfl) (fun K hK => ?_) AllReadyH.nil))))
        · go_simp
          refine (CN1.out V1).mono ?_
          rintro e V2 ⟨rfl, hb2⟩
          go_wp2_with fail
          refine hK.out _ _ (hS1.trans (hb2.mono hS1.size)) (fun hS2 => ?_)
          clear hK K
          try simp only [Act.put, List.setIfInBounds_toArray, List.set_cons_zero, List.set_cons_succ]
          refine wpAnyH_ready (rs := [4, 5]) (by kernel_rfl) (by simp) ((ready_cons (i := 4) rfl (by rfl) (fun K hK => ?_) (ready_cons (i := 5) rfl (by rfl) (fun K hK => ?_) AllReadyH.nil)))
          · go_simp
            have hth1 := trie_there V2 #[.int .u8 0, .int .u8 0, .int .u8 0, .int .u8 0, .int .u8 0, .int .u8 0, .int .u8 0, .int .u8 0, .int .u8 0, .int .u8 0, .int .u8 0, .int .u8 0, .int .u8 0, .int .u8 0, .int .u8 0, .int .u8 0, .nilIface] 30 rfl
            have hl1 : w1.heap.size ≤ V2.heap.size := hS2.size
            have hb3 : Below V2.heap.size V2 (V2.alloc (.cells #[.int .u8 0, .int .u8 0, .int .u8 0, .int .u8 0, .int .u8 0, .int .u8 0, .int .u8 0, .int .u8 0, .int .u8 0, .int .u8 0, .int .u8 0, .int .u8 0, .int .u8 0, .int .u8 0, .int .u8 0, .int .u8 0, .nilIface] 30)) := (Below.refl _ _).alloc (Nat.le_refl _) _
            generalize V2.alloc (.cells #[.int .u8 0, .int .u8 0, .int .u8 0, .int .u8 0, .int .u8 0, .int .u8 0, .int .u8 0, .int .u8 0, .int .u8 0, .int .u8 0, .int .u8 0, .int .u8 0, .int .u8 0, .int .u8 0, .int .u8 0, .int .u8 0, .nilIface] 30) = V3 at *
            refine hK.out _ _ (hS2.trans (hb3.mono hS2.size)) (fun hS3 => ?_)
            clear hK K
            try simp only [Act.put, List.setIfInBounds_toArray, List.set_cons_zero, List.set_cons_succ]
            refine wpAnyH_ready (rs := [5]) (by kernel_rfl) (by simp) (ready_cons (i := 5) rfl (by rfl) (fun K hK => ?_) AllReadyH.nil)
            go_simp
            have hth2 := trie_there V3 #[.int .u8 0, .int .u8 0, .int .u8 0, .int .u8 0, .int .u8 0, .int .u8 0, .int .u8 0, .int .u8 0, .int .u8 0, .int .u8 0, .int .u8 0, .int .u8 0, .int .u8 0, .int .u8 0, .int .u8 0, .int .u8 0, .nilIface] 30 rfl
            have hl2 : w1.heap.size ≤ V3.heap.size := hS3.size
            have hb4 : Below V3.heap.size V3 (V3.alloc (.cells #[.int .u8 0, .int .u8 0, .int .u8 0, .int .u8 0, .int .u8 0, .int .u8 0, .int .u8 0, .int .u8 0, .int .u8 0, .int .u8 0, .int .u8 0, .int .u8 0, .int .u8 0, .int .u8 0, .int .u8 0, .int .u8 0, .nilIface] 30)) := (Below.refl _ _).alloc (Nat.le_refl _) _
            have hne : V2.heap.size ≠ V3.heap.size := Nat.ne_of_lt (there_lt hth1)
            replace hth1 := there_same (hb4.block _ (there_lt hth1)) hth1
            generalize V3.alloc (.cells #[.int .u8 0, .int .u8 0, .int .u8 0, .int .u8 0, .int .u8 0, .int .u8 0, .int .u8 0, .int .u8 0, .int .u8 0, .int .u8 0, .int .u8 0, .int .u8 0, .int .u8 0, .int .u8 0, .int .u8 0, .int .u8 0, .nilIface] 30) = V4 at *
            refine hK.out _ _ (hS3.trans (hb4.mono hS3.size)) (fun hS4 => ?_)
            clear hK K
            try simp only [Act.put, List.setIfInBounds_toArray, List.set_cons_zero, List.set_cons_succ]
            refine ready_op (i := 6) rfl (by kernel_rfl) (by rfl) (fun K hK => ?_)
            refine wp_store_trie (s := s) (nv := .nilIface) rfl rfl rfl HS.out rfl hth1 ?_
            refine hK.out _ _ (World.below_setCells hl1 _ _ _ hS4) (fun hS5 => ?_)
            clear hK K
            simp only [Act.put]
            refine ready_op (i := 7) rfl (by kernel_rfl) (by rfl) (fun K hK => ?_)
            refine wp_store_trie (s := s) (nv := .nilIface) rfl rfl rfl HS.out rfl (there_same (World.other_setCells hne.symm _ _ _) hth2) ?_
            refine hK.out _ _ (World.below_setCells hl2 _ _ _ hS5) (fun hS6 => ?_)
            clear hK K
            simp only [Act.put]
            refine wpAnyH_done (by kernel_rfl) ?_ _
            exact ⟨rfl, V2.heap.size, V3.heap.size, by first | rfl | (simp only [Act.put, List.setIfInBounds_toArray, List.set_cons_zero, List.set_cons_succ]), two_start hwA hne hl1 hl2 hth1 hth2 HS.out HS.out hS4⟩
          · go_simp
            have hth2 := trie_there V2 #[.int .u8 0, .int .u8 0, .int .u8 0, .int .u8 0, .int .u8 0, .int .u8 0, .int .u8 0, .int .u8 0, .int .u8 0, .int .u8 0, .int .u8 0, .int .u8 0, .int .u8 0, .int .u8 0, .int .u8 0, .int .u8 0, .nilIface] 30 rfl
            have hl2 : w1.heap.size ≤ V2.heap.size := hS2.size
            have hb3 : Below V2.heap.size V2 (V2.alloc (.cells #[.int .u8 0, .int .u8 0, .int .u8 0, .int .u8 0, .int .u8 0, .int .u8 0, .int .u8 0, .int .u8 0, .int .u8 0, .int .u8 0, .int .u8 0, .int .u8 0, .int .u8 0, .int .u8 0, .int .u8 0, .int .u8 0, .nilIface] 30)) := (Below.refl _ _).alloc (Nat.le_refl _) _
            generalize V2.alloc (.cells #[.int .u8 0, .int .u8 0, .int .u8 0, .int .u8 0, .int .u8 0, .int .u8 0, .int .u8 0, .int .u8 0, .int .u8 0, .int .u8 0, .int .u8 0, .int .u8 0, .int .u8 0, .int .u8 0, .int .u8 0, .int .u8 0, .nilIface] 30) = V3 at *
            refine hK.out _ _ (hS2.trans (hb3.mono hS2.size)) (fun hS3 => ?_)
            clear hK K
            try simp only [Act.put, List.setIfInBounds_toArray, List.set_cons_zero, List.set_cons_succ]
            refine wpAnyH_ready (rs := [4]) (by kernel_rfl) (by simp) (ready_cons (i := 4) rfl (by rfl) (fun K hK => ?_) AllReadyH.nil)
            go_simp
            have hth1 := trie_there V3 #[.int .u8 0, .int .u8 0, .int .u8 0, .int .u8 0, .int .u8 0, .int .u8 0, .int .u8 0, .int .u8 0, .int .u8 0, .int .u8 0, .int .u8 0, .int .u8 0, .int .u8 0, .int .u8 0, .int .u8 0, .int .u8 0, .nilIface] 30 rfl
            have hl1 : w1.heap.size ≤ V3.heap.size := hS3.size
            have hb4 : Below V3.heap.size V3 (V3.alloc (.cells #[.int .u8 0, .int .u8 0, .int .u8 0, .int .u8 0, .int .u8 0, .int .u8 0, .int .u8 0, .int .u8 0, .int .u8 0, .int .u8 0, .int .u8 0, .int .u8 0, .int .u8 0, .int .u8 0, .int .u8 0, .int .u8 0, .nilIface] 30)) := (Below.refl _ _).alloc (Nat.le_refl _) _
            have hne : V3.heap.size ≠ V2.heap.size := Nat.ne_of_gt (there_lt hth2)
            replace hth2 := there_same (hb4.block _ (there_lt hth2)) hth2
            generalize V3.alloc (.cells #[.int .u8 0, .int .u8 0, .int .u8 0, .int .u8 0, .int .u8 0, .int .u8 0, .int .u8 0, .int .u8 0, .int .u8 0, .int .u8 0, .int .u8 0, .int .u8 0, .int .u8 0, .int .u8 0, .int .u8 0, .int .u8 0, .nilIface] 30) = V4 at *
            refine hK.out _ _ (hS3.trans (hb4.mono hS3.size)) (fun hS4 => ?_)
            clear hK K
            try simp only [Act.put, List.setIfInBounds_toArray, List.set_cons_zero, List.set_cons_succ]
            refine ready_op (i := 6) rfl (by kernel_rfl) (by rfl) (fun K hK => ?_)
            refine wp_store_trie (s := s) (nv := .nilIface) rfl rfl rfl HS.out rfl hth1 ?_
            refine hK.out _ _ (World.below_setCells hl1 _ _ _ hS4) (fun hS5 => ?_)
            clear hK K
            simp only [Act.put]
            refine ready_op (i := 7) rfl (by kernel_rfl) (by rfl) (fun K hK => ?_)
            refine wp_store_trie (s := s) (nv := .nilIface) rfl rfl rfl HS.out rfl (there_same (World.other_setCells hne.symm _ _ _) hth2) ?_
            refine hK.out _ _ (World.below_setCells hl2 _ _ _ hS5) (fun hS6 => ?_)
            clear hK K
            simp only [Act.put]
            refine wpAnyH_done (by kernel_rfl) ?_ _
            exact ⟨rfl, V3.heap.size, V2.heap.size, by first | rfl | (simp only [Act.put, List.setIfInBounds_toArray, List.set_cons_zero, List.set_cons_succ]), two_start hwA hne hl1 hl2 hth1 hth2 HS.out HS.out hS4⟩
        · go_simp
          have hth1 := trie_there V1 #[.int .u8 0, .int .u8 0, .int .u8 0, .int .u8 0, .int .u8 0, .int .u8 0, .int .u8 0, .int .u8 0, .int .u8 0, .int .u8 0, .int .u8 0, .int .u8 0, .int .u8 0, .int .u8 0, .int .u8 0, .int .u8 0, .nilIface] 30 rfl
          have hl1 : w1.heap.size ≤ V1.heap.size := hS1.size
          have hb2 : Below V1.heap.size V1 (V1.alloc (.cells #[.int .u8 0, .int .u8 0, .int .u8 0, .int .u8 0, .int .u8 0, .int .u8 0, .int .u8 0, .int .u8 0, .int .u8 0, .int .u8 0, .int .u8 0, .int .u8 0, .int .u8 0, .int .u8 0, .int .u8 0, .int .u8 0, .nilIface] 30)) := (Below.refl _ _).alloc (Nat.le_refl _) _
          generalize V1.alloc (.cells #[.int .u8 0, .int .u8 0, .int .u8 0, .int .u8 0, .int .u8 0, .int .u8 0, .int .u8 0, .int .u8 0, .int .u8 0, .int .u8 0, .int .u8 0, .int .u8 0, .int .u8 0, .int .u8 0, .int .u8 0, .int .u8 0, .nilIface] 30) = V2 at *
          refine hK.out _ _ (hS1.trans (hb2.mono hS1.size)) (fun hS2 => ?_)
          clear hK K
          try simp only [Act.put, List.setIfInBounds_toArray, List.set_cons_zero, List.set_cons_succ]
          refine wpAnyH_ready (rs := [3, 5]) (by kernel_rfl) (by simp) ((ready_cons (i := 3) rfl (by rfl) (fun K hK => ?_) (ready_cons (i := 5) rfl (by rfl) (fun K hK => ?_) AllReadyH.nil)))
          · go_simp
            refine (CN1.out V2).mono ?_
            rintro e V3 ⟨rfl, hb3⟩
            go_wp2_with fail
            refine hK.out _ _ (hS2.trans (hb3.mono hS2.size)) (fun hS3 => ?_)
            clear hK K
            try simp only [Act.put, List.setIfInBounds_toArray, List.set_cons_zero, List.set_cons_succ]
            replace hth1 := there_same (hb3.block _ (there_lt hth1)) hth1
            refine wpAnyH_ready (rs := [5]) (by kernel_rfl) (by simp) (ready_cons (i := 5) rfl (by rfl) (fun K hK => ?_) AllReadyH.nil)
            go_simp
            have hth2 := trie_there V3 #[.int .u8 0, .int .u8 0, .int .u8 0, .int .u8 0, .int .u8 0, .int .u8 0, .int .u8 0, .int .u8 0, .int .u8 0, .int .u8 0, .int .u8 0, .int .u8 0, .int .u8 0, .int .u8 0, .int .u8 0, .int .u8 0, .nilIface] 30 rfl
            have hl2 : w1.heap.size ≤ V3.heap.size := hS3.size
            have hb4 : Below V3.heap.size V3 (V3.alloc (.cells #[.int .u8 0, .int .u8 0, .int .u8 0, .int .u8 0, .int .u8 0, .int .u8 0, .int .u8 0, .int .u8 0, .int .u8 0, .int .u8 0, .int .u8 0, .int .u8 0, .int .u8 0, .int .u8 0, .int .u8 0, .int .u8 0, .nilIface] 30)) := (Below.refl _ _).alloc (Nat.le_refl _) _
            have hne : V1.heap.size ≠ V3.heap.size := Nat.ne_of_lt (there_lt hth1)
            replace hth1 := there_same (hb4.block _ (there_lt hth1)) hth1
            generalize V3.alloc (.cells #[.int .u8 0, .int .u8 0, .int .u8 0, .int .u8 0, .int .u8 0, .int .u8 0, .int .u8 0, .int .u8 0, .int .u8 0, .int .u8 0, .int .u8 0, .int .u8 0, .int .u8 0, .int .u8 0, .int .u8 0, .int .u8 0, .nilIface] 30) = V4 at *
            refine hK.out _ _ (hS3.trans (hb4.mono hS3.size)) (fun hS4 => ?_)
            clear hK K
            try simp only [Act.put, List.setIfInBounds_toArray, List.set_cons_zero, List.set_cons_succ]
            refine ready_op (i := 6) rfl (by kernel_rfl) (by rfl) (fun K hK => ?_)
            refine wp_store_trie (s := s) (nv := .nilIface) rfl rfl rfl HS.out rfl hth1 ?_
            refine hK.out _ _ (World.below_setCells hl1 _ _ _ hS4) (fun hS5 => ?_)
            clear hK K
            simp only [Act.put]
            refine ready_op (i := 7) rfl (by kernel_rfl) (by rfl) (fun K hK => ?_)
            refine wp_store_trie (s := s) (nv := .nilIface) rfl rfl rfl HS.out rfl (there_same (World.other_setCells hne.symm _ _ _) hth2) ?_
            refine hK.out _ _ (World.below_setCells hl2 _ _ _ hS5) (fun hS6 => ?_)
            clear hK K
            simp only [Act.put]
            refine wpAnyH_done (by kernel_rfl) ?_ _
            exact ⟨rfl, V1.heap.size, V3.heap.size, by first | rfl | (simp only [Act.put, List.setIfInBounds_toArray, List.set_cons_zero, List.set_cons_succ]), two_start hwA hne hl1 hl2 hth1 hth2 HS.out HS.out hS4⟩
          · go_simp
            have hth2 := trie_there V2 #[.int .u8 0, .int .u8 0, .int .u8 0, .int .u8 0, .int .u8 0, .int .u8 0, .int .u8 0, .int .u8 0, .int .u8 0, .int .u8 0, .int .u8 0, .int .u8 0, .int .u8 0, .int .u8 0, .int .u8 0, .int .u8 0, .nilIface] 30 rfl
            have hl2 : w1.heap.size ≤ V2.heap.size := hS2.size
            have hb3 : Below V2.heap.size V2 (V2.alloc (.cells #[.int .u8 0, .int .u8 0, .int .u8 0, .int .u8 0, .int .u8 0, .int .u8 0, .int .u8 0, .int .u8 0, .int .u8 0, .int .u8 0, .int .u8 0, .int .u8 0, .int .u8 0, .int .u8 0, .int .u8 0, .int .u8 0, .nilIface] 30)) := (Below.refl _ _).alloc (Nat.le_refl _) _
            have hne : V1.heap.size ≠ V2.heap.size := Nat.ne_of_lt (there_lt hth1)
            replace hth1 := there_same (hb3.block _ (there_lt hth1)) hth1
            generalize V2.alloc (.cells #[.int .u8 0, .int .u8 0, .int .u8 0, .int .u8 0, .int .u8 0, .int .u8 0, .int .u8 0, .int .u8 0, .int .u8 0, .int .u8 0, .int .u8 0, .int .u8 0, .int .u8 0, .int .u8 0, .int .u8 0, .int .u8 0, .nilIface] 30) = V3 at *
            refine hK.out _ _ (hS2.trans (hb3.mono hS2.size)) (fun hS3 => ?_)
            clear hK K
            try simp only [Act.put, List.setIfInBounds_toArray, List.set_cons_zero, List.set_cons_succ]
            refine wpAnyH_ready (rs := [3]) (by kernel_rfl) (by simp) (ready_cons (i := 3) rfl (by rfl) (fun K hK => ?_) AllReadyH.nil)
            go_simp
            refine (CN1.out V3).mono ?_
            rintro e V4 ⟨rfl, hb4⟩
            go_wp2_with fail
            refine hK.out _ _ (hS3.trans (hb4.mono hS3.size)) (fun hS4 => ?_)
            clear hK K
            try simp only [Act.put, List.setIfInBounds_toArray, List.set_cons_zero, List.set_cons_succ]
            replace hth1 := there_same (hb4.block _ (there_lt hth1)) hth1
            replace hth2 := there_same (hb4.block _ (there_lt hth2)) hth2
            refine ready_op (i := 6) rfl (by kernel_rfl) (by rfl) (fun K hK => ?_)
            refine wp_store_trie (s := s) (nv := .nilIface) rfl rfl rfl HS.out rfl hth1 ?_
            refine hK.out _ _ (World.below_setCells hl1 _ _ _ hS4) (fun hS5 => ?_)
            clear hK K
            simp only [Act.put]
            refine ready_op (i := 7) rfl (by kernel_rfl) (by rfl) (fun K hK => ?_)
            refine wp_store_trie (s := s) (nv := .nilIface) rfl rfl rfl HS.out rfl (there_same (World.other_setCells hne.symm _ _ _) hth2) ?_
            refine hK.out _ _ (World.below_setCells hl2 _ _ _ hS5) (fun hS6 => ?_)
            clear hK K
            simp only [Act.put]
            refine wpAnyH_done (by kernel_rfl) ?_ _
            exact ⟨rfl, V1.heap.size, V2.heap.size, by first | rfl | (simp only [Act.put, List.setIfInBounds_toArray, List.set_cons_zero, List.set_cons_succ]), two_start hwA hne hl1 hl2 hth1 hth2 HS.out HS.out hS4⟩
        · go_simp
          have hth2 := trie_there V1 #[.int .u8 0, .int .u8 0, .int .u8 0, .int .u8 0, .int .u8 0, .int .u8 0, .int .u8 0, .int .u8 0, .int .u8 0, .int .u8 0, .int .u8 0, .int .u8 0, .int .u8 0, .int .u8 0, .int .u8 0, .int .u8 0, .nilIface] 30 rfl
          have hl2 : w1.heap.size ≤ V1.heap.size := hS1.size
          have hb2 : Below V1.heap.size V1 (V1.alloc (.cells #[.int .u8 0, .int .u8 0, .int .u8 0, .int .u8 0, .int .u8 0, .int .u8 0, .int .u8 0, .int .u8 0, .int .u8 0, .int .u8 0, .int .u8 0, .int .u8 0, .int .u8 0, .int .u8 0, .int .u8 0, .int .u8 0, .nilIface] 30)) := (Below.refl _ _).alloc (Nat.le_refl _) _
          generalize V1.alloc (.cells #[.int .u8 0, .int .u8 0, .int .u8 0, .int .u8 0, .int .u8 0, .int .u8 0, .int .u8 0, .int .u8 0, .int .u8 0, .int .u8 0, .int .u8 0, .int .u8 0, .int .u8 0, .int .u8 0, .int .u8 0, .int .u8 0, .nilIface] 30) = V2 at *
          refine hK.out _ _ (hS1.trans (hb2.mono hS1.size)) (fun hS2 => ?_)
          clear hK K
          try simp only [Act.put, List.setIfInBounds_toArray, List.set_cons_zero, List.set_cons_succ]
          refine wpAnyH_ready (rs := [3, 4]) (by kernel_rfl) (by simp) ((ready_cons (i := 3) rfl (by rfl) (fun K hK => ?_) (ready_cons (i := 4) rfl (by rfl) (fun K hK => ?_) AllReadyH.nil)))
          · go_simp
            refine (CN1.out V2).mono ?_
            rintro e V3 ⟨rfl, hb3⟩
            go_wp2_with fail
            refine hK.out _ _ (hS2.trans (hb3.mono hS2.size)) (fun hS3 => ?_)
            clear hK K
            try simp only [Act.put, List.setIfInBounds_toArray, List.set_cons_zero, List.set_cons_succ]
            replace hth2 := there_same (hb3.block _ (there_lt hth2)) hth2
            refine wpAnyH_ready (rs := [4]) (by kernel_rfl) (by simp) (ready_cons (i := 4) rfl (by rfl) (fun K hK => ?_) AllReadyH.nil)
            go_simp
            have hth1 := trie_there V3 #[.int .u8 0, .int .u8 0, .int .u8 0, .int .u8 0, .int .u8 0, .int .u8 0, .int .u8 0, .int .u8 0, .int .u8 0, .int .u8 0, .int .u8 0, .int .u8 0, .int .u8 0, .int .u8 0, .int .u8 0, .int .u8 0, .nilIface] 30 rfl
            have hl1 : w1.heap.size ≤ V3.heap.size := hS3.size
            have hb4 : Below V3.heap.size V3 (V3.alloc (.cells #[.int .u8 0, .int .u8 0, .int .u8 0, .int .u8 0, .int .u8 0, .int .u8 0, .int .u8 0, .int .u8 0, .int .u8 0, .int .u8 0, .int .u8 0, .int .u8 0, .int .u8 0, .int .u8 0, .int .u8 0, .int .u8 0, .nilIface] 30)) := (Below.refl _ _).alloc (Nat.le_refl _) _
            have hne : V3.heap.size ≠ V1.heap.size := Nat.ne_of_gt (there_lt hth2)
            replace hth2 := there_same (hb4.block _ (there_lt hth2)) hth2
            generalize V3.alloc (.cells #[.int .u8 0, .int .u8 0, .int .u8 0, .int .u8 0, .int .u8 0, .int .u8 0, .int .u8 0, .int .u8 0, .int .u8 0, .int .u8 0, .int .u8 0, .int .u8 0, .int .u8 0, .int .u8 0, .int .u8 0, .int .u8 0, .nilIface] 30) = V4 at *
            refine hK.out _ _ (hS3.trans (hb4.mono hS3.size)) (fun hS4 => ?_)
            clear hK K
            try simp only [Act.put, List.setIfInBounds_toArray, List.set_cons_zero, List.set_cons_succ]
            refine ready_op (i := 6) rfl (by kernel_rfl) (by rfl) (fun K hK => ?_)
            refine wp_store_trie (s := s) (nv := .nilIface) rfl rfl rfl HS.out rfl hth1 ?_
            refine hK.out _ _ (World.below_setCells hl1 _ _ _ hS4) (fun hS5 => ?_)
            clear hK K
            simp only [Act.put]
            refine ready_op (i := 7) rfl (by kernel_rfl) (by rfl) (fun K hK => ?_)
            refine wp_store_trie (s := s) (nv := .nilIface) rfl rfl rfl HS.out rfl (there_same (World.other_setCells hne.symm _ _ _) hth2) ?_
            refine hK.out _ _ (World.below_setCells hl2 _ _ _ hS5) (fun hS6 => ?_)
            clear hK K
            simp only [Act.put]
            refine wpAnyH_done (by kernel_rfl) ?_ _
            exact ⟨rfl, V3.heap.size, V1.heap.size, by first | rfl | (simp only [Act.put, List.setIfInBounds_toArray, List.set_cons_zero, List.set_cons_succ]), two_start hwA hne hl1 hl2 hth1 hth2 HS.out HS.out hS4⟩
          · go_simp
            have hth1 := trie_there V2 #[.int .u8 0, .int .u8 0, .int .u8 0, .int .u8 0, .int .u8 0, .int .u8 0, .int .u8 0, .int .u8 0, .int .u8 0, .int .u8 0, .int .u8 0, .int .u8 0, .int .u8 0, .int .u8 0, .int .u8 0, .int .u8 0, .nilIface] 30 rfl
            have hl1 : w1.heap.size ≤ V2.heap.size := hS2.size
            have hb3 : Below V2.heap.size V2 (V2.alloc (.cells #[.int .u8 0, .int .u8 0, .int .u8 0, .int .u8 0, .int .u8 0, .int .u8 0, .int .u8 0, .int .u8 0, .int .u8 0, .int .u8 0, .int .u8 0, .int .u8 0, .int .u8 0, .int .u8 0, .int .u8 0, .int .u8 0, .nilIface] 30)) := (Below.refl _ _).alloc (Nat.le_refl _) _
            have hne : V2.heap.size ≠ V1.heap.size := Nat.ne_of_gt (there_lt hth2)
            replace hth2 := there_same (hb3.block _ (there_lt hth2)) hth2
            generalize V2.alloc (.cells #[.int .u8 0, .int .u8 0, .int .u8 0, .int .u8 0, .int .u8 0, .int .u8 0, .int .u8 0, .int .u8 0, .int .u8 0, .int .u8 0, .int .u8 0, .int .u8 0, .int .u8 0, .int .u8 0, .int .u8 0, .int .u8 0, .nilIface] 30) = V3 at *
            refine hK.out _ _ (hS2.trans (hb3.mono hS2.size)) (fun hS3 => ?_)
            clear hK K
            try simp only [Act.put, List.setIfInBounds_toArray, List.set_cons_zero, List.set_cons_succ]
            refine wpAnyH_ready (rs := [3]) (by kernel_rfl) (by simp) (ready_cons (i := 3) rfl (by rfl) (fun K hK => ?_) AllReadyH.nil)
            go_simp
            refine (CN1.out V3).mono ?_
            rintro e V4 ⟨rfl, hb4⟩
            go_wp2_with fail
            refine hK.out _ _ (hS3.trans (hb4.mono hS3.size)) (fun hS4 => ?_)
            clear hK K
            try simp only [Act.put, List.setIfInBounds_toArray, List.set_cons_zero, List.set_cons_succ]
            replace hth1 := there_same (hb4.block _ (there_lt hth1)) hth1
            replace hth2 := there_same (hb4.block _ (there_lt hth2)) hth2
            refine ready_op (i := 6) rfl (by kernel_rfl) (by rfl) (fun K hK => ?_)
            refine wp_store_trie (s := s) (nv := .nilIface) rfl rfl rfl HS.out rfl hth1 ?_
            refine hK.out _ _ (World.below_setCells hl1 _ _ _ hS4) (fun hS5 => ?_)
            clear hK K
            simp only [Act.put]
            refine ready_op (i := 7) rfl (by kernel_rfl) (by rfl) (fun K hK => ?_)
            refine wp_store_trie (s := s) (nv := .nilIface) rfl rfl rfl HS.out rfl (there_same (World.other_setCells hne.symm _ _ _) hth2) ?_
            refine hK.out _ _ (World.below_setCells hl2 _ _ _ hS5) (fun hS6 => ?_)
            clear hK K
            simp only [Act.put]
            refine wpAnyH_done (by kernel_rfl) ?_ _
            exact ⟨rfl, V2.heap.size, V1.heap.size, by first | rfl | (simp only [Act.put, List.setIfInBounds_toArray, List.set_cons_zero, List.set_cons_succ]), two_start hwA hne hl1 hl2 hth1 hth2 HS.out HS.out hS4⟩
      · go_simp
        have hth1 := trie_there V0 #[.int .u8 0, .int .u8 0, .int .u8 0, .int .u8 0, .int .u8 0, .int .u8 0, .int .u8 0, .int .u8 0, .int .u8 0, .int .u8 0, .int .u8 0, .int .u8 0, .int .u8 0, .int .u8 0, .int .u8 0, .int .u8 0, .nilIface] 30 rfl
        have hl1 : w1.heap.size ≤ V0.heap.size := hS0.size
        have hb1 : Below V0.heap.size V0 (V0.alloc (.cells #[.int .u8 0, .int .u8 0, .int .u8 0, .int .u8 0, .int .u8 0, .int .u8 0, .int .u8 0, .int .u8 0, .int .u8 0, .int .u8 0, .int .u8 0, .int .u8 0, .int .u8 0, .int .u8 0, .int .u8 0, .int .u8 0, .nilIface] 30)) := (Below.refl _ _).alloc (Nat.le_refl _) _
        generalize V0.alloc (.cells #[.int .u8 0, .int .u8 0, .int .u8 0, .int .u8 0, .int .u8 0, .int .u8 0, .int .u8 0, .int .u8 0, .int .u8 0, .int .u8 0, .int .u8 0, .int .u8 0, .int .u8 0, .int .u8 0, .int .u8 0, .int .u8 0, .nilIface] 30) = V1 at *
        refine hK.out _ _ (hS0.trans (hb1.mono hS0.size)) (fun hS1 => ?_)
        clear hK K
        try simp only [Act.put, List.setIfInBounds_toArray, List.set_cons_zero, List.set_cons_succ]
        refine wpAnyH_ready (rs := [1, 5]) (by kernel_rfl) (by simp) ((ready_cons (i := 1) rfl (by rfl) (fun K hK => ?_) (ready_cons (i := 5) rfl (by rfl) (fun K hK => ?_) AllReadyH.nil)))
        · go_simp
          refine (CN1.out V1).mono ?_
          rintro e V2 ⟨rfl, hb2⟩
          go_wp2_with fail
          refine hK.out _ _ (hS1.trans (hb2.mono hS1.size)) (fun hS2 => ?_)
          clear hK K
          try simp only [Act.put, List.setIfInBounds_toArray, List.set_cons_zero, List.set_cons_succ]
          replace hth1 := there_same (hb2.block _ (there_lt hth1)) hth1
          refine wpAnyH_ready (rs := [3, 5]) (by kernel_rfl) (by simp) ((ready_cons (i := 3) rfl (by rfl) (fun K hK => ?_) (ready_cons (i := 5) rfl (by rfl) (fun K hK => ?_) AllReadyH.nil)))
          · go_simp
            refine (CN1.out V2).mono ?_
            rintro e V3 ⟨rfl, hb3⟩
            go_wp2_with fail
            refine hK.out _ _ (hS2.trans (hb3.mono hS2.size)) (fun hS3 => ?_)
            clear hK K
            try simp only [Act.put, List.setIfInBounds_toArray, List.set_cons_zero, List.set_cons_succ]
            replace hth1 := there_same (hb3.block _ (there_lt hth1)) hth1
            refine wpAnyH_ready (rs := [5]) (by kernel_rfl) (by simp) (ready_cons (i := 5) rfl (by rfl) (fun K hK => ?_) AllReadyH.nil)
            go_simp
            have hth2 := trie_there V3 #[.int .u8 0, .int .u8 0, .int .u8 0, .int .u8 0, .int .u8 0, .int .u8 0, .int .u8 0, .int .u8 0, .int .u8 0, .int .u8 0, .int .u8 0, .int .u8 0, .int .u8 0, .int .u8 0, .int .u8 0, .int .u8 0, .nilIface] 30 rfl
            have hl2 : w1.heap.size ≤ V3.heap.size := hS3.size
            have hb4 : Below V3.heap.size V3 (V3.alloc (.cells #[.int .u8 0, .int .u8 0, .int .u8 0, .int .u8 0, .int .u8 0, .int .u8 0, .int .u8 0, .int .u8 0, .int .u8 0, .int .u8 0, .int .u8 0, .int .u8 0, .int .u8 0, .int .u8 0, .int .u8 0, .int .u8 0, .nilIface] 30)) := (Below.refl _ _).alloc (Nat.le_refl _) _
            have hne : V0.heap.size ≠ V3.heap.size := Nat.ne_of_lt (there_lt hth1)
            replace hth1 := there_same (hb4.block _ (there_lt hth1)) hth1
            generalize V3.alloc (.cells #[.int .u8 0, .int .u8 0, .int .u8 0, .int .u8 0, .int .u8 0, .int .u8 0, .int .u8 0, .int .u8 0, .int .u8 0, .int .u8 0, .int .u8 0, .int .u8 0, .int .u8 0, .int .u8 0, .int .u8 0, .int .u8 0, .nilIface] 30) = V4 at *
            refine hK.out _ _ (hS3.trans (hb4.mono hS3.size)) (fun hS4 => ?_)
            clear hK K
            try simp only [Act.put, List.setIfInBounds_toArray, List.set_cons_zero, List.set_cons_succ]
            refine ready_op (i := 6) rfl (by kernel_rfl) (by rfl) (fun K hK => ?_)
            refine wp_store_trie (s := s) (nv := .nilIface) rfl rfl rfl HS.out rfl hth1 ?_
            refine hK.out _ _ (World.below_setCells hl1 _ _ _ hS4) (fun hS5 => ?_)
            clear hK K
            simp only [Act.put]
            refine ready_op (i := 7) rfl (by kernel_rfl) (by rfl) (fun K hK => ?_)
            refine wp_store_trie (s := s) (nv := .nilIface) rfl rfl rfl HS.out rfl (there_same (World.other_setCells hne.symm _ _ _) hth2) ?_
            refine hK.out _ _ (World.below_setCells hl2 _ _ _ hS5) (fun hS6 => ?_)
            clear hK K
            simp only [Act.put]
            refine wpAnyH_done (by kernel_rfl) ?_ _
            exact ⟨rfl, V0.heap.size, V3.heap.size, by first | rfl | (simp only [Act.put, List.setIfInBounds_toArray, List.set_cons_zero, List.set_cons_succ]), two_start hwA hne hl1 hl2 hth1 hth2 HS.out HS.out hS4⟩
          · go_simp
            have hth2 := trie_there V2 #[.int .u8 0, .int .u8 0, .int .u8 0, .int .u8 0, .int .u8 0, .int .u8 0, .int .u8 0, .int .u8 0, .int .u8 0, .int .u8 0, .int .u8 0, .int .u8 0, .int .u8 0, .int .u8 0, .int .u8 0, .int .u8 0, .nilIface] 30 rfl
            have hl2 : w1.heap.size ≤ V2.heap.size := hS2.size
            have hb3 : Below V2.heap.size V2 (V2.alloc (.cells #[.int .u8 0, .int .u8 0, .int .u8 0, .int .u8 0, .int .u8 0, .int .u8 0, .int .u8 0, .int .u8 0, .int .u8 0, .int .u8 0, .int .u8 0, .int .u8 0, .int .u8 0, .int .u8 0, .int .u8 0, .int .u8 0, .nilIface] 30)) := (Below.refl _ _).alloc (Nat.le_refl _) _
            have hne : V0.heap.size ≠ V2.heap.size := Nat.ne_of_lt (there_lt hth1)
            replace hth1 := there_same (hb3.block _ (there_lt hth1)) hth1
            generalize V2.alloc (.cells #[.int .u8 0, .int .u8 0, .int .u8 0, .int .u8 0, .int .u8 0, .int .u8 0, .int .u8 0, .int .u8 0, .int .u8 0, .int .u8 0, .int .u8 0, .int .u8 0, .int .u8 0, .int .u8 0, .int .u8 0, .int .u8 0, .nilIface] 30) = V3 at *
            refine hK.out _ _ (hS2.trans (hb3.mono hS2.size)) (fun hS3 => ?_)
            clear hK K
            try simp only [Act.put, List.setIfInBounds_toArray, List.set_cons_zero, List.set_cons_succ]
            refine wpAnyH_ready (rs := [3]) (by kernel_rfl) (by simp) (ready_cons (i := 3) rfl (by rfl) (fun K hK => ?_) AllReadyH.nil)
            go_simp
            refine (CN1.out V3).mono ?_
            rintro e V4 ⟨rfl, hb4⟩
            go_wp2_with fail
            refine hK.out _ _ (hS3.trans (hb4.mono hS3.size)) (fun hS4 => ?_)
            clear hK K
            try simp only [Act.put, List.setIfInBounds_toArray, List.set_cons_zero, List.set_cons_succ]
            replace hth1 := there_same (hb4.block _ (there_lt hth1)) hth1
            replace hth2 := there_same (hb4.block _ (there_lt hth2)) hth2
            refine ready_op (i := 6) rfl (by kernel_rfl) (by rfl) (fun K hK => ?_)
            refine wp_store_trie (s := s) (nv := .nilIface) rfl rfl rfl HS.out rfl hth1 ?_
            refine hK.out _ _ (World.below_setCells hl1 _ _ _ hS4) (fun hS5 => ?_)
            clear hK K
            simp only [Act.put]
            refine ready_op (i := 7) rfl (by kernel_rfl) (by rfl) (fun K hK => ?_)
            refine wp_store_trie (s := s) (nv := .nilIface) rfl rfl rfl HS.out rfl (there_same (World.other_setCells hne.symm _ _ _) hth2) ?_
            refine hK.out _ _ (World.below_setCells hl2 _ _ _ hS5) (fun hS6 => ?_)
            clear hK K
            simp only [Act.put]
            refine wpAnyH_done (by kernel_rfl) ?_ _
            exact ⟨rfl, V0.heap.size, V2.heap.size, by first | rfl | (simp only [Act.put, List.setIfInBounds_toArray, List.set_cons_zero, List.set_cons_succ]), two_start hwA hne hl1 hl2 hth1 hth2 HS.out HS.out hS4⟩
        · go_simp
          have hth2 := trie_there V1 #[.int .u8 0, .int .u8 0, .int .u8 0, .int .u8 0, .int .u8 0, .int .u8 0, .int .u8 0, .int .u8 0, .int .u8 0, .int .u8 0, .int .u8 0, .int .u8 0, .int .u8 0, .int .u8 0, .int .u8 0, .int .u8 0, .nilIface] 30 rfl
          have hl2 : w1.heap.size ≤ V1.heap.size := hS1.size
          have hb2 : Below V1.heap.size V1 (V1.alloc (.cells #[.int .u8 0, .int .u8 0, .int .u8 0, .int .u8 0, .int .u8 0, .int .u8 0, .int .u8 0, .int .u8 0, .int .u8 0, .int .u8 0, .int .u8 0, .int .u8 0, .int .u8 0, .int .u8 0, .int .u8 0, .int .u8 0, .nilIface] 30)) := (Below.refl _ _).alloc (Nat.le_refl _) _
          have hne : V0.heap.size ≠ V1.heap.size := Nat.ne_of_lt (there_lt hth1)
          replace hth1 := there_same (hb2.block _ (there_lt hth1)) hth1
          generalize V1.alloc (.cells #[.int .u8 0, .int .u8 0, .int .u8 0, .int .u8 0, .int .u8 0, .int .u8 0, .int .u8 0, .int .u8 0, .int .u8 0, .int .u8 0, .int .u8 0, .int .u8 0, .int .u8 0, .int .u8 0, .int .u8 0, .int .u8 0, .nilIface] 30) = V2 at *
          refine hK.out _ _ (hS1.trans (hb2.mono hS1.size)) (fun hS2 => ?_)
          clear hK K
          try simp only [Act.put, List.setIfInBounds_toArray, List.set_cons_zero, List.set_cons_succ]
          refine wpAnyH_ready (rs := [1]) (by kernel_rfl) (by simp) (ready_cons (i := 1) rfl (by rfl) (fun K hK => ?_) AllReadyH.nil)
          go_simp
          refine (CN1.out V2).mono ?_
          rintro e V3 ⟨rfl, hb3⟩
          go_wp2_with fail
          refine hK.out _ _ (hS2.trans (hb3.mono hS2.size)) (fun hS3 => ?_)
          clear hK K
          try simp only [Act.put, List.setIfInBounds_toArray, List.set_cons_zero, List.set_cons_succ]
          replace hth1 := there_same (hb3.block _ (there_lt hth1)) hth1
          replace hth2 := there_same (hb3.block _ (there_lt hth2)) hth2
          refine wpAnyH_ready (rs := [3]) (by kernel_rfl) (by simp) (ready_cons (i := 3) rfl (by rfl) (fun K hK => ?_) AllReadyH.nil)
          go_simp
          refine (CN1.out V3).mono ?_
          rintro e V4 ⟨rfl, hb4⟩
          go_wp2_with fail
          refine hK.out _ _ (hS3.trans (hb4.mono hS3.size)) (fun hS4 => ?_)
          clear hK K
          try simp only [Act.put, List.setIfInBounds_toArray, List.set_cons_zero, List.set_cons_succ]
          replace hth1 := there_same (hb4.block _ (there_lt hth1)) hth1
          replace hth2 := there_same (hb4.block _ (there_lt hth2)) hth2
          refine ready_op (i := 6) rfl (by kernel_rfl) (by rfl) (fun K hK => ?_)
          refine wp_store_trie (s := s) (nv := .nilIface) rfl rfl rfl HS.out rfl hth1 ?_
          refine hK.out _ _ (World.below_setCells hl1 _ _ _ hS4) (fun hS5 => ?_)
          clear hK K
          simp only [Act.put]
          refine ready_op (i := 7) rfl (by kernel_rfl) (by rfl) (fun K hK => ?_)
          refine wp_store_trie (s := s) (nv := .nilIface) rfl rfl rfl HS.out rfl (there_same (World.other_setCells hne.symm _ _ _) hth2) ?_
          refine hK.out _ _ (World.below_setCells hl2 _ _ _ hS5) (fun hS6 => ?_)
          clear hK K
          simp only [Act.put]
          refine wpAnyH_done (by kernel_rfl) ?_ _
          exact ⟨rfl, V0.heap.size, V1.heap.size, by first | rfl | (simp only [Act.put, List.setIfInBounds_toArray, List.set_cons_zero, List.set_cons_succ]), two_start hwA hne hl1 hl2 hth1 hth2 HS.out HS.out hS4⟩
      · go_simp
        have hth2 := trie_there V0 #[.int .u8 0, .int .u8 0, .int .u8 0, .int .u8 0, .int .u8 0, .int .u8 0, .int .u8 0, .int .u8 0, .int .u8 0, .int .u8 0, .int .u8 0, .int .u8 0, .int .u8 0, .int .u8 0, .int .u8 0, .int .u8 0, .nilIface] 30 rfl
        have hl2 : w1.heap.size ≤ V0.heap.size := hS0.size
        have hb1 : Below V0.heap.size V0 (V0.alloc (.cells #[.int .u8 0, .int .u8 0, .int .u8 0, .int .u8 0, .int .u8 0, .int .u8 0, .int .u8 0, .int .u8 0, .int .u8 0, .int .u8 0, .int .u8 0, .int .u8 0, .int .u8 0, .int .u8 0, .int .u8 0, .int .u8 0, .nilIface] 30)) := (Below.refl _ _).alloc (Nat.le_refl _) _
        generalize V0.alloc (.cells #[.int .u8 0, .int .u8 0, .int .u8 0, .int .u8 0, .int .u8 0, .int .u8 0, .int .u8 0, .int .u8 0, .int .u8 0, .int .u8 0, .int .u8 0, .int .u8 0, .int .u8 0, .int .u8 0, .int .u8 0, .int .u8 0, .nilIface] 30) = V1 at *
        refine hK.out _ _ (hS0.trans (hb1.mono hS0.size)) (fun hS1 => ?_)
        clear hK K
        try simp only [Act.put, List.setIfInBounds_toArray, List.set_cons_zero, List.set_cons_succ]
        refine wpAnyH_ready (rs := [1, 4]) (by kernel_rfl) (by simp) ((ready_cons (i := 1) rfl (by rfl) (fun K hK => ?_) (ready_cons (i := 4) rfl (by rfl) (fun K hK => ?_) AllReadyH.nil)))
        · go_simp
          refine (CN1.out V1).mono ?_
          rintro e V2 ⟨rfl, hb2⟩
          go_wp2_with fail
          refine hK.out _ _ (hS1.trans (hb2.mono hS1.size)) (fun hS2 => ?_)
          clear hK K
          try simp only [Act.put, List.setIfInBounds_toArray, List.set_cons_zero, List.set_cons_succ]
          replace hth2 := there_same (hb2.block _ (there_lt hth2)) hth2
          refine wpAnyH_ready (rs := [3, 4]) (by kernel_rfl) (by simp) ((ready_cons (i := 3) rfl (by rfl) (fun K hK => ?_) (ready_cons (i := 4) rfl (by rfl) (fun K hK => ?_) AllReadyH.nil)))
          · go_simp
            refine (CN1.out V2).mono ?_
            rintro e V3 ⟨rfl, hb3⟩
            go_wp2_with fail
            refine hK.out _ _ (hS2.trans (hb3.mono hS2.size)) (fun hS3 => ?_)
            clear hK K
            try simp only [Act.put, List.setIfInBounds_toArray, List.set_cons_zero, List.set_cons_succ]
            replace hth2 := there_same (hb3.block _ (there_lt hth2)) hth2
            refine wpAnyH_ready (rs := [4]) (by kernel_rfl) (by simp) (ready_cons (i := 4) rfl (by rfl) (fun K hK => ?_) AllReadyH.nil)
            go_simp
            have hth1 := trie_there V3 #[.int .u8 0, .int .u8 0, .int .u8 0, .int .u8 0, .int .u8 0, .int .u8 0, .int .u8 0, .int .u8 0, .int .u8 0, .int .u8 0, .int .u8 0, .int .u8 0, .int .u8 0, .int .u8 0, .int .u8 0, .int .u8 0, .nilIface] 30 rfl
            have hl1 : w1.heap.size ≤ V3.heap.size := hS3.size
            have hb4 : Below V3.heap.size V3 (V3.alloc (.cells #[.int .u8 0, .int .u8 0, .int .u8 0, .int .u8 0, .int .u8 0, .int .u8 0, .int .u8 0, .int .u8 0, .int .u8 0, .int .u8 0, .int .u8 0, .int .u8 0, .int .u8 0, .int .u8 0, .int .u8 0, .int .u8 0, .nilIface] 30)) := (Below.refl _ _).alloc (Nat.le_refl _) _
            have hne : V3.heap.size ≠ V0.heap.size := Nat.ne_of_gt (there_lt hth2)
            replace hth2 := there_same (hb4.block _ (there_lt hth2)) hth2
            generalize V3.alloc (.cells #[.int .u8 0, .int .u8 0, .int .u8 0, .int .u8 0, .int .u8 0, .int .u8 0, .int .u8 0, .int .u8 0, .int .u8 0, .int .u8 0, .int .u8 0, .int .u8 0, .int .u8 0, .int .u8 0, .int .u8 0, .int .u8 0, .nilIface] 30) = V4 at *
            refine hK.out _ _ (hS3.trans (hb4.mono hS3.size)) (fun hS4 => ?_)
            clear hK K
            try simp only [Act.put, List.setIfInBounds_toArray, List.set_cons_zero, List.set_cons_succ]
            refine ready_op (i := 6) rfl (by kernel_rfl) (by rfl) (fun K hK => ?_)
            refine wp_store_trie (s := s) (nv := .nilIface) rfl rfl rfl HS.out rfl hth1 ?_
            refine hK.out _ _ (World.below_setCells hl1 _ _ _ hS4) (fun hS5 => ?_)
            clear hK K
            simp only [Act.put]
            refine ready_op (i := 7) rfl (by kernel_rfl) (by rfl) (fun K hK => ?_)
            refine wp_store_trie (s := s) (nv := .nilIface) rfl rfl rfl HS.out rfl (there_same (World.other_setCells hne.symm _ _ _) hth2) ?_
            refine hK.out _ _ (World.below_setCells hl2 _ _ _ hS5) (fun hS6 => ?_)
            clear hK K
            simp only [Act.put]
            refine wpAnyH_done (by kernel_rfl) ?_ _
            exact ⟨rfl, V3.heap.size, V0.heap.size, by first | rfl | (simp only [Act.put, List.setIfInBounds_toArray, List.set_cons_zero, List.set_cons_succ]), two_start hwA hne hl1 hl2 hth1 hth2 HS.out HS.out hS4⟩
          · go_simp
            have hth1 := trie_there V2 #[.int .u8 0, .int .u8 0, .int .u8 0, .int .u8 0, .int .u8 0, .int .u8 0, .int .u8 0, .int .u8 0, .int .u8 0, .int .u8 0, .int .u8 0, .int .u8 0, .int .u8 0, .int .u8 0, .int .u8 0, .int .u8 0, .nilIface] 30 rfl
            have hl1 : w1.heap.size ≤ V2.heap.size := hS2.size
            have hb3 : Below V2.heap.size V2 (V2.alloc (.cells #[.int .u8 0, .int .u8 0, .int .u8 0, .int .u8 0, .int .u8 0, .int .u8 0, .int .u8 0, .int .u8 0, .int .u8 0, .int .u8 0, .int .u8 0, .int .u8 0, .int .u8 0, .int .u8 0, .int .u8 0, .int .u8 0, .nilIface] 30)) := (Below.refl _ _).alloc (Nat.le_refl _) _
            have hne : V2.heap.size ≠ V0.heap.size := Nat.ne_of_gt (there_lt hth2)
            replace hth2 := there_same (hb3.block _ (there_lt hth2)) hth2
            generalize V2.alloc (.cells #[.int .u8 0, .int .u8 0, .int .u8 0, .int .u8 0, .int .u8 0, .int .u8 0, .int .u8 0, .int .u8 0, .int .u8 0, .int .u8 0, .int .u8 0, .int .u8 0, .int .u8 0, .int .u8 0, .int .u8 0, .int .u8 0, .nilIface] 30) = V3 at *
            refine hK.out _ _ (hS2.trans (hb3.mono hS2.size)) (fun hS3 => ?_)
            clear hK K
            try simp only [Act.put, List.setIfInBounds_toArray, List.set_cons_zero, List.set_cons_succ]
            refine wpAnyH_ready (rs := [3]) (by kernel_rfl) (by simp) (ready_cons (i := 3) rfl (by rfl) (fun K hK => ?_) AllReadyH.nil)
            go_simp
            refine (CN1.out V3).mono ?_
            rintro e V4 ⟨rfl, hb4⟩
            go_wp2_with fail
            refine hK.out _ _ (hS3.trans (hb4.mono hS3.size)) (fun hS4 => ?_)
            clear hK K
            try simp only [Act.put, List.setIfInBounds_toArray, List.set_cons_zero, List.set_cons_succ]
            replace hth1 := there_same (hb4.block _ (there_lt hth1)) hth1
            replace hth2 := there_same (hb4.block _ (there_lt hth2)) hth2
            refine ready_op (i := 6) rfl (by kernel_rfl) (by rfl) (fun K hK => ?_)
            refine wp_store_trie (s := s) (nv := .nilIface) rfl rfl rfl HS.out rfl hth1 ?_
            refine hK.out _ _ (World.below_setCells hl1 _ _ _ hS4) (fun hS5 => ?_)
            clear hK K
            simp only [Act.put]
            refine ready_op (i := 7) rfl (by kernel_rfl) (by rfl) (fun K hK => ?_)
            refine wp_store_trie (s := s) (nv := .nilIface) rfl rfl rfl HS.out rfl (there_same (World.other_setCells hne.symm _ _ _) hth2) ?_
            refine hK.out _ _ (World.below_setCells hl2 _ _ _ hS5) (fun hS6 => ?_)
            clear hK K
            simp only [Act.put]
            refine wpAnyH_done (by kernel_rfl) ?_ _
            exact ⟨rfl, V2.heap.size, V0.heap.size, by first | rfl | (simp only [Act.put, List.setIfInBounds_toArray, List.set_cons_zero, List.set_cons_succ]), two_start hwA hne hl1 hl2 hth1 hth2 HS.out HS.out hS4⟩
        · go_simp
          have hth1 := trie_there V1 #[.int .u8 0, .int .u8 0, .int .u8 0, .int .u8 0, .int .u8 0, .int .u8 0, .int .u8 0, .int .u8 0, .int .u8 0, .int .u8 0, .int .u8 0, .int .u8 0, .int .u8 0, .int .u8 0, .int .u8 0, .int .u8 0, .nilIface] 30 rfl
          have hl1 : w1.heap.size ≤ V1.heap.size := hS1.size
          have hb2 : Below V1.heap.size V1 (V1.alloc (.cells #[.int .u8 0, .int .u8 0, .int .u8 0, .int .u8 0, .int .u8 0, .int .u8 0, .int .u8 0, .int .u8 0, .int .u8 0, .int .u8 0, .int .u8 0, .int .u8 0, .int .u8 0, .int .u8 0, .int .u8 0, .int .u8 0, .nilIface] 30)) := (Below.refl _ _).alloc (Nat.le_refl _) _
          have hne : V1.heap.size ≠ V0.heap.size := Nat.ne_of_gt (there_lt hth2)
          replace hth2 := there_same (hb2.block _ (there_lt hth2)) hth2
          generalize V1.alloc (.cells #[.int .u8 0, .int .u8 0, .int .u8 0, .int .u8 0, .int .u8 0, .int .u8 0, .int .u8 0, .int .u8 0, .int .u8 0, .int .u8 0, .int .u8 0, .int .u8 0, .int .u8 0, .int .u8 0, .int .u8 0, .int .u8 0, .nilIface] 30) = V2 at *
          refine hK.out _ _ (hS1.trans (hb2.mono hS1.size)) (fun hS2 => ?_)
          clear hK K
          try simp only [Act.put, List.setIfInBounds_toArray, List.set_cons_zero, List.set_cons_succ]
          refine wpAnyH_ready (rs := [1]) (by kernel_rfl) (by simp) (ready_cons (i := 1) rfl (by rfl) (fun K hK => ?_) AllReadyH.nil)
          go_simp
          refine (CN1.out V2).mono ?_
          rintro e V3 ⟨rfl, hb3⟩
          go_wp2_with fail
          refine hK.out _ _ (hS2.trans (hb3.mono hS2.size)) (fun hS3 => ?_)
          clear hK K
          try simp only [Act.put, List.setIfInBounds_toArray, List.set_cons_zero, List.set_cons_succ]
          replace hth1 := there_same (hb3.block _ (there_lt hth1)) hth1
          replace hth2 := there_same (hb3.block _ (there_lt hth2)) hth2
          refine wpAnyH_ready (rs := [3]) (by kernel_rfl) (by simp) (ready_cons (i := 3) rfl (by rfl) (fun K hK => ?_) AllReadyH.nil)
          go_simp
          refine (CN1.out V3).mono ?_
          rintro e V4 ⟨rfl, hb4⟩
          go_wp2_with fail
          refine hK.out _ _ (hS3.trans (hb4.mono hS3.size)) (fun hS4 => ?_)
          clear hK K
          try simp only [Act.put, List.setIfInBounds_toArray, List.set_cons_zero, List.set_cons_succ]
          replace hth1 := there_same (hb4.block _ (there_lt hth1)) hth1
          replace hth2 := there_same (hb4.block _ (there_lt hth2)) hth2
          refine ready_op (i := 6) rfl (by kernel_rfl) (by rfl) (fun K hK => ?_)
          refine wp_store_trie (s := s) (nv := .nilIface) rfl rfl rfl HS.out rfl hth1 ?_
          refine hK.out _ _ (World.below_setCells hl1 _ _ _ hS4) (fun hS5 => ?_)
          clear hK K
          simp only [Act.put]
          refine ready_op (i := 7) rfl (by kernel_rfl) (by rfl) (fun K hK => ?_)
          refine wp_store_trie (s := s) (nv := .nilIface) rfl rfl rfl HS.out rfl (there_same (World.other_setCells hne.symm _ _ _) hth2) ?_
          refine hK.out _ _ (World.below_setCells hl2 _ _ _ hS5) (fun hS6 => ?_)
          clear hK K
          simp only [Act.put]
          refine wpAnyH_done (by kernel_rfl) ?_ _
          exact ⟨rfl, V1.heap.size, V0.heap.size, by first | rfl | (simp only [Act.put, List.setIfInBounds_toArray, List.set_cons_zero, List.set_cons_succ]), two_start hwA hne hl1 hl2 hth1 hth2 HS.out HS.out hS4⟩
    rintro a' WA ⟨b1, b2, rfl, hTwo⟩
    simp only [Act.put, List.setIfInBounds_toArray, List.set_cons_zero, List.set_cons_succ]
    have H0 : Hid (CLoop1 s l w b1 b2 (.slice none 0 0) (.int .i64 0) WA) := Lib.hid ⟨0, _, _, _, _, [], Nat.zero_le _, rfl, hTwo, RowAt.nil, mapOk_nil, Nat.le_refl _⟩
    clear hTwo hwA HRA CN1
    go_wp2_with fail
    go_loopw [9, 35] (CLoop1 s l w b1 b2) (fun _ i _ => l.length - (intOf i).toNat)
    case atStart => exact H0.out
    case round =>
      obtain ⟨j, na, nb, oa, ob, x, hk, rfl, hTw, hMv, hMk, hml⟩ := hrel
      by_cases hlt : j < l.length
      · -- a call of the first list
        obtain ⟨b, off, u1, u2, rfl, hob, c0, c1, c2, hu, hv⟩ := op_get HR1.out (List.getElem?_eq_getElem hlt)
        obtain ⟨U1, cu1, rfl⟩ := hu.form
        obtain ⟨U2, cu2, rfl⟩ := hv.form
        have hB := hTw.hB
        have hbl := World.block_lt_of_cell? w _ c0
        dsimp only at hbl
        have d0 := (hB.cell (p := ⟨b, off + j * 3, none⟩) hbl).trans c0
        have d1 := (hB.cell (p := ⟨b, off + j * 3 + 1, none⟩) hbl).trans c1
        have d2 := (hB.cell (p := ⟨b, off + j * 3 + 2, none⟩) hbl).trans c2
        have hbl2 : b < wr.heap.size := Nat.lt_of_lt_of_le hbl hB.size
        have h0 : (0 : Int) ≤ (j : Int) := by omega
        have h1 : (j : Int) < (l.length : Int) := by omega
        have hq := HBY1.out l[j] (List.getElem_mem hlt)
        generalize l[j] = q at *
        obtain ⟨kd, qx, qy⟩ := q
        dsimp only at *
        obtain ⟨X, cx, rfl⟩ := hMv.form
        have hq' : qx.length ≤ 1048576 ∧ qy.length ≤ 1048576 := ⟨Nat.le_trans hq.1 (by decide), Nat.le_trans hq.2 (by decide)⟩
        obtain ⟨W1, hW1⟩ : ∃ W1, wr.alloc (.cells #[.int .i64 kd, .slice U1 qx.length cu1, .slice U2 qy.length cu2] 35) = W1 := ⟨_, rfl⟩
        have hb1 : Below wr.heap.size wr W1 := by rw [← hW1]; exact (Below.refl _ _).alloc (Nat.le_refl _) _
        have hox : W1.heap[wr.heap.size]? = some (.cells #[.int .i64 kd, .slice U1 qx.length cu1, .slice U2 qy.length cu2] 35 (0, 0)) := by rw [← hW1]; exact heap_alloc_new wr _
        have hs1 : wr.heap.size < W1.heap.size := by rw [← hW1]; simp
        have hT1 : TwoAt w b1 b2 s s x [] na nb oa ob W1 := hTw.below hb1
        have hM1 : SPairsAt (Not2 b1 b2) W1 (.slice X x.length cx) x := hMv.move goodSp (Moves.below hb1)
        have SO : Hid (∀ W : World, W.heap[wr.heap.size]? = W1.heap[wr.heap.size]? → W.cell? ⟨wr.heap.size, 0, none⟩ = some (.int .i64 kd) ∧ W.cell? ⟨wr.heap.size, 1, none⟩ = some (.slice U1 qx.length cu1) ∧ W.cell? ⟨wr.heap.size, 2, none⟩ = some (.slice U2 qy.length cu2)) := Lib.hid fun W hW =>
          have h := hW.trans hox
          ⟨(cell_of_row W wr.heap.size 0 _ _ (0, 0) h).trans rfl, (cell_of_row W wr.heap.size 1 _ _ (0, 0) h).trans rfl, (cell_of_row W wr.heap.size 2 _ _ (0, 0) h).trans rfl⟩
        have CS1 := Lib.hid (step_any (hT1.in1 (q := (qx, qy)) HS.out hMk hM1 hu hv hq' HTAB.out HSTA.out) kd)
        have HOK := Lib.hid (stepM_ok (e := (kd, (qx, qy))) hMk (by have := HL401.out; omega) hq'.1 hq'.2)
        have HLT := Lib.hid hlt; have HML := Lib.hid hml; have HT1 := Lib.hid hT1
        obtain ⟨M', hM'⟩ : ∃ M', stepM x (kd, (qx, qy)) = M' := ⟨_, rfl⟩
        simp only [hM'] at CS1 HOK
        clear hu hv c0 c1 c2 hTw hMv hMk hml hq hq' H0 hlt hb1 hox hs1 hT1 hM1 hB hM'
        obtain ⟨y0, y1, y2⟩ := SO.out W1 rfl
        go_wp2_with (first
          | (refine wpl_load_trie (x := .tmp 7) rfl rfl (b := b1) rfl HS.out HT1.out.t1 ?_; simp only [Act.put, List.setIfInBounds_toArray, List.set_cons_zero, List.set_cons_succ])
          | (go_at_call 10; (with_reducible refine CS1.out.mono ?_); rintro e w2 ⟨na2, oa2, xv2, cva, cca, rfl, hn2, hl2, hx2, _, _, _, ht2⟩; have hb2 := ht2.below; have hT2 := HT1.out.below hb2; have hone2 := one_node hn2; obtain ⟨WX, hWX⟩ : ∃ WX, w2.setCells b1 0 (trieL s na2) = WX := ⟨_, rfl⟩; have hTX := hT2.set1 HS.out hn2 hl2; rw [hWX] at hTX; have HTX := Lib.hid hTX; have HT2 := Lib.hid hT2; have HWX := Lib.hid hWX; have HMX : Hid (SPairsAt (Not2 b1 b2) WX xv2 M') := Lib.hid (by rw [← hWX]; exact hx2.move goodSp (moves_set1 b1 b2 w2 _)); clear hn2 hl2 hx2 ht2 hb2 hT2 hTX hWX; obtain ⟨z0, z1, z2⟩ : True ∧ True ∧ True := ⟨trivial, trivial, trivial⟩)
          | (refine wpl_store_trie (x := .tmp 7) (y := .tmp 44) (s := s) (nv := na2) rfl rfl (b := b1) rfl rfl HS.out hone2 HT2.out.t1.there ?_; simp only [HWX.out, Act.put]))
        exact ⟨⟨j + 1, na2, nb, oa2, ob, M', HLT.out, int_succ HLT.out HL1.out, HTX.out, HMX.out, HOK.out.1, Nat.le_trans HOK.out.2 (Nat.succ_le_succ HML.out)⟩, less_succ HLT.out HL1.out⟩
      · obtain rfl : j = l.length := by omega
        obtain ⟨X, cx, rfl⟩ := hMv.form
        have HX40 : Hid (x.length ≤ 40) := Lib.hid (by have := HL401.out; omega)
        have HMKX := Lib.hid hMk
        have H1 : Hid (CLoop2 s k w b1 b2 x (.slice X x.length cx) (.slice none 0 0) (.int .i64 0) wr) := Lib.hid ⟨0, _, _, _, _, [], Nat.zero_le _, rfl, hTw.flat2 hml hMk, RowAt.nil, mapOk_nil, Nat.le_refl _, hMv⟩
        clear hlt hk hml hTw hMv hMk H0
        go_wp2_with fail
        go_loopw [10, 50] (CLoop2 s k w b1 b2 x (.slice X x.length cx)) (fun _ i _ => k.length - (intOf i).toNat)
        case atStart => exact H1.out
        case round =>
          clear na nb oa ob
          obtain ⟨j, na, nb, oa, ob, y, hk, rfl, hTw, hMv, hMk, hml, hXv⟩ := hrel
          by_cases hlt : j < k.length
          · -- a call of the second list
            obtain ⟨b, off, u1, u2, rfl, hob, c0, c1, c2, hu, hv⟩ := op_get HR2.out (List.getElem?_eq_getElem hlt)
            obtain ⟨U1, cu1, rfl⟩ := hu.form
            obtain ⟨U2, cu2, rfl⟩ := hv.form
            have hB := hTw.hB
            have hbl := World.block_lt_of_cell? w _ c0
            dsimp only at hbl
            have d0 := (hB.cell (p := ⟨b, off + j * 3, none⟩) hbl).trans c0
            have d1 := (hB.cell (p := ⟨b, off + j * 3 + 1, none⟩) hbl).trans c1
            have d2 := (hB.cell (p := ⟨b, off + j * 3 + 2, none⟩) hbl).trans c2
            have hbl2 : b < wr.heap.size := Nat.lt_of_lt_of_le hbl hB.size
            have h0 : (0 : Int) ≤ (j : Int) := by omega
            have h1 : (j : Int) < (k.length : Int) := by omega
            have hq := HBY2.out k[j] (List.getElem_mem hlt)
            generalize k[j] = q at *
            obtain ⟨kd, qx, qy⟩ := q
            dsimp only at *
            obtain ⟨Y, cy, rfl⟩ := hMv.form
            have hq' : qx.length ≤ 1048576 ∧ qy.length ≤ 1048576 := ⟨Nat.le_trans hq.1 (by decide), Nat.le_trans hq.2 (by decide)⟩
            obtain ⟨W1, hW1⟩ : ∃ W1, wr.alloc (.cells #[.int .i64 kd, .slice U1 qx.length cu1, .slice U2 qy.length cu2] 35) = W1 := ⟨_, rfl⟩
            have hb1 : Below wr.heap.size wr W1 := by rw [← hW1]; exact (Below.refl _ _).alloc (Nat.le_refl _) _
            have hox : W1.heap[wr.heap.size]? = some (.cells #[.int .i64 kd, .slice U1 qx.length cu1, .slice U2 qy.length cu2] 35 (0, 0)) := by rw [← hW1]; exact heap_alloc_new wr _
            have hs1 : wr.heap.size < W1.heap.size := by rw [← hW1]; simp
            have hT1 : TwoAt w b1 b2 s s x y na nb oa ob W1 := hTw.below hb1
            have hM1 : SPairsAt (Not2 b1 b2) W1 (.slice Y y.length cy) y := hMv.move goodSp (Moves.below hb1)
            have SO : Hid (∀ W : World, W.heap[wr.heap.size]? = W1.heap[wr.heap.size]? → W.cell? ⟨wr.heap.size, 0, none⟩ = some (.int .i64 kd) ∧ W.cell? ⟨wr.heap.size, 1, none⟩ = some (.slice U1 qx.length cu1) ∧ W.cell? ⟨wr.heap.size, 2, none⟩ = some (.slice U2 qy.length cu2)) := Lib.hid fun W hW =>
              have h := hW.trans hox
              ⟨(cell_of_row W wr.heap.size 0 _ _ (0, 0) h).trans rfl, (cell_of_row W wr.heap.size 1 _ _ (0, 0) h).trans rfl, (cell_of_row W wr.heap.size 2 _ _ (0, 0) h).trans rfl⟩
            have CS1 := Lib.hid (step_any (hT1.in2 (q := (qx, qy)) HS.out hMk hM1 hu hv hq' HTAB.out HSTA.out) kd)
            have HOK := Lib.hid (stepM_ok (e := (kd, (qx, qy))) hMk (by have := HL402.out; omega) hq'.1 hq'.2)
            have HLT := Lib.hid hlt; have HML := Lib.hid hml; have HT1 := Lib.hid hT1
            obtain ⟨M', hM'⟩ : ∃ M', stepM y (kd, (qx, qy)) = M' := ⟨_, rfl⟩
            simp only [hM'] at CS1 HOK
            have HXV := Lib.hid (hXv.move goodSp (Moves.below hb1)); clear hXv
            clear hu hv c0 c1 c2 hTw hMv hMk hml hq hq' H1 hlt hb1 hox hs1 hT1 hM1 hB hM'
            obtain ⟨y0, y1, y2⟩ := SO.out W1 rfl
            go_wp2_with (first
              | (refine wpl_load_trie (x := .tmp 8) rfl rfl (b := b2) rfl HS.out HT1.out.t2 ?_; simp only [Act.put, List.setIfInBounds_toArray, List.set_cons_zero, List.set_cons_succ])
              | (go_at_call 10; (with_reducible refine CS1.out.mono ?_); rintro e w2 ⟨na2, oa2, xv2, cva, cca, rfl, hn2, hl2, hx2, _, _, _, ht2⟩; have hb2 := ht2.below; have hT2 := HT1.out.below hb2; have hone2 := one_node hn2; obtain ⟨WX, hWX⟩ : ∃ WX, w2.setCells b2 0 (trieL s na2) = WX := ⟨_, rfl⟩; have hTX := hT2.set2 HS.out hn2 hl2; rw [hWX] at hTX; have HTX := Lib.hid hTX; have HT2 := Lib.hid hT2; have HWX := Lib.hid hWX; have HMX : Hid (SPairsAt (Not2 b1 b2) WX xv2 M') := Lib.hid (by rw [← hWX]; exact hx2.move goodSp (moves_set2 b1 b2 w2 _)); have HXX : Hid (SPairsAt (Not2 b1 b2) WX (.slice X x.length cx) x) := Lib.hid (by rw [← hWX]; exact (HXV.out.move goodSp (Moves.below hb2)).move goodSp (moves_set2 b1 b2 w2 _)); clear hn2 hl2 hx2 ht2 hb2 hT2 hTX hWX; obtain ⟨z0, z1, z2⟩ : True ∧ True ∧ True := ⟨trivial, trivial, trivial⟩)
              | (refine wpl_store_trie (x := .tmp 8) (y := .tmp 59) (s := s) (nv := na2) rfl rfl (b := b2) rfl rfl HS.out hone2 HT2.out.t2.there ?_; simp only [HWX.out, Act.put]))
            exact ⟨⟨j + 1, na, na2, oa, oa2, M', HLT.out, int_succ HLT.out HL2.out, HTX.out, HMX.out, HOK.out.1, Nat.le_trans HOK.out.2 (Nat.succ_le_succ HML.out), HXX.out⟩, less_succ HLT.out HL2.out⟩
          · obtain rfl : j = k.length := by omega
            obtain ⟨Y, cy, rfl⟩ := hMv.form
            have HY40 : Hid (y.length ≤ 40) := Lib.hid (by have := HL402.out; omega)
            have HY1 : Hid (y.length ≤ 1048576) := Lib.hid (by have := HL402.out; omega)
            have HYM := Lib.hid hMk
            have H2 : Hid (CLoop3 s w b1 b2 x y (.slice X x.length cx) (.slice Y y.length cy) (.int .i64 0) wr) := Lib.hid ⟨0, _, _, _, _, y, Nat.zero_le _, rfl, hTw, hMv, hMk, Bw.cut1_start x y, HY40.out, hXv⟩
            clear hlt hk hml hTw hMv hMk hXv H1
            go_wp2_with fail
            go_loopw [65] (CLoop3 s w b1 b2 x y (.slice X x.length cx) (.slice Y y.length cy)) (fun i _ => y.length - (intOf i).toNat)
            case atStart => exact H2.out
            case round =>
              clear na nb oa ob
              obtain ⟨j, na, nb, oa, ob, M, hk, rfl, hTw, hYv, hMk, hcut, hM40, hXv⟩ := hrel
              by_cases hlt : j < y.length
              · obtain ⟨b, o, rfl, hob, c0, c1⟩ := sp_get hYv (List.getElem?_eq_getElem hlt)
                have hbl := World.block_lt_of_cell? wr _ c0
                dsimp only at hbl
                have h0 : (0 : Int) ≤ (j : Int) := by omega
                have h1 : (j : Int) < (y.length : Int) := by omega
                have hin := fun h => Bw.cut1_in (M := M) hcut hlt h
                have hout := Bw.cut1_out hcut hlt
                have hgs := Bw.get_isSome (m := x) (k := y[j].1)
                have hqb := HYM.out.bytes y[j] (List.getElem_mem hlt)
                generalize y[j] = q at *
                obtain ⟨qx, qy⟩ := q
                simp only [str] at c0 c1
                dsimp only at hin hout hgs hqb
                obtain ⟨W1, hW1⟩ : ∃ W1, wr.alloc (.cells #[.string ⟨qx.toArray⟩, .string ⟨qy.toArray⟩] 55) = W1 := ⟨_, rfl⟩
                have hb1 : Below wr.heap.size wr W1 := by rw [← hW1]; exact (Below.refl _ _).alloc (Nat.le_refl _) _
                have hbx : W1.heap[wr.heap.size]? = some (.cells #[.string ⟨qx.toArray⟩, .string ⟨qy.toArray⟩] 55 (0, 0)) := by rw [← hW1]; exact heap_alloc_new wr _
                have hs1 : wr.heap.size < W1.heap.size := by rw [← hW1]; simp
                have SK : Hid (∀ W, Below W1.heap.size W1 W → W.cell? ⟨wr.heap.size, 0, none⟩ = some (.string ⟨qx.toArray⟩)) := Lib.hid fun W hW => (cell_of_row W wr.heap.size 0 _ _ (0, 0) ((hW.block _ hs1).trans hbx)).trans rfl
                have hT1 := hTw.below hb1
                have CG := Lib.hid (rget_any (ok := Not2 b1 b2) (key := qx) (m := x) (w := W1) (by have := HX40.out; omega) (hXv.move goodSp (Moves.below hb1)))
                simp only [getV, str] at CG
                have CD := Lib.hid (fun (W : World) (hW : Below W1.heap.size W1 W) (u : Value) (hu : BytesAt AllB W u qx) => tdelete_trie (ok := Not2 b1 b2) (okb := AllB) (mb := none) (c := (0, 0)) (mv := .pointer none) HS.out hMk ((hT1.below hW).n2) hT1.y2 hu hqb.1 rfl (fun _ _ e => by cases e) (fun _ _ e => by cases e) (fun e => by cases e)
                  (fun k hk => ⟨by have := (hT1.below hW).t1.lt; omega, by have := (hT1.below hW).t2.lt; omega⟩) (HTAB.out.below HTAB.out.pos (hT1.below hW).hB) (HSTA.out.below HSTA.out.pos (hT1.below hW).hB) (by decide))
                have HT1 := Lib.hid hT1; have HLT := Lib.hid hlt
                have HYV := Lib.hid (hYv.move goodSp (Moves.below hb1)); have HXV := Lib.hid (hXv.move goodSp (Moves.below hb1))
                have HM40 := Lib.hid hM40; have HIN := Lib.hid hin; have HOUT := Lib.hid hout; have HGS := Lib.hid hgs; have HMO := Lib.hid (hMk.without qx); have HMK := Lib.hid hMk
                have HQX : Hid (qx.length ≤ maxLen) := Lib.hid (Nat.le_trans hqb.1 (by decide))
                generalize (Bw.get x qx).isSome = gb at *
                generalize (Bw.get x qx).getD [] = gs at *
                have hz := SK.out W1 (Below.refl _ _)
                clear hYv hXv hMk hcut hM40 hTw hb1 hbx hs1 hT1 hin hout hgs hqb hlt H2 hk
                cases gb with
                | true =>
                  go_wp2_with (first
                    | (go_at_call 17; (with_reducible refine CG.out.mono ?_); rintro e w2 ⟨rfl, hb2⟩))
                  exact ⟨⟨j + 1, na, nb, oa, ob, M, HLT.out, int_succ HLT.out HY1.out, HT1.out.below hb2, HYV.out.move goodSp (Moves.below hb2), HMK.out, HIN.out (HGS.out.1 (by first | rfl | trivial)), HM40.out, HXV.out.move goodSp (Moves.below hb2)⟩, less_succ HLT.out HY1.out⟩
                | false =>
                  go_wp2_with (first
                    | (go_at_call 17; (with_reducible refine CG.out.mono ?_); rintro e w2 ⟨rfl, hb2⟩; have hz2 := SK.out w2 hb2; have hT2 := HT1.out.below hb2)
                    | (refine wpl_load_trie (x := .tmp 8) rfl rfl (b := b2) rfl HS.out hT2.t2 ?_; simp only [Act.put, List.setIfInBounds_toArray, List.set_cons_zero, List.set_cons_succ])
                    | (refine wpl_unconv (l := qx) rfl rfl rfl HQX.out ?_; intro v3 w3 hv3 hb3; obtain ⟨A3, c3, rfl⟩ := hv3.form; have hb13 := hb2.trans (hb3.mono hb2.size); have CD3 := CD.out w3 hb13 _ (hv3.move (ok' := AllB) goodByte (Moves.weaken fun _ _ _ => trivial)); simp only [Act.put, List.setIfInBounds_toArray, List.set_cons_zero, List.set_cons_succ])
                    | (go_at_call 18; (with_reducible refine CD3.mono ?_); rintro e w4 ⟨nv4, o4, rfl, hn4, hl4, _, ht4⟩; have hb14 := hb13.trans (ht4.below.mono hb13.size); have hT4 := HT1.out.below hb14; have hone4 := one_node hn4; obtain ⟨WX, hWX⟩ : ∃ WX, w4.setCells b2 0 (trieL s nv4) = WX := ⟨_, rfl⟩; have hTX := hT4.set2 HS.out hn4 hl4; rw [hWX] at hTX)
                    | (refine wpl_store_trie (x := .tmp 8) (y := .tmp 84) (s := s) (nv := nv4) rfl rfl (b := b2) rfl rfl HS.out hone4 hT4.t2.there ?_; simp only [hWX, Act.put]))
                  exact ⟨⟨j + 1, na, nv4, oa, o4, _, HLT.out, int_succ HLT.out HY1.out, hTX, by rw [← hWX]; exact (HYV.out.move goodSp (Moves.below hb14)).move goodSp (moves_set2 b1 b2 w4 _), HMO.out, HOUT.out, Nat.le_trans (List.length_filter_le _ _) HM40.out, by rw [← hWX]; exact (HXV.out.move goodSp (Moves.below hb14)).move goodSp (moves_set2 b1 b2 w4 _)⟩, less_succ HLT.out HY1.out⟩
              · obtain rfl : j = y.length := by omega
                have HX1 : Hid (wrap64 ((x.length : Int) - 1) = (x.length : Int) - 1) := Lib.hid (by have := HX40.out; unfold wrap64; omega)
                have H3 : Hid (CLoop4 s w b1 b2 x (.slice X x.length cx) (.int .i64 ((x.length : Int) - 1)) wr) := Lib.hid ⟨x.length, _, _, _, _, M, Nat.le_refl _, rfl, hTw, hMk, Bw.put1_start (Bw.cut1_end hcut), by have := HX40.out; omega, hXv⟩
                clear hlt hk hTw hYv hMk hcut hM40 hXv H2
                go_wp2_with fail
                rw [HX1.out]
                go_loopw [19] (CLoop4 s w b1 b2 x (.slice X x.length cx)) (fun i _ => (intOf i + 1).toNat)
                case atStart => exact H3.out
                case round =>
                  clear na nb oa ob M
                  obtain ⟨j, na, nb, oa, ob, M, hk, rfl, hTw, hMk, hput, hM80, hXv⟩ := hrel
                  cases j with
                  | zero =>
                    have e0 : (((0 : Nat) : Int) - 1) = -1 := by omega
                    rw [e0]
                    obtain rfl := Bw.put1_end HMKX.out.rises hMk.rises hput
                    have HTW := Lib.hid hTw
                    have hxl : M.length ≤ 1048576 := by have := HX40.out; omega
                    have HF : Hid (∀ k, Bw.sipHash s k < 18446744073709551616) := Lib.hid fun k => Bw.sipHash_lt s k
                    have CR1 := Lib.hid (fun W => troot_any (nv := na) HS.out W); have CR2 := Lib.hid (fun W => troot_any (nv := nb) HS.out W)
                    have CLS := Lib.hid (fun (W : World) (hW : Below wr.heap.size wr W) => lsame_any (HTW.out.below hW).n1 (HTW.out.below hW).n2 (ents_slim HF.out hMk (by have := HX40.out; omega) HTW.out.y1) (ents_slim HF.out hMk (by have := HX40.out; omega) HTW.out.y2) (HTAB.out.below HTAB.out.pos (HTW.out.below hW).hB))
                    rw [ents_same HF.out hMk HTW.out.y1 HTW.out.y2] at CLS
                    have CP2 := Lib.hid (fun (W : World) (hW : Below wr.heap.size wr W) => tpairs_any HS.out hMk hxl (HTW.out.below hW).n2 HTW.out.y2)
                    have CIS := Lib.hid (fun (W : World) (q : Value) (ok : Nat → Prop) (hq : PairsAt ok W q M) (hW : Below wr.heap.size wr W) => (ris_any (w := W) hxl hq (hXv.move goodSp (Moves.below hW))).mono (R' := fun e w' => e = .returned (.bool true) ∧ Below W.heap.size W w') (fun e w' ⟨he, n, hn⟩ => ⟨by rw [he]; simp, by rw [hn]; exact b_drewN (Below.refl _ _) n⟩))
                    have hnf1 := onode_form hTw.n1
                    have hnf2 := onode_form hTw.n2
                    have hbd : Below wr.heap.size wr wr.drew := by (repeat (first | exact Below.refl _ _ | with_reducible assumption | refine Below.drew ?_ | refine b_drewN ?_ _ | (refine Below.alloc ?_ (by first | omega | (simp <;> omega)) _)))
                    have hS0 := hbd
                    clear hTw hMk hput hM80 hXv hk e0 H3
                    go_wp2_with fail
                    refine wp_region_held_drew (S := fun W => Below wr.heap.size wr W) (by kernel_rfl) hS0 (fun _ => ?_)
                    generalize wr.drew = V0 at *
                    refine take_op (i := 0) rfl (by kernel_rfl) (by kernel_rfl) (by kernel_rfl) (fun _ _ _ h => h) (yieldsIf_load_trie (x := .tmp 7) (b := b1) (by rfl) rfl rfl HS.out (fun w h => (HTW.out.below h).t1)) hS0 ?_
                    simp only [Act.put, List.setIfInBounds_toArray, List.set_cons_zero, List.set_cons_succ]
                    refine take_op (i := 2) rfl (by kernel_rfl) (by kernel_rfl) (by kernel_rfl) (fun _ _ _ h => h) (yieldsIf_load_trie (x := .tmp 8) (b := b2) (by rfl) rfl rfl HS.out (fun w h => (HTW.out.below h).t2)) hS0 ?_
                    simp only [Act.put, List.setIfInBounds_toArray, List.set_cons_zero, List.set_cons_succ]
                    refine ready_op (i := 1) rfl (by kernel_rfl) (by rfl) (fun K hK => ?_)
                    go_simp
                    refine (CR1.out V0).mono ?_
                    rintro e V1 ⟨rfl, hb1⟩
                    go_wp2_with fail
                    refine hK.out _ _ (hS0.trans (Below.mono hb1 hS0.size)) (fun hS1 => ?_)
                    clear hK K
                    try simp only [Act.put, List.setIfInBounds_toArray, List.set_cons_zero, List.set_cons_succ]
                    refine ready_op (i := 3) rfl (by kernel_rfl) (by rfl) (fun K hK => ?_)
                    go_simp
                    refine (CR2.out V1).mono ?_
                    rintro e V2 ⟨rfl, hb2⟩
                    go_wp2_with fail
                    refine hK.out _ _ (hS1.trans (Below.mono hb2 hS1.size)) (fun hS2 => ?_)
                    clear hK K
                    try simp only [Act.put, List.setIfInBounds_toArray, List.set_cons_zero, List.set_cons_succ]
                    refine ready_op (i := 4) rfl (by kernel_rfl) (by rfl) (fun K hK => ?_)
                    go_simp
                    refine (CLS.out V2 hS2).mono ?_
                    rintro e V3 ⟨rfl, hb3⟩
                    go_wp2_with fail
                    refine hK.out _ _ (hS2.trans (Below.mono hb3 hS2.size)) (fun hS3 => ?_)
                    clear hK K
                    try simp only [Act.put, List.setIfInBounds_toArray, List.set_cons_zero, List.set_cons_succ]
                    refine take_op (i := 5) (v := .bool true) rfl (by kernel_rfl) (by kernel_rfl) (by kernel_rfl) (fun _ _ _ h => h) (Or.inl ⟨by rfl, fun w hw => by go_simp⟩) hS3 ?_
                    simp only [Act.put, List.setIfInBounds_toArray, List.set_cons_zero, List.set_cons_succ]
                    refine take_op (i := 6) rfl (by kernel_rfl) (by kernel_rfl) (by kernel_rfl) (fun _ _ _ h => h) (yieldsIf_load_trie (x := .tmp 8) (b := b2) (by rfl) rfl rfl HS.out (fun w h => (HTW.out.below h).t2)) hS3 ?_
                    simp only [Act.put, List.setIfInBounds_toArray, List.set_cons_zero, List.set_cons_succ]
                    refine take_op (i := 8) (v := .slice X M.length cx) rfl (by kernel_rfl) (by kernel_rfl) (by kernel_rfl) (fun _ _ _ h => h) (Or.inl ⟨by rfl, fun w hw => by go_simp⟩) hS3 ?_
                    simp only [Act.put, List.setIfInBounds_toArray, List.set_cons_zero, List.set_cons_succ]
                    refine ready_op (i := 7) rfl (by kernel_rfl) (by rfl) (fun K hK => ?_)
                    go_simp
                    refine (CP2.out V3 hS3).mono ?_
                    rintro e V4 ⟨q4, rfl, hq4, hb4⟩
                    go_wp2_with fail
                    refine hK.out _ _ (hS3.trans (Below.mono hb4 hS3.size)) (fun hS4 => ?_)
                    clear hK K
                    try simp only [Act.put, List.setIfInBounds_toArray, List.set_cons_zero, List.set_cons_succ]
                    refine ready_op (i := 9) rfl (by kernel_rfl) (by rfl) (fun K hK => ?_)
                    go_simp
                    refine (CIS.out V4 _ _ hq4 hS4).mono ?_
                    rintro e V5 ⟨rfl, hb5⟩
                    go_wp2_with fail
                    refine hK.out _ _ (hS4.trans (Below.mono hb5 hS4.size)) (fun hS5 => ?_)
                    clear hK K
                    try simp only [Act.put, List.setIfInBounds_toArray, List.set_cons_zero, List.set_cons_succ]
                    refine take_op (i := 10) (v := .bool true) rfl (by kernel_rfl) (by kernel_rfl) (by kernel_rfl) (fun _ _ _ h => h) (Or.inl ⟨by rfl, fun w hw => by go_simp⟩) hS5 ?_
                    simp only [Act.put, List.setIfInBounds_toArray, List.set_cons_zero, List.set_cons_succ]
                    refine take_op (i := 11) (v := .bool true) rfl (by kernel_rfl) (by kernel_rfl) (by kernel_rfl) (fun _ _ _ h => h) (Or.inl ⟨by rfl, fun w hw => by go_simp⟩) hS5 ?_
                    simp only [Act.put, List.setIfInBounds_toArray, List.set_cons_zero, List.set_cons_succ]
                    refine ready_op (i := 12) rfl (by kernel_rfl) (by rfl) (fun K hK => ?_)
                    go_simp
                    refine (CA.out V5 (HTW.out.hB.trans (hS5.mono HTW.out.hB.size))).mono ?_
                    rintro e V6 ⟨rfl, hb6⟩
                    go_wp2_with fail
                    refine hK.out _ _ (hS5.trans (Below.mono hb6 hS5.size)) (fun hS6 => ?_)
                    clear hK K
                    try simp only [Act.put, List.setIfInBounds_toArray, List.set_cons_zero, List.set_cons_succ]
                    refine take_op (i := 13) (v := .bool true) rfl (by kernel_rfl) (by kernel_rfl) (by kernel_rfl) (fun _ _ _ h => h) (Or.inl ⟨by rfl, fun w hw => by go_simp⟩) hS6 ?_
                    simp only [Act.put, List.setIfInBounds_toArray, List.set_cons_zero, List.set_cons_succ]
                    refine take_op (i := 14) (v := .bool true) rfl (by kernel_rfl) (by kernel_rfl) (by kernel_rfl) (fun _ _ _ h => h) (Or.inl ⟨by rfl, fun w hw => by go_simp⟩) hS6 ?_
                    simp only [Act.put, List.setIfInBounds_toArray, List.set_cons_zero, List.set_cons_succ]
                    refine wpAnyH_done (by kernel_rfl) ?_ _
                    go_wp2_with fail
                    go_ret
                    exact ⟨rfl, HTW.out.hB.trans (hS6.mono HTW.out.hB.size)⟩
                  | succ j =>
                    have e1 : (((j + 1 : Nat) : Int) - 1) = (j : Int) := by omega
                    rw [e1]
                    have hlt : j < x.length := by omega
                    obtain ⟨b, o, rfl, hob, c0, c1⟩ := sp_get hXv (List.getElem?_eq_getElem hlt)
                    have hbl := World.block_lt_of_cell? wr _ c0
                    dsimp only at hbl
                    have h0 : (0 : Int) ≤ (j : Int) := by omega
                    have h1 : (j : Int) < (x.length : Int) := by omega
                    have hstep := Bw.put1_step HMKX.out.rises hMk.rises hlt hput
                    have hqb := HMKX.out.bytes x[j] (List.getElem_mem hlt)
                    have hmp := (stepM_ok (m := M) (e := (1, x[j])) hMk (by omega) hqb.1 hqb.2)
                    have hmp1 : MapOk (Bw.put M x[j]) ∧ (Bw.put M x[j]).length + j ≤ 80 := ⟨hmp.1, by have := hmp.2; unfold stepM at this; simp only [if_true] at this; omega⟩
                    clear hmp
                    generalize x[j] = q at *
                    obtain ⟨qx, qy⟩ := q
                    simp only [str] at c0 c1
                    dsimp only at hqb
                    have HTW := Lib.hid hTw
                    have CP := (fun (W : World) (hW : Below wr.heap.size wr W) (u v : Value) (hu : BytesAt AllB W u qx) (hv : BytesAt AllB W v qy) => tput_trie (ok := Not2 b1 b2) (okb := AllB) (mb := none) (p := (qx, qy)) (c := (0, 0)) (mv := .pointer none) HS.out hMk ((hTw.below hW).n2) hTw.y2 hu hv hqb rfl (fun _ _ e => by cases e) (fun _ _ e => by cases e) (fun e => by cases e)
                      (fun k hk => ⟨by have := (hTw.below hW).t1.lt; omega, by have := (hTw.below hW).t2.lt; omega⟩) (HTAB.out.below HTAB.out.pos (hTw.below hW).hB) (HSTA.out.below HSTA.out.pos (hTw.below hW).hB) (by decide))
                    dsimp only at CP
                    generalize (!(Bw.get M qx).isSome) = fb at CP
                    have CP := Lib.hid CP
                    have HXV := Lib.hid hXv; have HMP := Lib.hid hmp1; have HST := Lib.hid hstep
                    have HQX : Hid (qx.length ≤ maxLen) := Lib.hid (Nat.le_trans hqb.1 (by decide))
                    have HQY : Hid (qy.length ≤ maxLen) := Lib.hid (Nat.le_trans hqb.2 (by decide))
                    have HKJ : Hid (j ≤ x.length) := Lib.hid (by omega)
                    have HW8 : Hid (wrap64 ((j : Int) - 1) = (j : Int) - 1) := Lib.hid (by have := HX40.out; unfold wrap64; omega)
                    have hB0 : Below wr.heap.size wr wr.drew := by (repeat (first | exact Below.refl _ _ | with_reducible assumption | refine Below.drew ?_ | refine b_drewN ?_ _ | (refine Below.alloc ?_ (by first | omega | (simp <;> omega)) _)))
                    have hS0 : Keeps wr b2 wr.drew := (Keeps.refl _ _).below hB0
                    have hnb := hob.2
                    clear hTw hMk hput hM80 hXv hk hmp1 hstep hqb hlt H3 hob
                    go_wp2_with fail
                    refine wp_region_held_drew (S := Keeps wr b2) (by kernel_rfl) hS0 (fun _ => ?_)
                    generalize wr.drew = V0 at *
                    refine take_op (i := 1) (v := .slice (some ⟨b, o, none⟩) x.length cx) rfl (by kernel_rfl) (by kernel_rfl) (by kernel_rfl) (fun _ _ _ h => h) (Or.inl ⟨by rfl, fun w hw => by go_simp⟩) hS0 ?_
                    simp only [Act.put, List.setIfInBounds_toArray, List.set_cons_zero, List.set_cons_succ]
                    refine take_op (i := 2) (v := .int .i64 (j : Nat)) rfl (by kernel_rfl) (by kernel_rfl) (by kernel_rfl) (fun _ _ _ h => h) (Or.inl ⟨by rfl, fun w hw => by go_simp⟩) hS0 ?_
                    simp only [Act.put, List.setIfInBounds_toArray, List.set_cons_zero, List.set_cons_succ]
                    refine take_op (i := 3) (v := .pointer (some ⟨b, o + j * 2, none⟩)) rfl (by kernel_rfl) (by kernel_rfl) (by kernel_rfl) (fun _ _ _ h => h) (Or.inl ⟨by rfl, fun w hw => by go_simp⟩) hS0 ?_
                    simp only [Act.put, List.setIfInBounds_toArray, List.set_cons_zero, List.set_cons_succ]
                    refine take_op (i := 4) (v := .pointer (some ⟨b, o + j * 2, none⟩)) rfl (by kernel_rfl) (by kernel_rfl) (by kernel_rfl) (fun _ _ _ h => h) (Or.inl ⟨by rfl, fun w hw => by go_simp⟩) hS0 ?_
                    simp only [Act.put, List.setIfInBounds_toArray, List.set_cons_zero, List.set_cons_succ]
                    refine take_op (i := 5) (v := .string ⟨qx.toArray⟩) rfl (by kernel_rfl) (by kernel_rfl) (by kernel_rfl) (fun _ _ _ h => h) (Or.inl ⟨by rfl, fun w hw => by have c := (World.cell?_of_block (hw b hbl hnb)).trans c0; go_simp⟩) hS0 ?_
                    simp only [Act.put, List.setIfInBounds_toArray, List.set_cons_zero, List.set_cons_succ]
                    refine take_op (i := 7) (v := .slice (some ⟨b, o, none⟩) x.length cx) rfl (by kernel_rfl) (by kernel_rfl) (by kernel_rfl) (fun _ _ _ h => h) (Or.inl ⟨by rfl, fun w hw => by go_simp⟩) hS0 ?_
                    simp only [Act.put, List.setIfInBounds_toArray, List.set_cons_zero, List.set_cons_succ]
                    refine take_op (i := 8) (v := .int .i64 (j : Nat)) rfl (by kernel_rfl) (by kernel_rfl) (by kernel_rfl) (fun _ _ _ h => h) (Or.inl ⟨by rfl, fun w hw => by go_simp⟩) hS0 ?_
                    simp only [Act.put, List.setIfInBounds_toArray, List.set_cons_zero, List.set_cons_succ]
                    refine take_op (i := 9) (v := .pointer (some ⟨b, o + j * 2, none⟩)) rfl (by kernel_rfl) (by kernel_rfl) (by kernel_rfl) (fun _ _ _ h => h) (Or.inl ⟨by rfl, fun w hw => by go_simp⟩) hS0 ?_
                    simp only [Act.put, List.setIfInBounds_toArray, List.set_cons_zero, List.set_cons_succ]
                    refine take_op (i := 10) (v := .pointer (some ⟨b, o + j * 2 + 1, none⟩)) rfl (by kernel_rfl) (by kernel_rfl) (by kernel_rfl) (fun _ _ _ h => h) (Or.inl ⟨by rfl, fun w hw => by go_simp⟩) hS0 ?_
                    simp only [Act.put, List.setIfInBounds_toArray, List.set_cons_zero, List.set_cons_succ]
                    refine take_op (i := 11) (v := .string ⟨qy.toArray⟩) rfl (by kernel_rfl) (by kernel_rfl) (by kernel_rfl) (fun _ _ _ h => h) (Or.inl ⟨by rfl, fun w hw => by have c := (World.cell?_of_block (hw b hbl hnb)).trans c1; go_simp⟩) hS0 ?_
                    simp only [Act.put, List.setIfInBounds_toArray, List.set_cons_zero, List.set_cons_succ]
                    refine wpAnyH_ready (rs := [0, 6, 12]) (by kernel_rfl) (by simp) ((ready_cons (i := 0) rfl (by rfl) (fun K hK => ?_) (ready_cons (i := 6) rfl (by rfl) (fun K hK => ?_) (ready_cons (i := 12) rfl (by rfl) (fun K hK => ?_) AllReadyH.nil))))
                    · refine wpl_load1_trie (x := .tmp 8) rfl rfl HS.out (HTW.out.below hB0).t2 ?_
                      refine hK.out _ _ hS0 (fun hS1 => ?_)
                      clear hK K
                      simp only [Act.put, List.setIfInBounds_toArray, List.set_cons_zero, List.set_cons_succ]
                      refine wpAnyH_ready (rs := [6, 12]) (by kernel_rfl) (by simp) ((ready_cons (i := 6) rfl (by rfl) (fun K hK => ?_) (ready_cons (i := 12) rfl (by rfl) (fun K hK => ?_) AllReadyH.nil)))
                      · refine wp_unconv (l := qx) rfl rfl HQX.out ?_
                        rintro v1 V2 hv1 hb2
                        obtain ⟨A1, c1', rfl⟩ := hv1.form
                        refine hK.out _ _ (hS1.below (hb2.mono hB0.size)) (fun hS2 => ?_)
                        clear hK K
                        simp only [Act.put, List.setIfInBounds_toArray, List.set_cons_zero, List.set_cons_succ]
                        have hB2 := hB0.trans (hb2.mono hB0.size)
                        have hu1 : BytesAt AllB V2 (.slice A1 qx.length c1') qx := hv1.move goodByte (Moves.weaken fun _ _ _ => trivial)
                        refine wpAnyH_ready (rs := [12]) (by kernel_rfl) (by simp) (ready_cons (i := 12) rfl (by rfl) (fun K hK => ?_) AllReadyH.nil)
                        refine wp_unconv (l := qy) rfl rfl HQY.out ?_
                        rintro v2 V3 hv2 hb3
                        obtain ⟨A2, c2', rfl⟩ := hv2.form
                        refine hK.out _ _ (hS2.below (hb3.mono hB2.size)) (fun hS3 => ?_)
                        clear hK K
                        simp only [Act.put, List.setIfInBounds_toArray, List.set_cons_zero, List.set_cons_succ]
                        have hB3 := hB2.trans (hb3.mono hB2.size)
                        replace hu1 := hu1.move goodByte (Moves.below hb3)
                        have hu2 : BytesAt AllB V3 (.slice A2 qy.length c2') qy := hv2.move goodByte (Moves.weaken fun _ _ _ => trivial)
                        refine take_op (i := 13) (v := .agg #[.slice A1 qx.length c1', .slice A2 qy.length c2']) rfl (by kernel_rfl) (by kernel_rfl) (by kernel_rfl) (fun _ _ _ h => h) (Or.inl ⟨by rfl, fun w hw => by go_simp⟩) hS3 ?_
                        simp only [Act.put, List.setIfInBounds_toArray, List.set_cons_zero, List.set_cons_succ]
                        refine wpAnyH_ready (rs := [14]) (by kernel_rfl) (by simp) (ready_cons (i := 14) rfl (by rfl) (fun K hK => ?_) AllReadyH.nil)
                        go_simp
                        refine (CP.out V3 hB3 _ _ hu1 hu2).mono ?_
                        rintro e V4 ⟨nv5, n5, rfl, hn5, hl5, _, ht5⟩
                        have hb4 := ht5.below
                        have hone5 := one_node (o := some n5) hn5
                        go_wp2_with fail
                        refine hK.out _ _ (hS3.below (hb4.mono hB3.size)) (fun hS4 => ?_)
                        clear hK K
                        try simp only [Act.put, List.setIfInBounds_toArray, List.set_cons_zero, List.set_cons_succ]
                        have hB4 := hB3.trans (hb4.mono hB3.size)
                        have hT5 := HTW.out.below hB4
                        refine take_op (i := 15) (v := .tuple #[trieV s nv5, .bool fb]) rfl (by kernel_rfl) (by kernel_rfl) (by kernel_rfl) (fun _ _ _ h => h) (Or.inl ⟨by rfl, fun w hw => by go_simp⟩) hS4 ?_
                        simp only [Act.put, List.setIfInBounds_toArray, List.set_cons_zero, List.set_cons_succ]
                        refine take_op (i := 16) (v := trieV s nv5) rfl (by kernel_rfl) (by kernel_rfl) (by kernel_rfl) (fun _ _ _ h => h) (Or.inl ⟨by rfl, fun w hw => by go_simp⟩) hS4 ?_
                        simp only [Act.put, List.setIfInBounds_toArray, List.set_cons_zero, List.set_cons_succ]
                        refine take_op (i := 17) (v := .bool fb) rfl (by kernel_rfl) (by kernel_rfl) (by kernel_rfl) (fun _ _ _ h => h) (Or.inl ⟨by rfl, fun w hw => by go_simp⟩) hS4 ?_
                        simp only [Act.put, List.setIfInBounds_toArray, List.set_cons_zero, List.set_cons_succ]
                        refine wpAnyH_ready (rs := [18]) (by kernel_rfl) (by simp) (ready_cons (i := 18) rfl (by rfl) (fun K hK => ?_) AllReadyH.nil)
                        refine wp_store_trie (s := s) (nv := nv5) rfl rfl rfl HS.out hone5 hT5.t2.there ?_
                        refine hK.out _ _ (hS4.cells _) (fun hS5 => ?_)
                        clear hK K
                        simp only [Act.put]
                        refine wpAnyH_done (by kernel_rfl) ?_ _
                        have hTX := hT5.set2 (oa' := some n5) (m' := Bw.put M (qx, qy)) HS.out hn5 hl5
                        have hXX := (HXV.out.move goodSp (Moves.below hB4)).move goodSp (moves_set2 b1 b2 V4 (trieL s nv5))
                        go_wp2_with fail
                        rw [HW8.out]
                        exact ⟨⟨j, na, nv5, oa, some n5, _, HKJ.out, rfl, hTX, HMP.out.1, HST.out, HMP.out.2, hXX⟩, by simp only [intOf]; omega⟩
                      · refine wp_unconv (l := qy) rfl rfl HQY.out ?_
                        rintro v2 V2 hv2 hb2
                        obtain ⟨A2, c2', rfl⟩ := hv2.form
                        refine hK.out _ _ (hS1.below (hb2.mono hB0.size)) (fun hS2 => ?_)
                        clear hK K
                        simp only [Act.put, List.setIfInBounds_toArray, List.set_cons_zero, List.set_cons_succ]
                        have hB2 := hB0.trans (hb2.mono hB0.size)
                        have hu2 : BytesAt AllB V2 (.slice A2 qy.length c2') qy := hv2.move goodByte (Moves.weaken fun _ _ _ => trivial)
                        refine wpAnyH_ready (rs := [6]) (by kernel_rfl) (by simp) (ready_cons (i := 6) rfl (by rfl) (fun K hK => ?_) AllReadyH.nil)
                        refine wp_unconv (l := qx) rfl rfl HQX.out ?_
                        rintro v1 V3 hv1 hb3
                        obtain ⟨A1, c1', rfl⟩ := hv1.form
                        refine hK.out _ _ (hS2.below (hb3.mono hB2.size)) (fun hS3 => ?_)
                        clear hK K
                        simp only [Act.put, List.setIfInBounds_toArray, List.set_cons_zero, List.set_cons_succ]
                        have hB3 := hB2.trans (hb3.mono hB2.size)
                        replace hu2 := hu2.move goodByte (Moves.below hb3)
                        have hu1 : BytesAt AllB V3 (.slice A1 qx.length c1') qx := hv1.move goodByte (Moves.weaken fun _ _ _ => trivial)
                        refine take_op (i := 13) (v := .agg #[.slice A1 qx.length c1', .slice A2 qy.length c2']) rfl (by kernel_rfl) (by kernel_rfl) (by kernel_rfl) (fun _ _ _ h => h) (Or.inl ⟨by rfl, fun w hw => by go_simp⟩) hS3 ?_
                        simp only [Act.put, List.setIfInBounds_toArray, List.set_cons_zero, List.set_cons_succ]
                        refine wpAnyH_ready (rs := [14]) (by kernel_rfl) (by simp) (ready_cons (i := 14) rfl (by rfl) (fun K hK => ?_) AllReadyH.nil)
                        go_simp
                        refine (CP.out V3 hB3 _ _ hu1 hu2).mono ?_
                        rintro e V4 ⟨nv5, n5, rfl, hn5, hl5, _, ht5⟩
                        have hb4 := ht5.below
                        have hone5 := one_node (o := some n5) hn5
                        go_wp2_with fail
                        refine hK.out _ _ (hS3.below (hb4.mono hB3.size)) (fun hS4 => ?_)
                        clear hK K
                        try simp only [Act.put, List.setIfInBounds_toArray, List.set_cons_zero, List.set_cons_succ]
                        have hB4 := hB3.trans (hb4.mono hB3.size)
                        have hT5 := HTW.out.below hB4
                        refine take_op (i := 15) (v := .tuple #[trieV s nv5, .bool fb]) rfl (by kernel_rfl) (by kernel_rfl) (by kernel_rfl) (fun _ _ _ h => h) (Or.inl ⟨by rfl, fun w hw => by go_simp⟩) hS4 ?_
                        simp only [Act.put, List.setIfInBounds_toArray, List.set_cons_zero, List.set_cons_succ]
                        refine take_op (i := 16) (v := trieV s nv5) rfl (by kernel_rfl) (by kernel_rfl) (by kernel_rfl) (fun _ _ _ h => h) (Or.inl ⟨by rfl, fun w hw => by go_simp⟩) hS4 ?_
                        simp only [Act.put, List.setIfInBounds_toArray, List.set_cons_zero, List.set_cons_succ]
                        refine take_op (i := 17) (v := .bool fb) rfl (by kernel_rfl) (by kernel_rfl) (by kernel_rfl) (fun _ _ _ h => h) (Or.inl ⟨by rfl, fun w hw => by go_simp⟩) hS4 ?_
                        simp only [Act.put, List.setIfInBounds_toArray, List.set_cons_zero, List.set_cons_succ]
                        refine wpAnyH_ready (rs := [18]) (by kernel_rfl) (by simp) (ready_cons (i := 18) rfl (by rfl) (fun K hK => ?_) AllReadyH.nil)
                        refine wp_store_trie (s := s) (nv := nv5) rfl rfl rfl HS.out hone5 hT5.t2.there ?_
                        refine hK.out _ _ (hS4.cells _) (fun hS5 => ?_)
                        clear hK K
                        simp only [Act.put]
                        refine wpAnyH_done (by kernel_rfl) ?_ _
                        have hTX := hT5.set2 (oa' := some n5) (m' := Bw.put M (qx, qy)) HS.out hn5 hl5
                        have hXX := (HXV.out.move goodSp (Moves.below hB4)).move goodSp (moves_set2 b1 b2 V4 (trieL s nv5))
                        go_wp2_with fail
                        rw [HW8.out]
                        exact ⟨⟨j, na, nv5, oa, some n5, _, HKJ.out, rfl, hTX, HMP.out.1, HST.out, HMP.out.2, hXX⟩, by simp only [intOf]; omega⟩
                    · refine wp_unconv (l := qx) rfl rfl HQX.out ?_
                      rintro v1 V1 hv1 hb1
                      obtain ⟨A1, c1', rfl⟩ := hv1.form
                      refine hK.out _ _ (hS0.below (hb1.mono hB0.size)) (fun hS1 => ?_)
                      clear hK K
                      simp only [Act.put, List.setIfInBounds_toArray, List.set_cons_zero, List.set_cons_succ]
                      have hB1 := hB0.trans (hb1.mono hB0.size)
                      have hu1 : BytesAt AllB V1 (.slice A1 qx.length c1') qx := hv1.move goodByte (Moves.weaken fun _ _ _ => trivial)
                      refine wpAnyH_ready (rs := [0, 12]) (by kernel_rfl) (by simp) ((ready_cons (i := 0) rfl (by rfl) (fun K hK => ?_) (ready_cons (i := 12) rfl (by rfl) (fun K hK => ?_) AllReadyH.nil)))
                      · refine wpl_load1_trie (x := .tmp 8) rfl rfl HS.out (HTW.out.below hB1).t2 ?_
                        refine hK.out _ _ hS1 (fun hS2 => ?_)
                        clear hK K
                        simp only [Act.put, List.setIfInBounds_toArray, List.set_cons_zero, List.set_cons_succ]
                        refine wpAnyH_ready (rs := [12]) (by kernel_rfl) (by simp) (ready_cons (i := 12) rfl (by rfl) (fun K hK => ?_) AllReadyH.nil)
                        refine wp_unconv (l := qy) rfl rfl HQY.out ?_
                        rintro v2 V3 hv2 hb3
                        obtain ⟨A2, c2', rfl⟩ := hv2.form
                        refine hK.out _ _ (hS2.below (hb3.mono hB1.size)) (fun hS3 => ?_)
                        clear hK K
                        simp only [Act.put, List.setIfInBounds_toArray, List.set_cons_zero, List.set_cons_succ]
                        have hB3 := hB1.trans (hb3.mono hB1.size)
                        replace hu1 := hu1.move goodByte (Moves.below hb3)
                        have hu2 : BytesAt AllB V3 (.slice A2 qy.length c2') qy := hv2.move goodByte (Moves.weaken fun _ _ _ => trivial)
                        refine take_op (i := 13) (v := .agg #[.slice A1 qx.length c1', .slice A2 qy.length c2']) rfl (by kernel_rfl) (by kernel_rfl) (by kernel_rfl) (fun _ _ _ h => h) (Or.inl ⟨by rfl, fun w hw => by go_simp⟩) hS3 ?_
                        simp only [Act.put, List.setIfInBounds_toArray, List.set_cons_zero, List.set_cons_succ]
                        refine wpAnyH_ready (rs := [14]) (by kernel_rfl) (by simp) (ready_cons (i := 14) rfl (by rfl) (fun K hK => ?_) AllReadyH.nil)
                        go_simp
                        refine (CP.out V3 hB3 _ _ hu1 hu2).mono ?_
                        rintro e V4 ⟨nv5, n5, rfl, hn5, hl5, _, ht5⟩
                        have hb4 := ht5.below
                        have hone5 := one_node (o := some n5) hn5
                        go_wp2_with fail
                        refine hK.out _ _ (hS3.below (hb4.mono hB3.size)) (fun hS4 => ?_)
                        clear hK K
                        try simp only [Act.put, List.setIfInBounds_toArray, List.set_cons_zero, List.set_cons_succ]
                        have hB4 := hB3.trans (hb4.mono hB3.size)
                        have hT5 := HTW.out.below hB4
                        refine take_op (i := 15) (v := .tuple #[trieV s nv5, .bool fb]) rfl (by kernel_rfl) (by kernel_rfl) (by kernel_rfl) (fun _ _ _ h => h) (Or.inl ⟨by rfl, fun w hw => by go_simp⟩) hS4 ?_
                        simp only [Act.put, List.setIfInBounds_toArray, List.set_cons_zero, List.set_cons_succ]
                        refine take_op (i := 16) (v := trieV s nv5) rfl (by kernel_rfl) (by kernel_rfl) (by kernel_rfl) (fun _ _ _ h => h) (Or.inl ⟨by rfl, fun w hw => by go_simp⟩) hS4 ?_
                        simp only [Act.put, List.setIfInBounds_toArray, List.set_cons_zero, List.set_cons_succ]
                        refine take_op (i := 17) (v := .bool fb) rfl (by kernel_rfl) (by kernel_rfl) (by kernel_rfl) (fun _ _ _ h => h) (Or.inl ⟨by rfl, fun w hw => by go_simp⟩) hS4 ?_
                        simp only [Act.put, List.setIfInBounds_toArray, List.set_cons_zero, List.set_cons_succ]
                        refine wpAnyH_ready (rs := [18]) (by kernel_rfl) (by simp) (ready_cons (i := 18) rfl (by rfl) (fun K hK => ?_) AllReadyH.nil)
                        refine wp_store_trie (s := s) (nv := nv5) rfl rfl rfl HS.out hone5 hT5.t2.there ?_
                        refine hK.out _ _ (hS4.cells _) (fun hS5 => ?_)
                        clear hK K
                        simp only [Act.put]
                        refine wpAnyH_done (by kernel_rfl) ?_ _
                        have hTX := hT5.set2 (oa' := some n5) (m' := Bw.put M (qx, qy)) HS.out hn5 hl5
                        have hXX := (HXV.out.move goodSp (Moves.below hB4)).move goodSp (moves_set2 b1 b2 V4 (trieL s nv5))
                        go_wp2_with fail
                        rw [HW8.out]
                        exact ⟨⟨j, na, nv5, oa, some n5, _, HKJ.out, rfl, hTX, HMP.out.1, HST.out, HMP.out.2, hXX⟩, by simp only [intOf]; omega⟩
                      · refine wp_unconv (l := qy) rfl rfl HQY.out ?_
                        rintro v2 V2 hv2 hb2
                        obtain ⟨A2, c2', rfl⟩ := hv2.form
                        refine hK.out _ _ (hS1.below (hb2.mono hB1.size)) (fun hS2 => ?_)
                        clear hK K
                        simp only [Act.put, List.setIfInBounds_toArray, List.set_cons_zero, List.set_cons_succ]
                        have hB2 := hB1.trans (hb2.mono hB1.size)
                        replace hu1 := hu1.move goodByte (Moves.below hb2)
                        have hu2 : BytesAt AllB V2 (.slice A2 qy.length c2') qy := hv2.move goodByte (Moves.weaken fun _ _ _ => trivial)
                        refine take_op (i := 13) (v := .agg #[.slice A1 qx.length c1', .slice A2 qy.length c2']) rfl (by kernel_rfl) (by kernel_rfl) (by kernel_rfl) (fun _ _ _ h => h) (Or.inl ⟨by rfl, fun w hw => by go_simp⟩) hS2 ?_
                        simp only [Act.put, List.setIfInBounds_toArray, List.set_cons_zero, List.set_cons_succ]
                        refine wpAnyH_ready (rs := [0]) (by kernel_rfl) (by simp) (ready_cons (i := 0) rfl (by rfl) (fun K hK => ?_) AllReadyH.nil)
                        refine wpl_load1_trie (x := .tmp 8) rfl rfl HS.out (HTW.out.below hB2).t2 ?_
                        refine hK.out _ _ hS2 (fun hS3 => ?_)
                        clear hK K
                        simp only [Act.put, List.setIfInBounds_toArray, List.set_cons_zero, List.set_cons_succ]
                        refine wpAnyH_ready (rs := [14]) (by kernel_rfl) (by simp) (ready_cons (i := 14) rfl (by rfl) (fun K hK => ?_) AllReadyH.nil)
                        go_simp
                        refine (CP.out V2 hB2 _ _ hu1 hu2).mono ?_
                        rintro e V4 ⟨nv5, n5, rfl, hn5, hl5, _, ht5⟩
                        have hb4 := ht5.below
                        have hone5 := one_node (o := some n5) hn5
                        go_wp2_with fail
                        refine hK.out _ _ (hS3.below (hb4.mono hB2.size)) (fun hS4 => ?_)
                        clear hK K
                        try simp only [Act.put, List.setIfInBounds_toArray, List.set_cons_zero, List.set_cons_succ]
                        have hB4 := hB2.trans (hb4.mono hB2.size)
                        have hT5 := HTW.out.below hB4
                        refine take_op (i := 15) (v := .tuple #[trieV s nv5, .bool fb]) rfl (by kernel_rfl) (by kernel_rfl) (by kernel_rfl) (fun _ _ _ h => h) (Or.inl ⟨by rfl, fun w hw => by go_simp⟩) hS4 ?_
                        simp only [Act.put, List.setIfInBounds_toArray, List.set_cons_zero, List.set_cons_succ]
                        refine take_op (i := 16) (v := trieV s nv5) rfl (by kernel_rfl) (by kernel_rfl) (by kernel_rfl) (fun _ _ _ h => h) (Or.inl ⟨by rfl, fun w hw => by go_simp⟩) hS4 ?_
                        simp only [Act.put, List.setIfInBounds_toArray, List.set_cons_zero, List.set_cons_succ]
                        refine take_op (i := 17) (v := .bool fb) rfl (by kernel_rfl) (by kernel_rfl) (by kernel_rfl) (fun _ _ _ h => h) (Or.inl ⟨by rfl, fun w hw => by go_simp⟩) hS4 ?_
                        simp only [Act.put, List.setIfInBounds_toArray, List.set_cons_zero, List.set_cons_succ]
                        refine wpAnyH_ready (rs := [18]) (by kernel_rfl) (by simp) (ready_cons (i := 18) rfl (by rfl) (fun K hK => ?_) AllReadyH.nil)
                        refine wp_store_trie (s := s) (nv := nv5) rfl rfl rfl HS.out hone5 hT5.t2.there ?_
                        refine hK.out _ _ (hS4.cells _) (fun hS5 => ?_)
                        clear hK K
                        simp only [Act.put]
                        refine wpAnyH_done (by kernel_rfl) ?_ _
                        have hTX := hT5.set2 (oa' := some n5) (m' := Bw.put M (qx, qy)) HS.out hn5 hl5
                        have hXX := (HXV.out.move goodSp (Moves.below hB4)).move goodSp (moves_set2 b1 b2 V4 (trieL s nv5))
                        go_wp2_with fail
                        rw [HW8.out]
                        exact ⟨⟨j, na, nv5, oa, some n5, _, HKJ.out, rfl, hTX, HMP.out.1, HST.out, HMP.out.2, hXX⟩, by simp only [intOf]; omega⟩
                    · refine wp_unconv (l := qy) rfl rfl HQY.out ?_
                      rintro v2 V1 hv2 hb1
                      obtain ⟨A2, c2', rfl⟩ := hv2.form
                      refine hK.out _ _ (hS0.below (hb1.mono hB0.size)) (fun hS1 => ?_)
                      clear hK K
                      simp only [Act.put, List.setIfInBounds_toArray, List.set_cons_zero, List.set_cons_succ]
                      have hB1 := hB0.trans (hb1.mono hB0.size)
                      have hu2 : BytesAt AllB V1 (.slice A2 qy.length c2') qy := hv2.move goodByte (Moves.weaken fun _ _ _ => trivial)
                      refine wpAnyH_ready (rs := [0, 6]) (by kernel_rfl) (by simp) ((ready_cons (i := 0) rfl (by rfl) (fun K hK => ?_) (ready_cons (i := 6) rfl (by rfl) (fun K hK => ?_) AllReadyH.nil)))
                      · refine wpl_load1_trie (x := .tmp 8) rfl rfl HS.out (HTW.out.below hB1).t2 ?_
                        refine hK.out _ _ hS1 (fun hS2 => ?_)
                        clear hK K
                        simp only [Act.put, List.setIfInBounds_toArray, List.set_cons_zero, List.set_cons_succ]
                        refine wpAnyH_ready (rs := [6]) (by kernel_rfl) (by simp) (ready_cons (i := 6) rfl (by rfl) (fun K hK => ?_) AllReadyH.nil)
                        refine wp_unconv (l := qx) rfl rfl HQX.out ?_
                        rintro v1 V3 hv1 hb3
                        obtain ⟨A1, c1', rfl⟩ := hv1.form
                        refine hK.out _ _ (hS2.below (hb3.mono hB1.size)) (fun hS3 => ?_)
                        clear hK K
                        simp only [Act.put, List.setIfInBounds_toArray, List.set_cons_zero, List.set_cons_succ]
                        have hB3 := hB1.trans (hb3.mono hB1.size)
                        replace hu2 := hu2.move goodByte (Moves.below hb3)
                        have hu1 : BytesAt AllB V3 (.slice A1 qx.length c1') qx := hv1.move goodByte (Moves.weaken fun _ _ _ => trivial)
                        refine take_op (i := 13) (v := .agg #[.slice A1 qx.length c1', .slice A2 qy.length c2']) rfl (by kernel_rfl) (by kernel_rfl) (by kernel_rfl) (fun _ _ _ h => h) (Or.inl ⟨by rfl, fun w hw => by go_simp⟩) hS3 ?_
                        simp only [Act.put, List.setIfInBounds_toArray, List.set_cons_zero, List.set_cons_succ]
                        refine wpAnyH_ready (rs := [14]) (by kernel_rfl) (by simp) (ready_cons (i := 14) rfl (by rfl) (fun K hK => ?_) AllReadyH.nil)
                        go_simp
                        refine (CP.out V3 hB3 _ _ hu1 hu2).mono ?_
                        rintro e V4 ⟨nv5, n5, rfl, hn5, hl5, _, ht5⟩
                        have hb4 := ht5.below
                        have hone5 := one_node (o := some n5) hn5
                        go_wp2_with fail
                        refine hK.out _ _ (hS3.below (hb4.mono hB3.size)) (fun hS4 => ?_)
                        clear hK K
                        try simp only [Act.put, List.setIfInBounds_toArray, List.set_cons_zero, List.set_cons_succ]
                        have hB4 := hB3.trans (hb4.mono hB3.size)
                        have hT5 := HTW.out.below hB4
                        refine take_op (i := 15) (v := .tuple #[trieV s nv5, .bool fb]) rfl (by kernel_rfl) (by kernel_rfl) (by kernel_rfl) (fun _ _ _ h => h) (Or.inl ⟨by rfl, fun w hw => by go_simp⟩) hS4 ?_
                        simp only [Act.put, List.setIfInBounds_toArray, List.set_cons_zero, List.set_cons_succ]
                        refine take_op (i := 16) (v := trieV s nv5) rfl (by kernel_rfl) (by kernel_rfl) (by kernel_rfl) (fun _ _ _ h => h) (Or.inl ⟨by rfl, fun w hw => by go_simp⟩) hS4 ?_
                        simp only [Act.put, List.setIfInBounds_toArray, List.set_cons_zero, List.set_cons_succ]
                        refine take_op (i := 17) (v := .bool fb) rfl (by kernel_rfl) (by kernel_rfl) (by kernel_rfl) (fun _ _ _ h => h) (Or.inl ⟨by rfl, fun w hw => by go_simp⟩) hS4 ?_
                        simp only [Act.put, List.setIfInBounds_toArray, List.set_cons_zero, List.set_cons_succ]
                        refine wpAnyH_ready (rs := [18]) (by kernel_rfl) (by simp) (ready_cons (i := 18) rfl (by rfl) (fun K hK => ?_) AllReadyH.nil)
                        refine wp_store_trie (s := s) (nv := nv5) rfl rfl rfl HS.out hone5 hT5.t2.there ?_
                        refine hK.out _ _ (hS4.cells _) (fun hS5 => ?_)
                        clear hK K
                        simp only [Act.put]
                        refine wpAnyH_done (by kernel_rfl) ?_ _
                        have hTX := hT5.set2 (oa' := some n5) (m' := Bw.put M (qx, qy)) HS.out hn5 hl5
                        have hXX := (HXV.out.move goodSp (Moves.below hB4)).move goodSp (moves_set2 b1 b2 V4 (trieL s nv5))
                        go_wp2_with fail
                        rw [HW8.out]
                        exact ⟨⟨j, na, nv5, oa, some n5, _, HKJ.out, rfl, hTX, HMP.out.1, HST.out, HMP.out.2, hXX⟩, by simp only [intOf]; omega⟩
                      · refine wp_unconv (l := qx) rfl rfl HQX.out ?_
                        rintro v1 V2 hv1 hb2
                        obtain ⟨A1, c1', rfl⟩ := hv1.form
                        refine hK.out _ _ (hS1.below (hb2.mono hB1.size)) (fun hS2 => ?_)
                        clear hK K
                        simp only [Act.put, List.setIfInBounds_toArray, List.set_cons_zero, List.set_cons_succ]
                        have hB2 := hB1.trans (hb2.mono hB1.size)
                        replace hu2 := hu2.move goodByte (Moves.below hb2)
                        have hu1 : BytesAt AllB V2 (.slice A1 qx.length c1') qx := hv1.move goodByte (Moves.weaken fun _ _ _ => trivial)
                        refine take_op (i := 13) (v := .agg #[.slice A1 qx.length c1', .slice A2 qy.length c2']) rfl (by kernel_rfl) (by kernel_rfl) (by kernel_rfl) (fun _ _ _ h => h) (Or.inl ⟨by rfl, fun w hw => by go_simp⟩) hS2 ?_
                        simp only [Act.put, List.setIfInBounds_toArray, List.set_cons_zero, List.set_cons_succ]
                        refine wpAnyH_ready (rs := [0]) (by kernel_rfl) (by simp) (ready_cons (i := 0) rfl (by rfl) (fun K hK => ?_) AllReadyH.nil)
                        refine wpl_load1_trie (x := .tmp 8) rfl rfl HS.out (HTW.out.below hB2).t2 ?_
                        refine hK.out _ _ hS2 (fun hS3 => ?_)
                        clear hK K
                        simp only [Act.put, List.setIfInBounds_toArray, List.set_cons_zero, List.set_cons_succ]
                        refine wpAnyH_ready (rs := [14]) (by kernel_rfl) (by simp) (ready_cons (i := 14) rfl (by rfl) (fun K hK => ?_) AllReadyH.nil)
                        go_simp
                        refine (CP.out V2 hB2 _ _ hu1 hu2).mono ?_
                        rintro e V4 ⟨nv5, n5, rfl, hn5, hl5, _, ht5⟩
                        have hb4 := ht5.below
                        have hone5 := one_node (o := some n5) hn5
                        go_wp2_with fail
                        refine hK.out _ _ (hS3.below (hb4.mono hB2.size)) (fun hS4 => ?_)
                        clear hK K
                        try simp only [Act.put, List.setIfInBounds_toArray, List.set_cons_zero, List.set_cons_succ]
                        have hB4 := hB2.trans (hb4.mono hB2.size)
                        have hT5 := HTW.out.below hB4
                        refine take_op (i := 15) (v := .tuple #[trieV s nv5, .bool fb]) rfl (by kernel_rfl) (by kernel_rfl) (by kernel_rfl) (fun _ _ _ h => h) (Or.inl ⟨by rfl, fun w hw => by go_simp⟩) hS4 ?_
                        simp only [Act.put, List.setIfInBounds_toArray, List.set_cons_zero, List.set_cons_succ]
                        refine take_op (i := 16) (v := trieV s nv5) rfl (by kernel_rfl) (by kernel_rfl) (by kernel_rfl) (fun _ _ _ h => h) (Or.inl ⟨by rfl, fun w hw => by go_simp⟩) hS4 ?_
                        simp only [Act.put, List.setIfInBounds_toArray, List.set_cons_zero, List.set_cons_succ]
                        refine take_op (i := 17) (v := .bool fb) rfl (by kernel_rfl) (by kernel_rfl) (by kernel_rfl) (fun _ _ _ h => h) (Or.inl ⟨by rfl, fun w hw => by go_simp⟩) hS4 ?_
                        simp only [Act.put, List.setIfInBounds_toArray, List.set_cons_zero, List.set_cons_succ]
                        refine wpAnyH_ready (rs := [18]) (by kernel_rfl) (by simp) (ready_cons (i := 18) rfl (by rfl) (fun K hK => ?_) AllReadyH.nil)
                        refine wp_store_trie (s := s) (nv := nv5) rfl rfl rfl HS.out hone5 hT5.t2.there ?_
                        refine hK.out _ _ (hS4.cells _) (fun hS5 => ?_)
                        clear hK K
                        simp only [Act.put]
                        refine wpAnyH_done (by kernel_rfl) ?_ _
                        have hTX := hT5.set2 (oa' := some n5) (m' := Bw.put M (qx, qy)) HS.out hn5 hl5
                        have hXX := (HXV.out.move goodSp (Moves.below hB4)).move goodSp (moves_set2 b1 b2 V4 (trieL s nv5))
                        go_wp2_with fail
                        rw [HW8.out]
                        exact ⟨⟨j, na, nv5, oa, some n5, _, HKJ.out, rfl, hTX, HMP.out.1, HST.out, HMP.out.2, hXX⟩, by simp only [intOf]; omega⟩
end Go.Proofs.YtadaoceidkagfaaGreatDoor
