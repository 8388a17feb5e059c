/- law21.TrieSeeds. -/
import Derived.Test.YtadaoceidkagfaaGreatDoorTwo
namespace Go.Proofs.YtadaoceidkagfaaGreatDoor
open Go.RowKit Go.Bw
/-- between two rounds -/
def SLoop (s t : List UInt8) (l : List Bw.Op) (w : World) (b1 b2 : Nat) (xv i : Value) (W : World) : Prop :=
  ∃ j na nb oa ob m, j ≤ l.length ∧ i = .int .i64 (j : Nat) ∧ TwoAt w b1 b2 s t m m na nb oa ob W ∧ SPairsAt (Not2 b1 b2) W xv m ∧ MapOk m ∧ m.length ≤ j
set_option maxRecDepth 100000 in
set_option maxHeartbeats 4000000 in
theorem trieseeds_any {s t : List UInt8} {l : List Bw.Op} {v : Value} {w : World} (hs : s.length = 16) (ht : t.length = 16) (hr : OpsAt AllB w v l) (hT : Tab w) (hSt : Sta w) :
    Calls Tryz.prog 3 #[seedV s, seedV t, v] w fun e w' => e = .returned (.bool true) ∧ Below w.heap.size w w' := by
  obtain ⟨A, c, rfl⟩ := hr.form
  obtain ⟨W0, hW0⟩ : ∃ W0, (w.alloc (.cells (seedL s).toArray 23)).alloc (.cells (seedL t).toArray 23) = W0 := ⟨_, rfl⟩
  have hBa : Below w.heap.size w (w.alloc (.cells (seedL s).toArray 23)) := (Below.refl _ _).alloc (Nat.le_refl _) _
  have hBb : Below (w.alloc (.cells (seedL s).toArray 23)).heap.size (w.alloc (.cells (seedL s).toArray 23)) W0 := by rw [← hW0]; exact (Below.refl _ _).alloc (Nat.le_refl _) _
  have hB0 : Below w.heap.size w W0 := hBa.trans (hBb.mono hBa.size)
  have hr1 : W0.rangeAt w.heap.size 0 (seedL s) := rng_same (hBb.block _ (by simp)) (seed_in (w := w))
  have hr2 : W0.rangeAt (w.heap.size + 1) 0 (seedL t) := by
    have h := seed_in (w := w.alloc (.cells (seedL s).toArray 23)) (s := t)
    rw [hW0] at h
    simpa using h
  have hlt : w.heap.size + 1 < W0.heap.size := by rw [← hW0]; simp
  have CF := Lib.hid (fine11_any 40 (by decide) (hr.move goodOp (Moves.below hB0)))
  have CA := Lib.hid (fun W (hW : Below w.heap.size w W) => awake21_any W (hT.below hT.pos hW) (hSt.below hSt.pos hW))
  have HB0 := Lib.hid hB0
  simp only [seedV_is]
  cases hfine : opsB l 40 with
  | false =>
    rw [hfine] at CF
    clear hr hfine hT hSt hs ht hB0 hBa hBb hr1 hr2 hlt
    go_enter Tryz.func3, Tryz.ntmps3
    go_wp2_with (first
      | (go_at_call 7; (refine CF.out.mono ?_); rintro e w1 ⟨rfl, hb1⟩; have hw1 := HB0.out.trans (hb1.mono HB0.out.size))
      | (go_at_call 8; (with_reducible refine (CA.out _ hw1).mono ?_); rintro e w2 ⟨rfl, hb2⟩))
    go_ret
    exact ⟨rfl, hw1.trans (hb2.mono hw1.size)⟩
  | true =>
    rw [hfine] at CF
    obtain ⟨hl40, hby⟩ := opsB_parts hfine
    have HL40 := Lib.hid hl40
    have HL : Hid (l.length ≤ 1048576) := Lib.hid (by omega)
    have HBY := Lib.hid hby; have HR := Lib.hid hr; have HTAB := Lib.hid hT; have HSTA := Lib.hid hSt; have HS := Lib.hid hs; have HS2 := Lib.hid ht
    have CN1 := Lib.hid (fun W => tnew_any hs W); have CN2 := Lib.hid (fun W => tnew_any ht W)
    have HR0 : Hid (∀ W, Below W0.heap.size W0 W → W.rangeAt w.heap.size 0 (seedL s) ∧ W.rangeAt (w.heap.size + 1) 0 (seedL t)) := Lib.hid fun W hW => ⟨rng_same (hW.block w.heap.size (by omega)) hr1, rng_same (hW.block (w.heap.size + 1) hlt) hr2⟩
    clear hr hfine hT hSt hs ht hl40 hby hB0 hBa hBb hr1 hr2 hlt
    go_enter Tryz.func3, Tryz.ntmps3
    go_wp2_with (go_at_call 7; (refine CF.out.mono ?_); rintro e w1 ⟨rfl, hb1⟩)
    have hwA : Below w.heap.size w w1 := HB0.out.trans (hb1.mono HB0.out.size)
    have HRA : Hid (∀ W, Below w1.heap.size w1 W → W.rangeAt w.heap.size 0 (seedL s) ∧ W.rangeAt (w.heap.size + 1) 0 (seedL t)) := Lib.hid fun W hW => HR0.out W (hb1.trans (hW.mono hb1.size))
    clear hb1 HR0 HB0 hW0 CF
    refine region_cut (fun a a' W' => ∃ b1 b2, a' = ((((((a.put (some 19) (seedV s)).put (some 20) (trieV s .nilIface)).put (some 21) (seedV t)).put (some 22) (trieV t .nilIface)).put (some 7) (.pointer (some ⟨b1, 0, none⟩))).put (some 8) (.pointer (some ⟨b2, 0, none⟩))) ∧ TwoAt w b1 b2 s t [] [] .nilIface .nilIface none none W') ?_ ?_
    · have hS0 : Below w1.heap.size w1 w1.drew := by (repeat (first | exact Below.refl _ _ | with_reducible assumption | refine Below.drew ?_ | refine b_drewN ?_ _ | (refine Below.alloc ?_ (by first | omega | (simp <;> omega)) _)))
      refine wp_region_held_drew (S := fun W => Below w1.heap.size w1 W) (by kernel_rfl) hS0 (fun _ => ?_)
      generalize w1.drew = V0 at *
      refine take_op (i := 0) rfl (by kernel_rfl) (by kernel_rfl) (by kernel_rfl) (fun _ _ _ h => by cases h.1) (yieldsIf_load_seed (x := .tmp 3) (b := w.heap.size) (by rfl) rfl rfl HS.out (fun w h => (HRA.out w h).1)) hS0 ?_
      simp only [Act.put, List.setIfInBounds_toArray, List.set_cons_zero, List.set_cons_succ]
      refine take_op (i := 2) rfl (by kernel_rfl) (by kernel_rfl) (by kernel_rfl) (fun _ _ _ h => by cases h.1) (yieldsIf_load_seed (x := .tmp 4) (b := w.heap.size + 1) (by rfl) rfl rfl HS2.out (fun w h => (HRA.out w h).2)) hS0 ?_
      simp only [Act.put, List.setIfInBounds_toArray, List.set_cons_zero, List.set_cons_succ]
      refine wpAnyH_ready (rs := [1, 4, 5]) (by kernel_rfl) (by simp) ((ready_cons (i := 1) rfl (by rfl) (fun K hK => ?_) (ready_cons (i := 4) rfl (by rfl) (fun K hK => ?_) (ready_cons (i := 5) rfl (by rfl) (fun K hK => ?_) AllReadyH.nil))))
      · go_simp
        refine (CN1.out V0).mono ?_
        rintro e V1 ⟨rfl, hb1⟩
        go_wp2_with fail
        refine hK.out _ _ (hS0.trans (hb1.mono hS0.size)) (fun hS1 => ?_)
        clear hK K
        try simp only [Act.put, List.setIfInBounds_toArray, List.set_cons_zero, List.set_cons_succ]
        refine wpAnyH_ready (rs := [3, 4, 5]) (by kernel_rfl) (by simp) ((ready_cons (i := 3) rfl (by rfl) (fun K hK => ?_) (ready_cons (i := 4) rfl (by rfl) (fun K hK => ?_) (ready_cons (i := 5) rfl (by rfl) (fun K hK => ?_) AllReadyH.nil))))
        · go_simp
          refine (CN2.out V1).mono ?_
          rintro e V2 ⟨rfl, hb2⟩
          go_wp2_with fail
          refine hK.out _ _ (hS1.trans (hb2.mono hS1.size)) (fun hS2 => ?_)
          clear hK K
          try simp only [Act.put, List.setIfInBounds_toArray, List.set_cons_zero, List.set_cons_succ]
          refine wpAnyH_ready (rs := [4, 5]) (by kernel_rfl) (by simp) ((ready_cons (i := 4) rfl (by rfl) (fun K hK => ?_) (ready_cons (i := 5) rfl (by rfl) (fun K hK => ?_) AllReadyH.nil)))
          · go_simp
            have hth1 := trie_there V2 #[.int .u8 0, .int .u8 0, .int .u8 0, .int .u8 0, .int .u8 0, .int .u8 0, .int .u8 0, .int .u8 0, .int .u8 0, .int .u8 0, .int .u8 0, .int .u8 0, .int .u8 0, .int .u8 0, .int .u8 0, .int .u8 0, .nilIface] 30 rfl
            have hl1 : w1.heap.size ≤ V2.heap.size := hS2.size
            have hb3 : Below V2.heap.size V2 (V2.alloc (.cells #[.int .u8 0, .int .u8 0, .int .u8 0, .int .u8 0, .int .u8 0, .int .u8 0, .int .u8 0, .int .u8 0, .int .u8 0, .int .u8 0, .int .u8 0, .int .u8 0, .int .u8 0, .int .u8 0, .int .u8 0, .int .u8 0, .nilIface] 30)) := (Below.refl _ _).alloc (Nat.le_refl _) _
            generalize V2.alloc (.cells #[.int .u8 0, .int .u8 0, .int .u8 0, .int .u8 0, .int .u8 0, .int .u8 0, .int .u8 0, .int .u8 0, .int .u8 0, .int .u8 0, .int .u8 0, .int .u8 0, .int .u8 0, .int .u8 0, .int .u8 0, .int .u8 0, .nilIface] 30) = V3 at *
            refine hK.out _ _ (hS2.trans (hb3.mono hS2.size)) (fun hS3 => ?_)
            clear hK K
            try simp only [Act.put, List.setIfInBounds_toArray, List.set_cons_zero, List.set_cons_succ]
            refine wpAnyH_ready (rs := [5]) (by kernel_rfl) (by simp) (ready_cons (i := 5) rfl (by rfl) (fun K hK => ?_) AllReadyH.nil)
            go_simp
            have hth2 := trie_there V3 #[.int .u8 0, .int .u8 0, .int .u8 0, .int .u8 0, .int .u8 0, .int .u8 0, .int .u8 0, .int .u8 0, .int .u8 0, .int .u8 0, .int .u8 0, .int .u8 0, .int .u8 0, .int .u8 0, .int .u8 0, .int .u8 0, .nilIface] 30 rfl
            have hl2 : w1.heap.size ≤ V3.heap.size := hS3.size
            have hb4 : Below V3.heap.size V3 (V3.alloc (.cells #[.int .u8 0, .int .u8 0, .int .u8 0, .int .u8 0, .int .u8 0, .int .u8 0, .int .u8 0, .int .u8 0, .int .u8 0, .int .u8 0, .int .u8 0, .int .u8 0, .int .u8 0, .int .u8 0, .int .u8 0, .int .u8 0, .nilIface] 30)) := (Below.refl _ _).alloc (Nat.le_refl _) _
            have hne : V2.heap.size ≠ V3.heap.size := Nat.ne_of_lt (there_lt hth1)
            replace hth1 := there_same (hb4.block _ (there_lt hth1)) hth1
            generalize V3.alloc (.cells #[.int .u8 0, .int .u8 0, .int .u8 0, .int .u8 0, .int .u8 0, .int .u8 0, .int .u8 0, .int .u8 0, .int .u8 0, .int .u8 0, .int .u8 0, .int .u8 0, .int .u8 0, .int .u8 0, .int .u8 0, .int .u8 0, .nilIface] 30) = V4 at *
            refine hK.out _ _ (hS3.trans (hb4.mono hS3.size)) (fun hS4 => ?_)
            clear hK K
            try simp only [Act.put, List.setIfInBounds_toArray, List.set_cons_zero, List.set_cons_succ]
            refine ready_op (i := 6) rfl (by kernel_rfl) (by rfl) (fun K hK => ?_)
            refine wp_store_trie (s := s) (nv := .nilIface) rfl rfl rfl HS.out rfl hth1 ?_
            refine hK.out _ _ (World.below_setCells hl1 _ _ _ hS4) (fun hS5 => ?_)
            clear hK K
            simp only [Act.put]
            refine ready_op (i := 7) rfl (by kernel_rfl) (by rfl) (fun K hK => ?_)
            refine wp_store_trie (s := t) (nv := .nilIface) rfl rfl rfl HS2.out rfl (there_same (World.other_setCells hne.symm _ _ _) hth2) ?_
            refine hK.out _ _ (World.below_setCells hl2 _ _ _ hS5) (fun hS6 => ?_)
            clear hK K
            simp only [Act.put]
            refine wpAnyH_done (by kernel_rfl) ?_ _
            exact ⟨rfl, V2.heap.size, V3.heap.size, by first | rfl | (simp only [Act.put, List.setIfInBounds_toArray, List.set_cons_zero, List.set_cons_succ]), two_start hwA hne hl1 hl2 hth1 hth2 HS.out HS2.out hS4⟩
          · go_simp
            have hth2 := trie_there V2 #[.int .u8 0, .int .u8 0, .int .u8 0, .int .u8 0, .int .u8 0, .int .u8 0, .int .u8 0, .int .u8 0, .int .u8 0, .int .u8 0, .int .u8 0, .int .u8 0, .int .u8 0, .int .u8 0, .int .u8 0, .int .u8 0, .nilIface] 30 rfl
            have hl2 : w1.heap.size ≤ V2.heap.size := hS2.size
            have hb3 : Below V2.heap.size V2 (V2.alloc (.cells #[.int .u8 0, .int .u8 0, .int .u8 0, .int .u8 0, .int .u8 0, .int .u8 0, .int .u8 0, .int .u8 0, .int .u8 0, .int .u8 0, .int .u8 0, .int .u8 0, .int .u8 0, .int .u8 0, .int .u8 0, .int .u8 0, .nilIface] 30)) := (Below.refl _ _).alloc (Nat.le_refl _) _
            generalize V2.alloc (.cells #[.int .u8 0, .int .u8 0, .int .u8 0, .int .u8 0, .int .u8 0, .int .u8 0, .int .u8 0, .int .u8 0, .int .u8 0, .int .u8 0, .int .u8 0, .int .u8 0, .int .u8 0, .int .u8 0, .int .u8 0, .int .u8 0, .nilIface] 30) = V3 at *
            refine hK.out _ _ (hS2.trans (hb3.mono hS2.size)) (fun hS3 => ?_)
            clear hK K
            try simp only [Act.put, List.setIfInBounds_toArray, List.set_cons_zero, List.set_cons_succ]
            refine wpAnyH_ready (rs := [4]) (by kernel_rfl) (by simp) (ready_cons (i := 4) rfl (by rfl) (fun K hK => ?_) AllReadyH.nil)
            go_simp
            have hth1 := trie_there V3 #[.int .u8 0, .int .u8 0, .int .u8 0, .int .u8 0, .int .u8 0, .int .u8 0, .int .u8 0, .int .u8 0, .int .u8 0, .int .u8 0, .int .u8 0, .int .u8 0, .int .u8 0, .int .u8 0, .int .u8 0, .int .u8 0, .nilIface] 30 rfl
            have hl1 : w1.heap.size ≤ V3.heap.size := hS3.size
            have hb4 : Below V3.heap.size V3 (V3.alloc (.cells #[.int .u8 0, .int .u8 0, .int .u8 0, .int .u8 0, .int .u8 0, .int .u8 0, .int .u8 0, .int .u8 0, .int .u8 0, .int .u8 0, .int .u8 0, .int .u8 0, .int .u8 0, .int .u8 0, .int .u8 0, .int .u8 0, .nilIface] 30)) := (Below.refl _ _).alloc (Nat.le_refl _) _
            have hne : V3.heap.size ≠ V2.heap.size := Nat.ne_of_gt (there_lt hth2)
            replace hth2 := there_same (hb4.block _ (there_lt hth2)) hth2
            generalize V3.alloc (.cells #[.int .u8 0, .int .u8 0, .int .u8 0, .int .u8 0, .int .u8 0, .int .u8 0, .int .u8 0, .int .u8 0, .int .u8 0, .int .u8 0, .int .u8 0, .int .u8 0, .int .u8 0, .int .u8 0, .int .u8 0, .int .u8 0, .nilIface] 30) = V4 at *
            refine hK.out _ _ (hS3.trans (hb4.mono hS3.size)) (fun hS4 => ?_)
            clear hK K
            try simp only [Act.put, List.setIfInBounds_toArray, List.set_cons_zero, List.set_cons_succ]
            refine ready_op (i := 6) rfl (by kernel_rfl) (by rfl) (fun K hK => ?_)
            refine wp_store_trie (s := s) (nv := .nilIface) rfl rfl rfl HS.out rfl hth1 ?_
            refine hK.out _ _ (World.below_setCells hl1 _ _ _ hS4) (fun hS5 => ?_)
            clear hK K
            simp only [Act.put]
            refine ready_op (i := 7) rfl (by kernel_rfl) (by rfl) (fun K hK => ?_)
            refine wp_store_trie (s := t) (nv := .nilIface) rfl rfl rfl HS2.out rfl (there_same (World.other_setCells hne.symm _ _ _) hth2) ?_
            refine hK.out _ _ (World.below_setCells hl2 _ _ _ hS5) (fun hS6 => ?_)
            clear hK K
            simp only [Act.put]
            refine wpAnyH_done (by kernel_rfl) ?_ _
            exact ⟨rfl, V3.heap.size, V2.heap.size, by first | rfl | (simp only [Act.put, List.setIfInBounds_toArray, List.set_cons_zero, List.set_cons_succ]), two_start hwA hne hl1 hl2 hth1 hth2 HS.out HS2.out hS4⟩
        · go_simp
          have hth1 := trie_there V1 #[.int .u8 0, .int .u8 0, .int .u8 0, .int .u8 0, .int .u8 0, .int .u8 0, .int .u8 0, .int .u8 0, .int .u8 0, .int .u8 0, .int .u8 0, .int .u8 0, .int .u8 0, .int .u8 0, .int .u8 0, .int .u8 0, .nilIface] 30 rfl
          have hl1 : w1.heap.size ≤ V1.heap.size := hS1.size
          have hb2 : Below V1.heap.size V1 (V1.alloc (.cells #[.int .u8 0, .int .u8 0, .int .u8 0, .int .u8 0, .int .u8 0, .int .u8 0, .int .u8 0, .int .u8 0, .int .u8 0, .int .u8 0, .int .u8 0, .int .u8 0, .int .u8 0, .int .u8 0, .int .u8 0, .int .u8 0, .nilIface] 30)) := (Below.refl _ _).alloc (Nat.le_refl _) _
          generalize V1.alloc (.cells #[.int .u8 0, .int .u8 0, .int .u8 0, .int .u8 0, .int .u8 0, .int .u8 0, .int .u8 0, .int .u8 0, .int .u8 0, .int .u8 0, .int .u8 0, .int .u8 0, .int .u8 0, .int .u8 0, .int .u8 0, .int .u8 0, .nilIface] 30) = V2 at *
          refine hK.out _ _ (hS1.trans (hb2.mono hS1.size)) (fun hS2 => ?_)
          clear hK K
          try simp only [Act.put, List.setIfInBounds_toArray, List.set_cons_zero, List.set_cons_succ]
          refine wpAnyH_ready (rs := [3, 5]) (by kernel_rfl) (by simp) ((ready_cons (i := 3) rfl (by rfl) (fun K hK => ?_) (ready_cons (i := 5) rfl (by rfl) (fun K hK => ?_) AllReadyH.nil)))
          · go_simp
            refine (CN2.out V2).mono ?_
            rintro e V3 ⟨rfl, hb3⟩
            go_wp2_with fail
            refine hK.out _ _ (hS2.trans (hb3.mono hS2.size)) (fun hS3 => ?_)
            clear hK K
            try simp only [Act.put, List.setIfInBounds_toArray, List.set_cons_zero, List.set_cons_succ]
            replace hth1 := there_same (hb3.block _ (there_lt hth1)) hth1
            refine wpAnyH_ready (rs := [5]) (by kernel_rfl) (by simp) (ready_cons (i := 5) rfl (by rfl) (fun K hK => ?_) AllReadyH.nil)
            go_simp
            have hth2 := trie_there V3 #[.int .u8 0, .int .u8 0, .int .u8 0, .int .u8 0, .int .u8 0, .int .u8 0, .int .u8 0, .int .u8 0, .int .u8 0, .int .u8 0, .int .u8 0, .int .u8 0, .int .u8 0, .int .u8 0, .int .u8 0, .int .u8 0, .nilIface] 30 rfl
            have hl2 : w1.heap.size ≤ V3.heap.size := hS3.size
            have hb4 : Below V3.heap.size V3 (V3.alloc (.cells #[.int .u8 0, .int .u8 0, .int .u8 0, .int .u8 0, .int .u8 0, .int .u8 0, .int .u8 0, .int .u8 0, .int .u8 0, .int .u8 0, .int .u8 0, .int .u8 0, .int .u8 0, .int .u8 0, .int .u8 0, .int .u8 0, .nilIface] 30)) := (Below.refl _ _).alloc (Nat.le_refl _) _
            have hne : V1.heap.size ≠ V3.heap.size := Nat.ne_of_lt (there_lt hth1)
            replace hth1 := there_same (hb4.block _ (there_lt hth1)) hth1
            generalize V3.alloc (.cells #[.int .u8 0, .int .u8 0, .int .u8 0, .int .u8 0, .int .u8 0, .int .u8 0, .int .u8 0, .int .u8 0, .int .u8 0, .int .u8 0, .int .u8 0, .int .u8 0, .int .u8 0, .int .u8 0, .int .u8 0, .int .u8 0, .nilIface] 30) = V4 at *
            refine hK.out _ _ (hS3.trans (hb4.mono hS3.size)) (fun hS4 => ?_)
            clear hK K
            try simp only [Act.put, List.setIfInBounds_toArray, List.set_cons_zero, List.set_cons_succ]
            refine ready_op (i := 6) rfl (by kernel_rfl) (by rfl) (fun K hK => ?_)
            refine wp_store_trie (s := s) (nv := .nilIface) rfl rfl rfl HS.out rfl hth1 ?_
            refine hK.out _ _ (World.below_setCells hl1 _ _ _ hS4) (fun hS5 => ?_)
            clear hK K
            simp only [Act.put]
            refine ready_op (i := 7) rfl (by kernel_rfl) (by rfl) (fun K hK => ?_)
            refine wp_store_trie (s := t) (nv := .nilIface) rfl rfl rfl HS2.out rfl (there_same (World.other_setCells hne.symm _ _ _) hth2) ?_
            refine hK.out _ _ (World.below_setCells hl2 _ _ _ hS5) (fun hS6 => ?_)
            clear hK K
            simp only [Act.put]
            refine wpAnyH_done (by kernel_rfl) ?_ _
            exact ⟨rfl, V1.heap.size, V3.heap.size, by first | rfl | (simp only [Act.put, List.setIfInBounds_toArray, List.set_cons_zero, List.set_cons_succ]), two_start hwA hne hl1 hl2 hth1 hth2 HS.out HS2.out hS4⟩
          · go_simp
            have hth2 := trie_there V2 #[.int .u8 0, .int .u8 0, .int .u8 0, .int .u8 0, .int .u8 0, .int .u8 0, .int .u8 0, .int .u8 0, .int .u8 0, .int .u8 0, .int .u8 0, .int .u8 0, .int .u8 0, .int .u8 0, .int .u8 0, .int .u8 0, .nilIface] 30 rfl
            have hl2 : w1.heap.size ≤ V2.heap.size := hS2.size
            have hb3 : Below V2.heap.size V2 (V2.alloc (.cells #[.int .u8 0, .int .u8 0, .int .u8 0, .int .u8 0, .int .u8 0, .int .u8 0, .int .u8 0, .int .u8 0, .int .u8 0, .int .u8 0, .int .u8 0, .int .u8 0, .int .u8 0, .int .u8 0, .int .u8 0, .int .u8 0, .nilIface] 30)) := (Below.refl _ _).alloc (Nat.le_refl _) _
            have hne : V1.heap.size ≠ V2.heap.size := Nat.ne_of_lt (there_lt hth1)
            replace hth1 := there_same (hb3.block _ (there_lt hth1)) hth1
            generalize V2.alloc (.cells #[.int .u8 0, .int .u8 0, .int .u8 0, .int .u8 0, .int .u8 0, .int .u8 0, .int .u8 0, .int .u8 0, .int .u8 0, .int .u8 0, .int .u8 0, .int .u8 0, .int .u8 0, .int .u8 0, .int .u8 0, .int .u8 0, .nilIface] 30) = V3 at *
            refine hK.out _ _ (hS2.trans (hb3.mono hS2.size)) (fun hS3 => ?_)
            clear hK K
            try simp only [Act.put, List.setIfInBounds_toArray, List.set_cons_zero, List.set_cons_succ]
            refine wpAnyH_ready (rs := [3]) (by kernel_rfl) (by simp) (ready_cons (i := 3) rfl (by rfl) (fun K hK => ?_) AllReadyH.nil)
            go_simp
            refine (CN2.out V3).mono ?_
            rintro e V4 ⟨rfl, hb4⟩
            go_wp2_with fail
            refine hK.out _ _ (hS3.trans (hb4.mono hS3.size)) (fun hS4 => ?_)
            clear hK K
            try simp only [Act.put, List.setIfInBounds_toArray, List.set_cons_zero, List.set_cons_succ]
            replace hth1 := there_same (hb4.block _ (there_lt hth1)) hth1
            replace hth2 := there_same (hb4.block _ (there_lt hth2)) hth2
            refine ready_op (i := 6) rfl (by kernel_rfl) (by rfl) (fun K hK => ?_)
            refine wp_store_trie (s := s) (nv := .nilIface) rfl rfl rfl HS.out rfl hth1 ?_
            refine hK.out _ _ (World.below_setCells hl1 _ _ _ hS4) (fun hS5 => ?_)
            clear hK K
            simp only [Act.put]
            refine ready_op (i := 7) rfl (by kernel_rfl) (by rfl) (fun K hK => ?_)
            refine wp_store_trie (s := t) (nv := .nilIface) rfl rfl rfl HS2.out rfl (there_same (World.other_setCells hne.symm _ _ _) hth2) ?_
            refine hK.out _ _ (World.below_setCells hl2 _ _ _ hS5) (fun hS6 => ?_)
            clear hK K
            simp only [Act.put]
            refine wpAnyH_done (by kernel_rfl) ?_ _
            exact ⟨rfl, V1.heap.size, V2.heap.size, by first | rfl | (simp only [Act.put, List.setIfInBounds_toArray, List.set_cons_zero, List.set_cons_succ]), two_start hwA hne hl1 hl2 hth1 hth2 HS.out HS2.out hS4⟩
        · go_simp
          have hth2 := trie_there V1 #[.int .u8 0, .int .u8 0, .int .u8 0, .int .u8 0, .int .u8 0, .int .u8 0, .int .u8 0, .int .u8 0, .int .u8 0, .int .u8 0, .int .u8 0, .int .u8 0, .int .u8 0, .int .u8 0, .int .u8 0, .int .u8 0, .nilIface] 30 rfl
          have hl2 : w1.heap.size ≤ V1.heap.size := hS1.size
          have hb2 : Below V1.heap.size V1 (V1.alloc (.cells #[.int .u8 0, .int .u8 0, .int .u8 0, .int .u8 0, .int .u8 0, .int .u8 0, .int .u8 0, .int .u8 0, .int .u8 0, .int .u8 0, .int .u8 0, .int .u8 0, .int .u8 0, .int .u8 0, .int .u8 0, .int .u8 0, .nilIface] 30)) := (Below.refl _ _).alloc (Nat.le_refl _) _
          generalize V1.alloc (.cells #[.int .u8 0, .int .u8 0, .int .u8 0, .int .u8 0, .int .u8 0, .int .u8 0, .int .u8 0, .int .u8 0, .int .u8 0, .int .u8 0, .int .u8 0, .int .u8 0, .int .u8 0, .int .u8 0, .int .u8 0, .int .u8 0, .nilIface] 30) = V2 at *
          refine hK.out _ _ (hS1.trans (hb2.mono hS1.size)) (fun hS2 => ?_)
          clear hK K
          try simp only [Act.put, List.setIfInBounds_toArray, List.set_cons_zero, List.set_cons_succ]
          refine wpAnyH_ready (rs := [3, 4]) (by kernel_rfl) (by simp) ((ready_cons (i := 3) rfl (by rfl) (fun K hK => ?_) (ready_cons (i := 4) rfl (by rfl) (fun K hK => ?_) AllReadyH.nil)))
          · go_simp
            refine (CN2.out V2).mono ?_
            rintro e V3 ⟨rfl, hb3⟩
            go_wp2_with fail
            refine hK.out _ _ (hS2.trans (hb3.mono hS2.size)) (fun hS3 => ?_)
            clear hK K
            try simp only [Act.put, List.setIfInBounds_toArray, List.set_cons_zero, List.set_cons_succ]
            replace hth2 := there_same (hb3.block _ (there_lt hth2)) hth2
            refine wpAnyH_ready (rs := [4]) (by kernel_rfl) (by simp) (ready_cons (i := 4) rfl (by rfl) (fun K hK => ?_) AllReadyH.nil)
            go_simp
            have hth1 := trie_there V3 #[.int .u8 0, .int .u8 0, .int .u8 0, .int .u8 0, .int .u8 0, .int .u8 0, .int .u8 0, .int .u8 0, .int .u8 0, .int .u8 0, .int .u8 0, .int .u8 0, .int .u8 0, .int .u8 0, .int .u8 0, .int .u8 0, .nilIface] 30 rfl
            have hl1 : w1.heap.size ≤ V3.heap.size := hS3.size
            have hb4 : Below V3.heap.size V3 (V3.alloc (.cells #[.int .u8 0, .int .u8 0, .int .u8 0, .int .u8 0, .int .u8 0, .int .u8 0, .int .u8 0, .int .u8 0, .int .u8 0, .int .u8 0, .int .u8 0, .int .u8 0, .int .u8 0, .int .u8 0, .int .u8 0, .int .u8 0, .nilIface] 30)) := (Below.refl _ _).alloc (Nat.le_refl _) _
            have hne : V3.heap.size ≠ V1.heap.size := Nat.ne_of_gt (there_lt hth2)
            replace hth2 := there_same (hb4.block _ (there_lt hth2)) hth2
            generalize V3.alloc (.cells #[.int .u8 0, .int .u8 0, .int .u8 0, .int .u8 0, .int .u8 0, .int .u8 0, .int .u8 0, .int .u8 0, .int .u8 0, .int .u8 0, .int .u8 0, .int .u8 0, .int .u8 0, .int .u8 0, .int .u8 0, .int .u8 0, .nilIface] 30) = V4 at *
            refine hK.out _ _ (hS3.trans (hb4.mono hS3.size)) (fun hS4 => ?_)
            clear hK K
            try simp only [Act.put, List.setIfInBounds_toArray, List.set_cons_zero, List.set_cons_succ]
            refine ready_op (i := 6) rfl (by kernel_rfl) (by rfl) (fun K hK => ?_)
            refine wp_store_trie (s := s) (nv := .nilIface) rfl rfl rfl HS.out rfl hth1 ?_
            refine hK.out _ _ (World.below_setCells hl1 _ _ _ hS4) (fun hS5 => ?_)
            clear hK K
            simp only [Act.put]
            refine ready_op (i := 7) rfl (by kernel_rfl) (by rfl) (fun K hK => ?_)
            refine wp_store_trie (s := t) (nv := .nilIface) rfl rfl rfl HS2.out rfl (there_same (World.other_setCells hne.symm _ _ _) hth2) ?_
            refine hK.out _ _ (World.below_setCells hl2 _ _ _ hS5) (fun hS6 => ?_)
            clear hK K
            simp only [Act.put]
            refine wpAnyH_done (by kernel_rfl) ?_ _
            exact ⟨rfl, V3.heap.size, V1.heap.size, by first | rfl | (simp only [Act.put, List.setIfInBounds_toArray, List.set_cons_zero, List.set_cons_succ]), two_start hwA hne hl1 hl2 hth1 hth2 HS.out HS2.out hS4⟩
          · go_simp
            have hth1 := trie_there V2 #[.int .u8 0, .int .u8 0, .int .u8 0, .int .u8 0, .int .u8 0, .int .u8 0, .int .u8 0, .int .u8 0, .int .u8 0, .int .u8 0, .int .u8 0, .int .u8 0, .int .u8 0, .int .u8 0, .int .u8 0, .int .u8 0, .nilIface] 30 rfl
            have hl1 : w1.heap.size ≤ V2.heap.size := hS2.size
            have hb3 : Below V2.heap.size V2 (V2.alloc (.cells #[.int .u8 0, .int .u8 0, .int .u8 0, .int .u8 0, .int .u8 0, .int .u8 0, .int .u8 0, .int .u8 0, .int .u8 0, .int .u8 0, .int .u8 0, .int .u8 0, .int .u8 0, .int .u8 0, .int .u8 0, .int .u8 0, .nilIface] 30)) := (Below.refl _ _).alloc (Nat.le_refl _) _
            have hne : V2.heap.size ≠ V1.heap.size := Nat.ne_of_gt (there_lt hth2)
            replace hth2 := there_same (hb3.block _ (there_lt hth2)) hth2
            generalize V2.alloc (.cells #[.int .u8 0, .int .u8 0, .int .u8 0, .int .u8 0, .int .u8 0, .int .u8 0, .int .u8 0, .int .u8 0, .int .u8 0, .int .u8 0, .int .u8 0, .int .u8 0, .int .u8 0, .int .u8 0, .int .u8 0, .int .u8 0, .nilIface] 30) = V3 at *
            refine hK.out _ _ (hS2.trans (hb3.mono hS2.size)) (fun hS3 => ?_)
            clear hK K
            try simp only [Act.put, List.setIfInBounds_toArray, List.set_cons_zero, List.set_cons_succ]
            refine wpAnyH_ready (rs := [3]) (by kernel_rfl) (by simp) (ready_cons (i := 3) rfl (by rfl) (fun K hK => ?_) AllReadyH.nil)
            go_simp
            refine (CN2.out V3).mono ?_
            rintro e V4 ⟨rfl, hb4⟩
            go_wp2_with fail
            refine hK.out _ _ (hS3.trans (hb4.mono hS3.size)) (fun hS4 => ?_)
            clear hK K
            try simp only [Act.put, List.setIfInBounds_toArray, List.set_cons_zero, List.set_cons_succ]
            replace hth1 := there_same (hb4.block _ (there_lt hth1)) hth1
            replace hth2 := there_same (hb4.block _ (there_lt hth2)) hth2
            refine ready_op (i := 6) rfl (by kernel_rfl) (by rfl) (fun K hK => ?_)
            refine wp_store_trie (s := s) (nv := .nilIface) rfl rfl rfl HS.out rfl hth1 ?_
            refine hK.out _ _ (World.below_setCells hl1 _ _ _ hS4) (fun hS5 => ?_)
            clear hK K
            simp only [Act.put]
            refine ready_op (i := 7) rfl (by kernel_rfl) (by rfl) (fun K hK => ?_)
            refine wp_store_trie (s := t) (nv := .nilIface) rfl rfl rfl HS2.out rfl (there_same (World.other_setCells hne.symm _ _ _) hth2) ?_
            refine hK.out _ _ (World.below_setCells hl2 _ _ _ hS5) (fun hS6 => ?_)
            clear hK K
            simp only [Act.put]
            refine wpAnyH_done (by kernel_rfl) ?_ _
            exact ⟨rfl, V2.heap.size, V1.heap.size, by first | rfl | (simp only [Act.put, List.setIfInBounds_toArray, List.set_cons_zero, List.set_cons_succ]), two_start hwA hne hl1 hl2 hth1 hth2 HS.out HS2.out hS4⟩
      · go_simp
        have hth1 := trie_there V0 #[.int .u8 0, .int .u8 0, .int .u8 0, .int .u8 0, .int .u8 0, .int .u8 0, .int .u8 0, .int .u8 0, .int .u8 0, .int .u8 0, .int .u8 0, .int .u8 0, .int .u8 0, .int .u8 0, .int .u8 0, .int .u8 0, .nilIface] 30 rfl
        have hl1 : w1.heap.size ≤ V0.heap.size := hS0.size
        have hb1 : Below V0.heap.size V0 (V0.alloc (.cells #[.int .u8 0, .int .u8 0, .int .u8 0, .int .u8 0, .int .u8 0, .int .u8 0, .int .u8 0, .int .u8 0, .int .u8 0, .int .u8 0, .int .u8 0, .int .u8 0, .int .u8 0, .int .u8 0, .int .u8 0, .int .u8 0, .nilIface] 30)) := (Below.refl _ _).alloc (Nat.le_refl _) _
        generalize V0.alloc (.cells #[.int .u8 0, .int .u8 0, .int .u8 0, .int .u8 0, .int .u8 0, .int .u8 0, .int .u8 0, .int .u8 0, .int .u8 0, .int .u8 0, .int .u8 0, .int .u8 0, .int .u8 0, .int .u8 0, .int .u8 0, .int .u8 0, .nilIface] 30) = V1 at *
        refine hK.out _ _ (hS0.trans (hb1.mono hS0.size)) (fun hS1 => ?_)
        clear hK K
        try simp only [Act.put, List.setIfInBounds_toArray, List.set_cons_zero, List.set_cons_succ]
        refine wpAnyH_ready (rs := [1, 5]) (by kernel_rfl) (by simp) ((ready_cons (i := 1) rfl (by rfl) (fun K hK => ?_) (ready_cons (i := 5) rfl (by rfl) (fun K hK => ?_) AllReadyH.nil)))
        · go_simp
          refine (CN1.out V1).mono ?_
          rintro e V2 ⟨rfl, hb2⟩
          go_wp2_with fail
          refine hK.out _ _ (hS1.trans (hb2.mono hS1.size)) (fun hS2 => ?_)
          clear hK K
          try simp only [Act.put, List.setIfInBounds_toArray, List.set_cons_zero, List.set_cons_succ]
          replace hth1 := there_same (hb2.block _ (there_lt hth1)) hth1
          refine wpAnyH_ready (rs := [3, 5]) (by kernel_rfl) (by simp) ((ready_cons (i := 3) rfl (by rfl) (fun K hK => ?_) (ready_cons (i := 5) rfl (by rfl) (fun K hK => ?_) AllReadyH.nil)))
          · go_simp
            refine (CN2.out V2).mono ?_
            rintro e V3 ⟨rfl, hb3⟩
            go_wp2_with fail
            refine hK.out _ _ (hS2.trans (hb3.mono hS2.size)) (fun hS3 => ?_)
            clear hK K
            try simp only [Act.put, List.setIfInBounds_toArray, List.set_cons_zero, List.set_cons_succ]
            replace hth1 := there_same (hb3.block _ (there_lt hth1)) hth1
            refine wpAnyH_ready (rs := [5]) (by kernel_rfl) (by simp) (ready_cons (i := 5) rfl (by rfl) (fun K hK => ?_) AllReadyH.nil)
            go_simp
            have hth2 := trie_there V3 #[.int .u8 0, .int .u8 0, .int .u8 0, .int .u8 0, .int .u8 0, .int .u8 0, .int .u8 0, .int .u8 0, .int .u8 0, .int .u8 0, .int .u8 0, .int .u8 0, .int .u8 0, .int .u8 0, .int .u8 0, .int .u8 0, .nilIface] 30 rfl
            have hl2 : w1.heap.size ≤ V3.heap.size := hS3.size
            have hb4 : Below V3.heap.size V3 (V3.alloc (.cells #[.int .u8 0, .int .u8 0, .int .u8 0, .int .u8 0, .int .u8 0, .int .u8 0, .int .u8 0, .int .u8 0, .int .u8 0, .int .u8 0, .int .u8 0, .int .u8 0, .int .u8 0, .int .u8 0, .int .u8 0, .int .u8 0, .nilIface] 30)) := (Below.refl _ _).alloc (Nat.le_refl _) _
            have hne : V0.heap.size ≠ V3.heap.size := Nat.ne_of_lt (there_lt hth1)
            replace hth1 := there_same (hb4.block _ (there_lt hth1)) hth1
            generalize V3.alloc (.cells #[.int .u8 0, .int .u8 0, .int .u8 0, .int .u8 0, .int .u8 0, .int .u8 0, .int .u8 0, .int .u8 0, .int .u8 0, .int .u8 0, .int .u8 0, .int .u8 0, .int .u8 0, .int .u8 0, .int .u8 0, .int .u8 0, .nilIface] 30) = V4 at *
            refine hK.out _ _ (hS3.trans (hb4.mono hS3.size)) (fun hS4 => ?_)
            clear hK K
            try simp only [Act.put, List.setIfInBounds_toArray, List.set_cons_zero, List.set_cons_succ]
            refine ready_op (i := 6) rfl (by kernel_rfl) (by rfl) (fun K hK => ?_)
            refine wp_store_trie (s := s) (nv := .nilIface) rfl rfl rfl HS.out rfl hth1 ?_
            refine hK.out _ _ (World.below_setCells hl1 _ _ _ hS4) (fun hS5 => ?_)
            clear hK K
            simp only [Act.put]
            refine ready_op (i := 7) rfl (by kernel_rfl) (by rfl) (fun K hK => ?_)
            refine wp_store_trie (s := t) (nv := .nilIface) rfl rfl rfl HS2.out rfl (there_same (World.other_setCells hne.symm _ _ _) hth2) ?_
            refine hK.out _ _ (World.below_setCells hl2 _ _ _ hS5) (fun hS6 => ?_)
            clear hK K
            simp only [Act.put]
            refine wpAnyH_done (by kernel_rfl) ?_ _
            exact ⟨rfl, V0.heap.size, V3.heap.size, by first | rfl | (simp only [Act.put, List.setIfInBounds_toArray, List.set_cons_zero, List.set_cons_succ]), two_start hwA hne hl1 hl2 hth1 hth2 HS.out HS2.out hS4⟩
          · go_simp
            have hth2 := trie_there V2 #[.int .u8 0, .int .u8 0, .int .u8 0, .int .u8 0, .int .u8 0, .int .u8 0, .int .u8 0, .int .u8 0, .int .u8 0, .int .u8 0, .int .u8 0, .int .u8 0, .int .u8 0, .int .u8 0, .int .u8 0, .int .u8 0, .nilIface] 30 rfl
            have hl2 : w1.heap.size ≤ V2.heap.size := hS2.size
            have hb3 : Below V2.heap.size V2 (V2.alloc (.cells #[.int .u8 0, .int .u8 0, .int .u8 0, .int .u8 0, .int .u8 0, .int .u8 0, .int .u8 0, .int .u8 0, .int .u8 0, .int .u8 0, .int .u8 0, .int .u8 0, .int .u8 0, .int .u8 0, .int .u8 0, .int .u8 0, .nilIface] 30)) := (Below.refl _ _).alloc (Nat.le_refl _) _
            have hne : V0.heap.size ≠ V2.heap.size := Nat.ne_of_lt (there_lt hth1)
            replace hth1 := there_same (hb3.block _ (there_lt hth1)) hth1
            generalize V2.alloc (.cells #[.int .u8 0, .int .u8 0, .int .u8 0, .int .u8 0, .int .u8 0, .int .u8 0, .int .u8 0, .int .u8 0, .int .u8 0, .int .u8 0, .int .u8 0, .int .u8 0, .int .u8 0, .int .u8 0, .int .u8 0, .int .u8 0, .nilIface] 30) = V3 at *
            refine hK.out _ _ (hS2.trans (hb3.mono hS2.size)) (fun hS3 => ?_)
            clear hK K
            try simp only [Act.put, List.setIfInBounds_toArray, List.set_cons_zero, List.set_cons_succ]
            refine wpAnyH_ready (rs := [3]) (by kernel_rfl) (by simp) (ready_cons (i := 3) rfl (by rfl) (fun K hK => ?_) AllReadyH.nil)
            go_simp
            refine (CN2.out V3).mono ?_
            rintro e V4 ⟨rfl, hb4⟩
            go_wp2_with fail
            refine hK.out _ _ (hS3.trans (hb4.mono hS3.size)) (fun hS4 => ?_)
            clear hK K
            try simp only [Act.put, List.setIfInBounds_toArray, List.set_cons_zero, List.set_cons_succ]
            replace hth1 := there_same (hb4.block _ (there_lt hth1)) hth1
            replace hth2 := there_same (hb4.block _ (there_lt hth2)) hth2
            refine ready_op (i := 6) rfl (by kernel_rfl) (by rfl) (fun K hK => ?_)
            refine wp_store_trie (s := s) (nv := .nilIface) rfl rfl rfl HS.out rfl hth1 ?_
            refine hK.out _ _ (World.below_setCells hl1 _ _ _ hS4) (fun hS5 => ?_)
            clear hK K
            simp only [Act.put]
            refine ready_op (i := 7) rfl (by kernel_rfl) (by rfl) (fun K hK => ?_)
            refine wp_store_trie (s := t) (nv := .nilIface) rfl rfl rfl HS2.out rfl (there_same (World.other_setCells hne.symm _ _ _) hth2) ?_
            refine hK.out _ _ (World.below_setCells hl2 _ _ _ hS5) (fun hS6 => ?_)
            clear hK K
            simp only [Act.put]
            refine wpAnyH_done (by kernel_rfl) ?_ _
            exact ⟨rfl, V0.heap.size, V2.heap.size, by first | rfl | (simp only [Act.put, List.setIfInBounds_toArray, List.set_cons_zero, List.set_cons_succ]), two_start hwA hne hl1 hl2 hth1 hth2 HS.out HS2.out hS4⟩
        · go_simp
          have hth2 := trie_there V1 #[.int .u8 0, .int .u8 0, .int .u8 0, .int .u8 0, .int .u8 0, .int .u8 0, .int .u8 0, .int .u8 0, .int .u8 0, .int .u8 0, .int .u8 0, .int .u8 0, .int .u8 0, .int .u8 0, .int .u8 0, .int .u8 0, .nilIface] 30 rfl
          have hl2 : w1.heap.size ≤ V1.heap.size := hS1.size
          have hb2 : Below V1.heap.size V1 (V1.alloc (.cells #[.int .u8 0, .int .u8 0, .int .u8 0, .int .u8 0, .int .u8 0, .int .u8 0, .int .u8 0, .int .u8 0, .int .u8 0, .int .u8 0, .int .u8 0, .int .u8 0, .int .u8 0, .int .u8 0, .int .u8 0, .int .u8 0, .nilIface] 30)) := (Below.refl _ _).alloc (Nat.le_refl _) _
          have hne : V0.heap.size ≠ V1.heap.size := Nat.ne_of_lt (there_lt hth1)
          replace hth1 := there_same (hb2.block _ (there_lt hth1)) hth1
          generalize V1.alloc (.cells #[.int .u8 0, .int .u8 0, .int .u8 0, .int .u8 0, .int .u8 0, .int .u8 0, .int .u8 0, .int .u8 0, .int .u8 0, .int .u8 0, .int .u8 0, .int .u8 0, .int .u8 0, .int .u8 0, .int .u8 0, .int .u8 0, .nilIface] 30) = V2 at *
          refine hK.out _ _ (hS1.trans (hb2.mono hS1.size)) (fun hS2 => ?_)
          clear hK K
          try simp only [Act.put, List.setIfInBounds_toArray, List.set_cons_zero, List.set_cons_succ]
          refine wpAnyH_ready (rs := [1]) (by kernel_rfl) (by simp) (ready_cons (i := 1) rfl (by rfl) (fun K hK => ?_) AllReadyH.nil)
          go_simp
          refine (CN1.out V2).mono ?_
          rintro e V3 ⟨rfl, hb3⟩
          go_wp2_with fail
          refine hK.out _ _ (hS2.trans (hb3.mono hS2.size)) (fun hS3 => ?_)
          clear hK K
          try simp only [Act.put, List.setIfInBounds_toArray, List.set_cons_zero, List.set_cons_succ]
          replace hth1 := there_same (hb3.block _ (there_lt hth1)) hth1
          replace hth2 := there_same (hb3.block _ (there_lt hth2)) hth2
          refine wpAnyH_ready (rs := [3]) (by kernel_rfl) (by simp) (ready_cons (i := 3) rfl (by rfl) (fun K hK => ?_) AllReadyH.nil)
          go_simp
          refine (CN2.out V3).mono ?_
          rintro e V4 ⟨rfl, hb4⟩
          go_wp2_with fail
          refine hK.out _ _ (hS3.trans (hb4.mono hS3.size)) (fun hS4 => ?_)
          clear hK K
          try simp only [Act.put, List.setIfInBounds_toArray, List.set_cons_zero, List.set_cons_succ]
          replace hth1 := there_same (hb4.block _ (there_lt hth1)) hth1
          replace hth2 := there_same (hb4.block _ (there_lt hth2)) hth2
          refine ready_op (i := 6) rfl (by kernel_rfl) (by rfl) (fun K hK => ?_)
          refine wp_store_trie (s := s) (nv := .nilIface) rfl rfl rfl HS.out rfl hth1 ?_
          refine hK.out _ _ (World.below_setCells hl1 _ _ _ hS4) (fun hS5 => ?_)
          clear hK K
          simp only [Act.put]
          refine ready_op (i := 7) rfl (by kernel_rfl) (by rfl) (fun K hK => ?_)
          refine wp_store_trie (s := t) (nv := .nilIface) rfl rfl rfl HS2.out rfl (there_same (World.other_setCells hne.symm _ _ _) hth2) ?_
          refine hK.out _ _ (World.below_setCells hl2 _ _ _ hS5) (fun hS6 => ?_)
          clear hK K
          simp only [Act.put]
          refine wpAnyH_done (by kernel_rfl) ?_ _
          exact ⟨rfl, V0.heap.size, V1.heap.size, by first | rfl | (simp only [Act.put, List.setIfInBounds_toArray, List.set_cons_zero, List.set_cons_succ]), two_start hwA hne hl1 hl2 hth1 hth2 HS.out HS2.out hS4⟩
      · go_simp
        have hth2 := trie_there V0 #[.int .u8 0, .int .u8 0, .int .u8 0, .int .u8 0, .int .u8 0, .int .u8 0, .int .u8 0, .int .u8 0, .int .u8 0, .int .u8 0, .int .u8 0, .int .u8 0, .int .u8 0, .int .u8 0, .int .u8 0, .int .u8 0, .nilIface] 30 rfl
        have hl2 : w1.heap.size ≤ V0.heap.size := hS0.size
        have hb1 : Below V0.heap.size V0 (V0.alloc (.cells #[.int .u8 0, .int .u8 0, .int .u8 0, .int .u8 0, .int .u8 0, .int .u8 0, .int .u8 0, .int .u8 0, .int .u8 0, .int .u8 0, .int .u8 0, .int .u8 0, .int .u8 0, .int .u8 0, .int .u8 0, .int .u8 0, .nilIface] 30)) := (Below.refl _ _).alloc (Nat.le_refl _) _
        generalize V0.alloc (.cells #[.int .u8 0, .int .u8 0, .int .u8 0, .int .u8 0, .int .u8 0, .int .u8 0, .int .u8 0, .int .u8 0, .int .u8 0, .int .u8 0, .int .u8 0, .int .u8 0, .int .u8 0, .int .u8 0, .int .u8 0, .int .u8 0, .nilIface] 30) = V1 at *
        refine hK.out _ _ (hS0.trans (hb1.mono hS0.size)) (fun hS1 => ?_)
        clear hK K
        try simp only [Act.put, List.setIfInBounds_toArray, List.set_cons_zero, List.set_cons_succ]
        refine wpAnyH_ready (rs := [1, 4]) (by kernel_rfl) (by simp) ((ready_cons (i := 1) rfl (by rfl) (fun K hK => ?_) (ready_cons (i := 4) rfl (by rfl) (fun K hK => ?_) AllReadyH.nil)))
        · go_simp
          refine (CN1.out V1).mono ?_
          rintro e V2 ⟨rfl, hb2⟩
          go_wp2_with fail
          refine hK.out _ _ (hS1.trans (hb2.mono hS1.size)) (fun hS2 => ?_)
          clear hK K
          try simp only [Act.put, List.setIfInBounds_toArray, List.set_cons_zero, List.set_cons_succ]
          replace hth2 := there_same (hb2.block _ (there_lt hth2)) hth2
          refine wpAnyH_ready (rs := [3, 4]) (by kernel_rfl) (by simp) ((ready_cons (i := 3) rfl (by rfl) (fun K hK => ?_) (ready_cons (i := 4) rfl (by rfl) (fun K hK => ?_) AllReadyH.nil)))
          · go_simp
            refine (CN2.out V2).mono ?_
            rintro e V3 ⟨rfl, hb3⟩
            go_wp2_with fail
            refine hK.out _ _ (hS2.trans (hb3.mono hS2.size)) (fun hS3 => ?_)
            clear hK K
            try simp only [Act.put, List.setIfInBounds_toArray, List.set_cons_zero, List.set_cons_succ]
            replace hth2 := there_same (hb3.block _ (there_lt hth2)) hth2
            refine wpAnyH_ready (rs := [4]) (by kernel_rfl) (by simp) (ready_cons (i := 4) rfl (by rfl) (fun K hK => ?_) AllReadyH.nil)
            go_simp
            have hth1 := trie_there V3 #[.int .u8 0, .int .u8 0, .int .u8 0, .int .u8 0, .int .u8 0, .int .u8 0, .int .u8 0, .int .u8 0, .int .u8 0, .int .u8 0, .int .u8 0, .int .u8 0, .int .u8 0, .int .u8 0, .int .u8 0, .int .u8 0, .nilIface] 30 rfl
            have hl1 : w1.heap.size ≤ V3.heap.size := hS3.size
            have hb4 : Below V3.heap.size V3 (V3.alloc (.cells #[.int .u8 0, .int .u8 0, .int .u8 0, .int .u8 0, .int .u8 0, .int .u8 0, .int .u8 0, .int .u8 0, .int .u8 0, .int .u8 0, .int .u8 0, .int .u8 0, .int .u8 0, .int .u8 0, .int .u8 0, .int .u8 0, .nilIface] 30)) := (Below.refl _ _).alloc (Nat.le_refl _) _
            have hne : V3.heap.size ≠ V0.heap.size := Nat.ne_of_gt (there_lt hth2)
            replace hth2 := there_same (hb4.block _ (there_lt hth2)) hth2
            generalize V3.alloc (.cells #[.int .u8 0, .int .u8 0, .int .u8 0, .int .u8 0, .int .u8 0, .int .u8 0, .int .u8 0, .int .u8 0, .int .u8 0, .int .u8 0, .int .u8 0, .int .u8 0, .int .u8 0, .int .u8 0, .int .u8 0, .int .u8 0, .nilIface] 30) = V4 at *
            refine hK.out _ _ (hS3.trans (hb4.mono hS3.size)) (fun hS4 => ?_)
            clear hK K
            try simp only [Act.put, List.setIfInBounds_toArray, List.set_cons_zero, List.set_cons_succ]
            refine ready_op (i := 6) rfl (by kernel_rfl) (by rfl) (fun K hK => ?_)
            refine wp_store_trie (s := s) (nv := .nilIface) rfl rfl rfl HS.out rfl hth1 ?_
            refine hK.out _ _ (World.below_setCells hl1 _ _ _ hS4) (fun hS5 => ?_)
            clear hK K
            simp only [Act.put]
            refine ready_op (i := 7) rfl (by kernel_rfl) (by rfl) (fun K hK => ?_)
            refine wp_store_trie (s := t) (nv := .nilIface) rfl rfl rfl HS2.out rfl (there_same (World.other_setCells hne.symm _ _ _) hth2) ?_
            refine hK.out _ _ (World.below_setCells hl2 _ _ _ hS5) (fun hS6 => ?_)
            clear hK K
            simp only [Act.put]
            refine wpAnyH_done (by kernel_rfl) ?_ _
            exact ⟨rfl, V3.heap.size, V0.heap.size, by first | rfl | (simp only [Act.put, List.setIfInBounds_toArray, List.set_cons_zero, List.set_cons_succ]), two_start hwA hne hl1 hl2 hth1 hth2 HS.out HS2.out hS4⟩
          · go_simp
            have hth1 := trie_there V2 #[.int .u8 0, .int .u8 0, .int .u8 0, .int .u8 0, .int .u8 0, .int .u8 0, .int .u8 0, .int .u8 0, .int .u8 0, .int .u8 0, .int .u8 0, .int .u8 0, .int .u8 0, .int .u8 0, .int .u8 0, .int .u8 0, .nilIface] 30 rfl
            have hl1 : w1.heap.size ≤ V2.heap.size := hS2.size
            have hb3 : Below V2.heap.size V2 (V2.alloc (.cells #[.int .u8 0, .int .u8 0, .int .u8 0, .int .u8 0, .int .u8 0, .int .u8 0, .int .u8 0, .int .u8 0, .int .u8 0, .int .u8 0, .int .u8 0, .int .u8 0, .int .u8 0, .int .u8 0, .int .u8 0, .int .u8 0, .nilIface] 30)) := (Below.refl _ _).alloc (Nat.le_refl _) _
            have hne : V2.heap.size ≠ V0.heap.size := Nat.ne_of_gt (there_lt hth2)
            replace hth2 := there_same (hb3.block _ (there_lt hth2)) hth2
            generalize V2.alloc (.cells #[.int .u8 0, .int .u8 0, .int .u8 0, .int .u8 0, .int .u8 0, .int .u8 0, .int .u8 0, .int .u8 0, .int .u8 0, .int .u8 0, .int .u8 0, .int .u8 0, .int .u8 0, .int .u8 0, .int .u8 0, .int .u8 0, .nilIface] 30) = V3 at *
            refine hK.out _ _ (hS2.trans (hb3.mono hS2.size)) (fun hS3 => ?_)
            clear hK K
            try simp only [Act.put, List.setIfInBounds_toArray, List.set_cons_zero, List.set_cons_succ]
            refine wpAnyH_ready (rs := [3]) (by kernel_rfl) (by simp) (ready_cons (i := 3) rfl (by rfl) (fun K hK => ?_) AllReadyH.nil)
            go_simp
            refine (CN2.out V3).mono ?_
            rintro e V4 ⟨rfl, hb4⟩
            go_wp2_with fail
            refine hK.out _ _ (hS3.trans (hb4.mono hS3.size)) (fun hS4 => ?_)
            clear hK K
            try simp only [Act.put, List.setIfInBounds_toArray, List.set_cons_zero, List.set_cons_succ]
            replace hth1 := there_same (hb4.block _ (there_lt hth1)) hth1
            replace hth2 := there_same (hb4.block _ (there_lt hth2)) hth2
            refine ready_op (i := 6) rfl (by kernel_rfl) (by rfl) (fun K hK => ?_)
            refine wp_store_trie (s := s) (nv := .nilIface) rfl rfl rfl HS.out rfl hth1 ?_
            refine hK.out _ _ (World.below_setCells hl1 _ _ _ hS4) (fun hS5 => ?_)
            clear hK K
            simp only [Act.put]
            refine ready_op (i := 7) rfl (by kernel_rfl) (by rfl) (fun K hK => ?_)
            refine wp_store_trie (s := t) (nv := .nilIface) rfl rfl rfl HS2.out rfl (there_same (World.other_setCells hne.symm _ _ _) hth2) ?_
            refine hK.out _ _ (World.below_setCells hl2 _ _ _ hS5) (fun hS6 => ?_)
            clear hK K
            simp only [Act.put]
            refine wpAnyH_done (by kernel_rfl) ?_ _
            exact ⟨rfl, V2.heap.size, V0.heap.size, by first | rfl | (simp only [Act.put, List.setIfInBounds_toArray, List.set_cons_zero, List.set_cons_succ]), two_start hwA hne hl1 hl2 hth1 hth2 HS.out HS2.out hS4⟩
        · go_simp
          have hth1 := trie_there V1 #[.int .u8 0, .int .u8 0, .int .u8 0, .int .u8 0, .int .u8 0, .int .u8 0, .int .u8 0, .int .u8 0, .int .u8 0, .int .u8 0, .int .u8 0, .int .u8 0, .int .u8 0, .int .u8 0, .int .u8 0, .int .u8 0, .nilIface] 30 rfl
          have hl1 : w1.heap.size ≤ V1.heap.size := hS1.size
          have hb2 : Below V1.heap.size V1 (V1.alloc (.cells #[.int .u8 0, .int .u8 0, .int .u8 0, .int .u8 0, .int .u8 0, .int .u8 0, .int .u8 0, .int .u8 0, .int .u8 0, .int .u8 0, .int .u8 0, .int .u8 0, .int .u8 0, .int .u8 0, .int .u8 0, .int .u8 0, .nilIface] 30)) := (Below.refl _ _).alloc (Nat.le_refl _) _
          have hne : V1.heap.size ≠ V0.heap.size := Nat.ne_of_gt (there_lt hth2)
          replace hth2 := there_same (hb2.block _ (there_lt hth2)) hth2
          generalize V1.alloc (.cells #[.int .u8 0, .int .u8 0, .int .u8 0, .int .u8 0, .int .u8 0, .int .u8 0, .int .u8 0, .int .u8 0, .int .u8 0, .int .u8 0, .int .u8 0, .int .u8 0, .int .u8 0, .int .u8 0, .int .u8 0, .int .u8 0, .nilIface] 30) = V2 at *
          refine hK.out _ _ (hS1.trans (hb2.mono hS1.size)) (fun hS2 => ?_)
          clear hK K
          try simp only [Act.put, List.setIfInBounds_toArray, List.set_cons_zero, List.set_cons_succ]
          refine wpAnyH_ready (rs := [1]) (by kernel_rfl) (by simp) (ready_cons (i := 1) rfl (by rfl) (fun K hK => ?_) AllReadyH.nil)
          go_simp
          refine (CN1.out V2).mono ?_
          rintro e V3 ⟨rfl, hb3⟩
          go_wp2_with fail
          refine hK.out _ _ (hS2.trans (hb3.mono hS2.size)) (fun hS3 => ?_)
          clear hK K
          try simp only [Act.put, List.setIfInBounds_toArray, List.set_cons_zero, List.set_cons_succ]
          replace hth1 := there_same (hb3.block _ (there_lt hth1)) hth1
          replace hth2 := there_same (hb3.block _ (there_lt hth2)) hth2
          refine wpAnyH_ready (rs := [3]) (by kernel_rfl) (by simp) (ready_cons (i := 3) rfl (by rfl) (fun K hK => ?_) AllReadyH.nil)
          go_simp
          refine (CN2.out V3).mono ?_
          rintro e V4 ⟨rfl, hb4⟩
          go_wp2_with fail
          refine hK.out _ _ (hS3.trans (hb4.mono hS3.size)) (fun hS4 => ?_)
          clear hK K
          try simp only [Act.put, List.setIfInBounds_toArray, List.set_cons_zero, List.set_cons_succ]
          replace hth1 := there_same (hb4.block _ (there_lt hth1)) hth1
          replace hth2 := there_same (hb4.block _ (there_lt hth2)) hth2
          refine ready_op (i := 6) rfl (by kernel_rfl) (by rfl) (fun K hK => ?_)
          refine wp_store_trie (s := s) (nv := .nilIface) rfl rfl rfl HS.out rfl hth1 ?_
          refine hK.out _ _ (World.below_setCells hl1 _ _ _ hS4) (fun hS5 => ?_)
          clear hK K
          simp only [Act.put]
          refine ready_op (i := 7) rfl (by kernel_rfl) (by rfl) (fun K hK => ?_)
          refine wp_store_trie (s := t) (nv := .nilIface) rfl rfl rfl HS2.out rfl (there_same (World.other_setCells hne.symm _ _ _) hth2) ?_
          refine hK.out _ _ (World.below_setCells hl2 _ _ _ hS5) (fun hS6 => ?_)
          clear hK K
          simp only [Act.put]
          refine wpAnyH_done (by kernel_rfl) ?_ _
          exact ⟨rfl, V1.heap.size, V0.heap.size, by first | rfl | (simp only [Act.put, List.setIfInBounds_toArray, List.set_cons_zero, List.set_cons_succ]), two_start hwA hne hl1 hl2 hth1 hth2 HS.out HS2.out hS4⟩
    rintro a' WA ⟨b1, b2, rfl, hTwo⟩
    simp only [Act.put, List.setIfInBounds_toArray, List.set_cons_zero, List.set_cons_succ]
    have H0 : Hid (SLoop s t l w b1 b2 (.slice none 0 0) (.int .i64 0) WA) := Lib.hid ⟨0, _, _, _, _, [], Nat.zero_le _, rfl, hTwo, RowAt.nil, mapOk_nil, Nat.le_refl _⟩
    clear hTwo hwA HRA CN1 CN2
    go_wp2_with fail
    go_loopw [9, 25] (SLoop s t l w b1 b2) (fun _ i _ => l.length - (intOf i).toNat)
    case atStart => exact H0.out
    case round =>
      obtain ⟨j, na, nb, oa, ob, m, hk, rfl, hTw, hMv, hMk, hml⟩ := hrel
      by_cases hlt : j < l.length
      · obtain ⟨b, off, u1, u2, rfl, hob, c0, c1, c2, hu, hv⟩ := op_get HR.out (List.getElem?_eq_getElem hlt)
        obtain ⟨U1, cu1, rfl⟩ := hu.form
        obtain ⟨U2, cu2, rfl⟩ := hv.form
        have hB := hTw.hB
        have hbl := World.block_lt_of_cell? w _ c0
        dsimp only at hbl
        have d0 := (hB.cell (p := ⟨b, off + j * 3, none⟩) hbl).trans c0
        have d1 := (hB.cell (p := ⟨b, off + j * 3 + 1, none⟩) hbl).trans c1
        have d2 := (hB.cell (p := ⟨b, off + j * 3 + 2, none⟩) hbl).trans c2
        have hbl2 : b < wr.heap.size := Nat.lt_of_lt_of_le hbl hB.size
        have h0 : (0 : Int) ≤ (j : Int) := by omega
        have h1 : (j : Int) < (l.length : Int) := by omega
        have hq := HBY.out l[j] (List.getElem_mem hlt)
        generalize l[j] = q at *
        obtain ⟨kd, qx, qy⟩ := q
        dsimp only at *
        obtain ⟨X, cx, rfl⟩ := hMv.form
        have hq' : qx.length ≤ 1048576 ∧ qy.length ≤ 1048576 := ⟨Nat.le_trans hq.1 (by decide), Nat.le_trans hq.2 (by decide)⟩
        obtain ⟨W1, hW1⟩ : ∃ W1, wr.alloc (.cells #[.int .i64 kd, .slice U1 qx.length cu1, .slice U2 qy.length cu2] 35) = W1 := ⟨_, rfl⟩
        have hb1 : Below wr.heap.size wr W1 := by rw [← hW1]; exact (Below.refl _ _).alloc (Nat.le_refl _) _
        have hox : W1.heap[wr.heap.size]? = some (.cells #[.int .i64 kd, .slice U1 qx.length cu1, .slice U2 qy.length cu2] 35 (0, 0)) := by rw [← hW1]; exact heap_alloc_new wr _
        have hs1 : wr.heap.size < W1.heap.size := by rw [← hW1]; simp
        have hT1 : TwoAt w b1 b2 s t m m na nb oa ob W1 := hTw.below hb1
        have hM1 : SPairsAt (Not2 b1 b2) W1 (.slice X m.length cx) m := hMv.move goodSp (Moves.below hb1)
        have SO : Hid (∀ W : World, W.heap[wr.heap.size]? = W1.heap[wr.heap.size]? → W.cell? ⟨wr.heap.size, 0, none⟩ = some (.int .i64 kd) ∧ W.cell? ⟨wr.heap.size, 1, none⟩ = some (.slice U1 qx.length cu1) ∧ W.cell? ⟨wr.heap.size, 2, none⟩ = some (.slice U2 qy.length cu2)) := Lib.hid fun W hW =>
          have h := hW.trans hox
          ⟨(cell_of_row W wr.heap.size 0 _ _ (0, 0) h).trans rfl, (cell_of_row W wr.heap.size 1 _ _ (0, 0) h).trans rfl, (cell_of_row W wr.heap.size 2 _ _ (0, 0) h).trans rfl⟩
        have CS1 := Lib.hid (step_any (hT1.in1 (q := (qx, qy)) HS.out hMk hM1 hu hv hq' HTAB.out HSTA.out) kd)
        have CS2 := Lib.hid (fun (W : World) (na' : Value) (oa' : Option Bw.N) (m' : List Bw.PV) (h : TwoAt w b1 b2 s t m' m na' nb oa' ob W) (hx : SPairsAt (Not2 b1 b2) W (.slice X m.length cx) m) => step_any (h.in2 (q := (qx, qy)) HS2.out hMk hx hu hv hq' HTAB.out HSTA.out) kd)
        have HOK := Lib.hid (stepM_ok (e := (kd, (qx, qy))) hMk (by have := HL40.out; omega) hq'.1 hq'.2)
        have hm40 : m.length ≤ 40 := by have := HL40.out; omega
        have HLT := Lib.hid hlt; have HML := Lib.hid hml; have HT1 := Lib.hid hT1; have HM1 := Lib.hid hM1; have HM40 := Lib.hid hm40
        have HNB : Hid (b1 < wr.heap.size ∧ b2 < wr.heap.size ∧ wr.heap.size < W1.heap.size) := Lib.hid ⟨hTw.t1.lt, hTw.t2.lt, hs1⟩
        obtain ⟨M', hM'⟩ : ∃ M', stepM m (kd, (qx, qy)) = M' := ⟨_, rfl⟩
        simp only [hM'] at CS1 CS2 HOK
        clear hu hv c0 c1 c2 hTw hMv hMk hml hq hq' H0 CA hlt hb1 hox hs1 hT1 hM1 hm40 hB hM'
        obtain ⟨y0, y1, y2⟩ := SO.out W1 rfl
        go_wp2_with (first
          | (refine wpl_load_trie (x := .tmp 7) rfl rfl (b := b1) rfl HS.out HT1.out.t1 ?_; simp only [Act.put, List.setIfInBounds_toArray, List.set_cons_zero, List.set_cons_succ])
          | (go_at_call 10; ((with_reducible refine CS1.out.mono ?_); rintro e w2 ⟨na2, oa2, xv2, cva, cca, rfl, hn2, hl2, hx2, _, _, _, ht2⟩; have hb2 := ht2.below; have hT2 := HT1.out.below hb2; have hone2 := one_node hn2; obtain ⟨WX, hWX⟩ : ∃ WX, w2.setCells b1 0 (trieL s na2) = WX := ⟨_, rfl⟩; have hTX := hT2.set1 HS.out hn2 hl2; rw [hWX] at hTX; have HTX := Lib.hid hTX; have HT2 := Lib.hid hT2; have HWX := Lib.hid hWX; have hMX : SPairsAt (Not2 b1 b2) WX (.slice X m.length cx) m := (by rw [← hWX]; exact (HM1.out.move goodSp (Moves.below hb2)).move goodSp (moves_set1 b1 b2 w2 _)); have CS3 := Lib.hid (CS2.out WX na2 oa2 M' hTX hMX); have hOX : WX.heap[wr.heap.size]? = W1.heap[wr.heap.size]? := (by rw [← hWX]; exact (World.other_setCells (Nat.ne_of_gt HNB.out.1) _ _ _).trans (hb2.block _ HNB.out.2.2)); obtain ⟨z0, z1, z2⟩ := SO.out WX hOX; clear hWX hTX hMX hn2 hl2 hx2 ht2 hT2 hb2))
          | (refine wpl_store_trie (x := .tmp 7) (y := .tmp 35) (s := s) (nv := na2) rfl rfl (b := b1) rfl rfl HS.out hone2 HT2.out.t1.there ?_; simp only [HWX.out, Act.put])
          | (refine wpl_load_trie (x := .tmp 8) rfl rfl (b := b2) rfl HS2.out HTX.out.t2 ?_; simp only [Act.put, List.setIfInBounds_toArray, List.set_cons_zero, List.set_cons_succ])
          | (go_at_call 10; (with_reducible refine CS3.out.mono ?_); rintro e w3 ⟨nb3, ob3, xv3, cvb, ccb, rfl, hn3, hl3, hx3, _, _, _, ht3⟩; have hb3 := ht3.below; have hT3 := HTX.out.below hb3; have hone3 := one_node hn3; obtain ⟨WY, hWY⟩ : ∃ WY, w3.setCells b2 0 (trieL t nb3) = WY := ⟨_, rfl⟩; have hTY := hT3.set2 HS2.out hn3 hl3; rw [hWY] at hTY; have HTY := Lib.hid hTY; have HT3 := Lib.hid hT3; have HWY := Lib.hid hWY; have HMY : Hid (SPairsAt (Not2 b1 b2) WY xv3 M') := Lib.hid (by rw [← hWY]; exact hx3.move goodSp (moves_set2 b1 b2 w3 _)); clear hWY hTY hn3 hl3 hx3 ht3 hT3 hb3)
          | (refine wpl_store_trie (x := .tmp 8) (y := .tmp 43) (s := t) (nv := nb3) rfl rfl (b := b2) rfl rfl HS2.out hone3 HT3.out.t2.there ?_; simp only [HWY.out, Act.put]))
        have hbd : Below WY.heap.size WY WY.drew := by (repeat (first | exact Below.refl _ _ | with_reducible assumption | refine Below.drew ?_ | refine b_drewN ?_ _ | (refine Below.alloc ?_ (by first | omega | (simp <;> omega)) _)))
        have hS0 := hbd
        have hlM : M'.length ≤ 1048576 := by have h1 := HOK.out.2; have h2 := HM40.out; omega
        have CL1 := Lib.hid (fun (W : World) (hW : Below WY.heap.size WY W) => tlen_any (s := s) HS.out (HTY.out.below hW).n1)
        have CL2 := Lib.hid (fun (W : World) (hW : Below WY.heap.size WY W) => tlen_any (s := t) HS2.out (HTY.out.below hW).n2)
        have CP1 := Lib.hid (fun (W : World) (hW : Below WY.heap.size WY W) => tpairs_any HS.out HOK.out.1 hlM (HTY.out.below hW).n1 HTY.out.y1)
        have CP2 := Lib.hid (fun (W : World) (hW : Below WY.heap.size WY W) => tpairs_any HS2.out HOK.out.1 hlM (HTY.out.below hW).n2 HTY.out.y2)
        have CIS := Lib.hid (fun (W : World) (q : Value) (ok : Nat → Prop) (hq : PairsAt ok W q M') (hW : Below WY.heap.size WY W) => (ris_any (w := W) hlM hq (HMY.out.move goodSp (Moves.below hW))).mono (R' := fun e w' => e = .returned (.bool true) ∧ Below W.heap.size W w') (fun e w' ⟨he, n, hn⟩ => ⟨by rw [he]; simp, by rw [hn]; exact b_drewN (Below.refl _ _) n⟩))
        have hmA : manyO oa2 = M'.length := ents_many HOK.out.1 HTY.out.y1
        have hmB : manyO ob3 = M'.length := ents_many HOK.out.1 HTY.out.y2
        rw [hmA] at CL1
        rw [hmB] at CL2
        clear hmA hmB y0 y1 y2 z0 z1 z2 CS2 CS3 CS1 hW1
        refine wp_region_held_drew (S := fun W => Below WY.heap.size WY W) (by kernel_rfl) hS0 (fun _ => ?_)
        generalize WY.drew = V0 at *
        refine take_op (i := 0) (v := .bool true) rfl (by kernel_rfl) (by kernel_rfl) (by kernel_rfl) (fun _ _ _ h => h) (Or.inl ⟨by rfl, fun w hw => by go_simp⟩) hS0 ?_
        simp only [Act.put, List.setIfInBounds_toArray, List.set_cons_zero, List.set_cons_succ]
        refine take_op (i := 1) (v := .bool false) rfl (by kernel_rfl) (by kernel_rfl) (by kernel_rfl) (fun _ _ _ h => h) (Or.inl ⟨by rfl, fun w hw => by go_simp⟩) hS0 ?_
        simp only [Act.put, List.setIfInBounds_toArray, List.set_cons_zero, List.set_cons_succ]
        refine take_op (i := 2) (v := .bool false) rfl (by kernel_rfl) (by kernel_rfl) (by kernel_rfl) (fun _ _ _ h => h) (Or.inl ⟨by rfl, fun w hw => by go_simp⟩) hS0 ?_
        simp only [Act.put, List.setIfInBounds_toArray, List.set_cons_zero, List.set_cons_succ]
        refine take_op (i := 3) (v := .bool true) rfl (by kernel_rfl) (by kernel_rfl) (by kernel_rfl) (fun _ _ _ h => h) (Or.inl ⟨by rfl, fun w hw => by go_simp⟩) hS0 ?_
        simp only [Act.put, List.setIfInBounds_toArray, List.set_cons_zero, List.set_cons_succ]
        refine take_op (i := 4) (v := .bool false) rfl (by kernel_rfl) (by kernel_rfl) (by kernel_rfl) (fun _ _ _ h => h) (Or.inl ⟨by rfl, fun w hw => by go_simp⟩) hS0 ?_
        simp only [Act.put, List.setIfInBounds_toArray, List.set_cons_zero, List.set_cons_succ]
        refine take_op (i := 5) (v := .bool false) rfl (by kernel_rfl) (by kernel_rfl) (by kernel_rfl) (fun _ _ _ h => h) (Or.inl ⟨by rfl, fun w hw => by go_simp⟩) hS0 ?_
        simp only [Act.put, List.setIfInBounds_toArray, List.set_cons_zero, List.set_cons_succ]
        refine take_op (i := 6) (v := .bool false) rfl (by kernel_rfl) (by kernel_rfl) (by kernel_rfl) (fun _ _ _ h => h) (Or.inl ⟨by rfl, fun w hw => by go_simp⟩) hS0 ?_
        simp only [Act.put, List.setIfInBounds_toArray, List.set_cons_zero, List.set_cons_succ]
        refine take_op (i := 7) rfl (by kernel_rfl) (by kernel_rfl) (by kernel_rfl) (fun _ _ _ h => h) (yieldsIf_load_trie (x := .tmp 7) (b := b1) (by rfl) rfl rfl HS.out (fun w h => (HTY.out.below h).t1)) hS0 ?_
        simp only [Act.put, List.setIfInBounds_toArray, List.set_cons_zero, List.set_cons_succ]
        refine take_op (i := 9) rfl (by kernel_rfl) (by kernel_rfl) (by kernel_rfl) (fun _ _ _ h => h) (yieldsIf_load_trie (x := .tmp 8) (b := b2) (by rfl) rfl rfl HS2.out (fun w h => (HTY.out.below h).t2)) hS0 ?_
        simp only [Act.put, List.setIfInBounds_toArray, List.set_cons_zero, List.set_cons_succ]
        refine ready_op (i := 8) rfl (by kernel_rfl) (by rfl) (fun K hK => ?_)
        go_simp
        refine (CL1.out V0 hS0).mono ?_
        rintro e V1 ⟨rfl, hb1⟩
        go_wp2_with fail
        refine hK.out _ _ (hS0.trans (Below.mono hb1 hS0.size)) (fun hS1 => ?_)
        clear hK K
        try simp only [Act.put, List.setIfInBounds_toArray, List.set_cons_zero, List.set_cons_succ]
        refine ready_op (i := 10) rfl (by kernel_rfl) (by rfl) (fun K hK => ?_)
        go_simp
        refine (CL2.out V1 hS1).mono ?_
        rintro e V2 ⟨rfl, hb2⟩
        go_wp2_with fail
        refine hK.out _ _ (hS1.trans (Below.mono hb2 hS1.size)) (fun hS2 => ?_)
        clear hK K
        try simp only [Act.put, List.setIfInBounds_toArray, List.set_cons_zero, List.set_cons_succ]
        refine take_op (i := 11) (v := .bool false) rfl (by kernel_rfl) (by kernel_rfl) (by kernel_rfl) (fun _ _ _ h => h) (Or.inl ⟨by rfl, fun w hw => by go_simp⟩) hS2 ?_
        simp only [Act.put, List.setIfInBounds_toArray, List.set_cons_zero, List.set_cons_succ]
        refine take_op (i := 12) (v := .bool false) rfl (by kernel_rfl) (by kernel_rfl) (by kernel_rfl) (fun _ _ _ h => h) (Or.inl ⟨by rfl, fun w hw => by go_simp⟩) hS2 ?_
        simp only [Act.put, List.setIfInBounds_toArray, List.set_cons_zero, List.set_cons_succ]
        refine take_op (i := 13) (v := .bool false) rfl (by kernel_rfl) (by kernel_rfl) (by kernel_rfl) (fun _ _ _ h => h) (Or.inl ⟨by rfl, fun w hw => by go_simp⟩) hS2 ?_
        simp only [Act.put, List.setIfInBounds_toArray, List.set_cons_zero, List.set_cons_succ]
        refine take_op (i := 14) rfl (by kernel_rfl) (by kernel_rfl) (by kernel_rfl) (fun _ _ _ h => h) (yieldsIf_load_trie (x := .tmp 7) (b := b1) (by rfl) rfl rfl HS.out (fun w h => (HTY.out.below h).t1)) hS2 ?_
        simp only [Act.put, List.setIfInBounds_toArray, List.set_cons_zero, List.set_cons_succ]
        refine take_op (i := 16) (v := xv3) rfl (by kernel_rfl) (by kernel_rfl) (by kernel_rfl) (fun _ _ _ h => h) (Or.inl ⟨by rfl, fun w hw => by go_simp⟩) hS2 ?_
        simp only [Act.put, List.setIfInBounds_toArray, List.set_cons_zero, List.set_cons_succ]
        refine ready_op (i := 15) rfl (by kernel_rfl) (by rfl) (fun K hK => ?_)
        go_simp
        refine (CP1.out V2 hS2).mono ?_
        rintro e V3 ⟨q3, rfl, hq3, hb3⟩
        go_wp2_with fail
        refine hK.out _ _ (hS2.trans (Below.mono hb3 hS2.size)) (fun hS3 => ?_)
        clear hK K
        try simp only [Act.put, List.setIfInBounds_toArray, List.set_cons_zero, List.set_cons_succ]
        refine ready_op (i := 17) rfl (by kernel_rfl) (by rfl) (fun K hK => ?_)
        go_simp
        refine (CIS.out V3 _ _ hq3 hS3).mono ?_
        rintro e V4 ⟨rfl, hb4⟩
        go_wp2_with fail
        refine hK.out _ _ (hS3.trans (Below.mono hb4 hS3.size)) (fun hS4 => ?_)
        clear hK K
        try simp only [Act.put, List.setIfInBounds_toArray, List.set_cons_zero, List.set_cons_succ]
        refine take_op (i := 18) (v := .bool false) rfl (by kernel_rfl) (by kernel_rfl) (by kernel_rfl) (fun _ _ _ h => h) (Or.inl ⟨by rfl, fun w hw => by go_simp⟩) hS4 ?_
        simp only [Act.put, List.setIfInBounds_toArray, List.set_cons_zero, List.set_cons_succ]
        refine take_op (i := 19) (v := .bool false) rfl (by kernel_rfl) (by kernel_rfl) (by kernel_rfl) (fun _ _ _ h => h) (Or.inl ⟨by rfl, fun w hw => by go_simp⟩) hS4 ?_
        simp only [Act.put, List.setIfInBounds_toArray, List.set_cons_zero, List.set_cons_succ]
        refine take_op (i := 20) (v := .bool false) rfl (by kernel_rfl) (by kernel_rfl) (by kernel_rfl) (fun _ _ _ h => h) (Or.inl ⟨by rfl, fun w hw => by go_simp⟩) hS4 ?_
        simp only [Act.put, List.setIfInBounds_toArray, List.set_cons_zero, List.set_cons_succ]
        refine take_op (i := 21) rfl (by kernel_rfl) (by kernel_rfl) (by kernel_rfl) (fun _ _ _ h => h) (yieldsIf_load_trie (x := .tmp 8) (b := b2) (by rfl) rfl rfl HS2.out (fun w h => (HTY.out.below h).t2)) hS4 ?_
        simp only [Act.put, List.setIfInBounds_toArray, List.set_cons_zero, List.set_cons_succ]
        refine take_op (i := 23) (v := xv3) rfl (by kernel_rfl) (by kernel_rfl) (by kernel_rfl) (fun _ _ _ h => h) (Or.inl ⟨by rfl, fun w hw => by go_simp⟩) hS4 ?_
        simp only [Act.put, List.setIfInBounds_toArray, List.set_cons_zero, List.set_cons_succ]
        refine ready_op (i := 22) rfl (by kernel_rfl) (by rfl) (fun K hK => ?_)
        go_simp
        refine (CP2.out V4 hS4).mono ?_
        rintro e V5 ⟨q5, rfl, hq5, hb5⟩
        go_wp2_with fail
        refine hK.out _ _ (hS4.trans (Below.mono hb5 hS4.size)) (fun hS5 => ?_)
        clear hK K
        try simp only [Act.put, List.setIfInBounds_toArray, List.set_cons_zero, List.set_cons_succ]
        refine ready_op (i := 24) rfl (by kernel_rfl) (by rfl) (fun K hK => ?_)
        go_simp
        refine (CIS.out V5 _ _ hq5 hS5).mono ?_
        rintro e V6 ⟨rfl, hb6⟩
        go_wp2_with fail
        refine hK.out _ _ (hS5.trans (Below.mono hb6 hS5.size)) (fun hS6 => ?_)
        clear hK K
        try simp only [Act.put, List.setIfInBounds_toArray, List.set_cons_zero, List.set_cons_succ]
        refine take_op (i := 25) (v := .bool false) rfl (by kernel_rfl) (by kernel_rfl) (by kernel_rfl) (fun _ _ _ h => h) (Or.inl ⟨by rfl, fun w hw => by go_simp⟩) hS6 ?_
        simp only [Act.put, List.setIfInBounds_toArray, List.set_cons_zero, List.set_cons_succ]
        refine take_op (i := 26) (v := .bool false) rfl (by kernel_rfl) (by kernel_rfl) (by kernel_rfl) (fun _ _ _ h => h) (Or.inl ⟨by rfl, fun w hw => by go_simp⟩) hS6 ?_
        simp only [Act.put, List.setIfInBounds_toArray, List.set_cons_zero, List.set_cons_succ]
        refine wpAnyH_done (by kernel_rfl) ?_ _
        have HS6 := Lib.hid hS6
        clear hS0 hS1 hS2 hS3 hS4 hS5 hS6 hb1 hb2 hb3 hb4 hb5 hb6 hq3 hq5 hbd CL1 CL2 CP1 CP2 CIS
        go_wp2_with fail
        exact ⟨⟨j + 1, na2, nb3, oa2, ob3, M', HLT.out, int_succ HLT.out HL.out, HTY.out.below HS6.out, HMY.out.move goodSp (Moves.below HS6.out), HOK.out.1, Nat.le_trans HOK.out.2 (Nat.succ_le_succ HML.out)⟩, less_succ HLT.out HL.out⟩
      · obtain rfl : j = l.length := by omega
        have HB := Lib.hid hTw.hB
        have CAW := Lib.hid (CA.out wr hTw.hB)
        clear hlt hTw hMv hMk hml H0 CA
        go_wp2_with (go_at_call 8; (with_reducible refine CAW.out.mono ?_); rintro e w2 ⟨rfl, hb2⟩; have HB2 := Lib.hid (HB.out.trans (hb2.mono HB.out.size)))
        go_ret
        exact ⟨rfl, HB2.out⟩
end Go.Proofs.YtadaoceidkagfaaGreatDoor
