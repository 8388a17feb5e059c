/- ref21.Lay. Printed by mklay21.py. -/
import Derived.Test.YtadaoceidkagfaaGreatDoorRefH
import Derived.Test.YtadaoceidkagfaaGreatDoorEntA
import Derived.Test.YtadaoceidkagfaaGreatDoorTwoA
import Derived.Test.YtadaoceidkagfaaGreatDoorLayAll
namespace Go.Proofs.YtadaoceidkagfaaGreatDoor
open Go.RowKit Go.Bw
theorem cells5 {W : World} {b : Nat} {a0 a1 a2 a3 a4 : Value} {t : TypeId} (h : W.heap[b]? = some (.cells #[a0, a1, a2, a3, a4] t (0, 0))) :
    W.cell? ⟨b, 0, none⟩ = some a0 /\ W.cell? ⟨b, 1, none⟩ = some a1 /\ W.cell? ⟨b, 2, none⟩ = some a2 /\ W.cell? ⟨b, 3, none⟩ = some a3 /\ W.cell? ⟨b, 4, none⟩ = some a4 /\ W.frozen? ⟨b, 0, none⟩ = false /\ W.frozen? ⟨b, 1, none⟩ = false /\ W.frozen? ⟨b, 2, none⟩ = false /\ W.frozen? ⟨b, 3, none⟩ = false /\ W.frozen? ⟨b, 4, none⟩ = false := by
  refine ⟨?_, ?_, ?_, ?_, ?_, ?_, ?_, ?_, ?_, ?_⟩ <;> simp [World.cell?, World.frozen?, h]
theorem put5 {W : World} {b : Nat} {a0 a1 a2 a3 a4 x0 x1 x2 x3 x4 : Value} {t : TypeId} (h : W.heap[b]? = some (.cells #[a0, a1, a2, a3, a4] t (0, 0))) :
    (((((W.setCell ⟨b, 0, none⟩ x0).setCell ⟨b, 1, none⟩ x1).setCell ⟨b, 2, none⟩ x2).setCell ⟨b, 3, none⟩ x3).setCell ⟨b, 4, none⟩ x4).heap[b]? = some (.cells #[x0, x1, x2, x3, x4] t (0, 0)) := by
  simp [World.setCell, Array.getElem?_modify, h]
theorem put5_other {W : World} {b k : Nat} {x0 x1 x2 x3 x4 : Value} (h : k ≠ b) :
    (((((W.setCell ⟨b, 0, none⟩ x0).setCell ⟨b, 1, none⟩ x1).setCell ⟨b, 2, none⟩ x2).setCell ⟨b, 3, none⟩ x3).setCell ⟨b, 4, none⟩ x4).heap[k]? = W.heap[k]? := by
  have h' : ¬ b = k := fun e => h e.symm
  simp [World.setCell, Array.getElem?_modify, h']
def Lay21R (s : List UInt8) (m : List Bw.PV) (w : World) (out i : Value) (W : World) : Prop :=
  ∃ k : Nat, k <= m.length /\ i = .int .i64 (k : Nat) /\ OwnAt 94 3 senK (fun b => w.heap.size + 2 <= b) W (w.heap.size + 2) out (Bw.ents (Bw.sipHash s) (m.take k)) /\ W.rangeAt w.heap.size 0 (seedL s) /\
    W.heap[w.heap.size + 1]? = some (.cells #[.int .i64 0, .int .u64 0, .slice none 0 0, .slice none 0 0, .slice none 0 0] 51 (0, 0)) /\ w.heap.size + 2 <= W.heap.size /\ Below w.heap.size w W
set_option maxRecDepth 100000 in
set_option maxHeartbeats 2000000 in
theorem rlay21_any {ok : Nat -> Prop} {s : List UInt8} {m : List Bw.PV} {v : Value} {w : World} (hs : s.length = 16) (hm : MapOk m) (hl : m.length <= 1048576) (hr : SPairsAt ok w v m) :
    Calls Tryz.prog 16 #[seedV s, v] w (Gives w (LayTold w (Bw.layX 13 0 (Bw.ents (Bw.sipHash s) m)))) := by
  obtain ⟨A, c, rfl⟩ := hr.form
  have HR := Lib.hid (hr.move (ok' := fun b => b < w.heap.size) goodSp (Moves.weaken fun b _ h => h))
  have HL := Lib.hid hl; have HS := Lib.hid hs; have HM := Lib.hid hm
  have CH := Lib.hid (fun (W : World) (q : Bw.Bytes) (hq : q.length <= 1048576) => hash05_any hs hq W)
  obtain ⟨i0, hi, hz0, hz1, hz2⟩ := info_parts infoE
  have HI := Lib.hid hi; have HZ0 := Lib.hid hz0; have HZ1 := Lib.hid hz1; have HZ2 := Lib.hid hz2
  obtain ⟨W0, hW0⟩ : ∃ W0, (w.alloc (.cells (seedL s).toArray 22)).alloc (.cells #[.int .i64 0, .int .u64 0, .slice none 0 0, .slice none 0 0, .slice none 0 0] 51) = W0 := ⟨_, rfl⟩
  have hB0 : Below w.heap.size w W0 := by rw [<- hW0]; exact ((Below.refl _ _).alloc (Nat.le_refl _) _).alloc (by simp) _
  have hs0 : W0.heap.size = w.heap.size + 2 := by rw [<- hW0]; simp
  have hr1 : W0.rangeAt w.heap.size 0 (seedL s) := by rw [<- hW0]; exact rng_same (heap_alloc_old _ _ (by simp)) seed_in16
  have hr2 : W0.heap[w.heap.size + 1]? = some (.cells #[.int .i64 0, .int .u64 0, .slice none 0 0, .slice none 0 0, .slice none 0 0] 51 (0, 0)) := by
    rw [<- hW0]
    have := heap_alloc_new (w.alloc (.cells (seedL s).toArray 22)) (.cells #[.int .i64 0, .int .u64 0, .slice none 0 0, .slice none 0 0, .slice none 0 0] 51)
    simpa using this
  have H0 : Hid (Lay21R s m w (.slice none 0 0) (.int .i64 0) W0) := Lib.hid ⟨0, Nat.zero_le _, rfl, OwnAt.nil, hr1, hr2, by omega, hB0⟩
  have HW0 := Lib.hid hW0
  simp only [seedV_is]
  clear hr hl hs hm hi hz0 hz1 hz2 hW0 hB0 hs0 hr1 hr2
  go_enter Tryz.func16, Tryz.ntmps16
  go_wp2_with (rw [HW0.out])
  go_loopw [5, 10] (Lay21R s m w) (fun _ i _ => m.length - (intOf i).toNat)
  case atStart => exact H0.out
  case round =>
    obtain ⟨k, hk, rfl, hown, hrg, hrb, hsz, hB⟩ := hrel
    by_cases hlt : k < m.length
    · obtain ⟨b, o, rfl, hob, c0, c1⟩ := sp_get HR.out (List.getElem?_eq_getElem hlt)
      have hbl := World.block_lt_of_cell? w _ c0
      dsimp only at hbl
      have d0 := (hB.cell (p := ⟨b, o + k * 2, none⟩) hbl).trans c0
      have d1 := (hB.cell (p := ⟨b, o + k * 2 + 1, none⟩) hbl).trans c1
      have hbl2 : b < wr.heap.size := Nat.lt_of_lt_of_le hbl hB.size
      have h0 : (0 : Int) <= (k : Int) := by omega
      have h1 : (k : Int) < (m.length : Int) := by omega
      have hsn : Bw.ents (Bw.sipHash s) (m.take (k + 1)) = Bw.ents (Bw.sipHash s) (m.take k) ++ [(Bw.sipHash s m[k].1, m[k])] := by unfold Bw.ents; rw [take_succ_snoc hlt, List.map_append]; rfl
      have hlen : (Bw.ents (Bw.sipHash s) (m.take k)).length = k := by simp [Bw.ents]; omega
      have hkq := (HM.out.bytes m[k] (List.getElem_mem hlt)).1
      generalize m[k] = q at *
      obtain ⟨qx, qy⟩ := q
      simp only [str] at d0 d1
      dsimp only at hsn hkq
      obtain ⟨W1, hW1⟩ : ∃ W1, wr.alloc (.cells #[.string ⟨qx.toArray⟩, .string ⟨qy.toArray⟩] 55) = W1 := ⟨_, rfl⟩
      have hwr : Below wr.heap.size wr W1 := by rw [<- hW1]; exact (Below.refl _ _).alloc (Nat.le_refl _) _
      have hbx : W1.heap[wr.heap.size]? = some (.cells #[.string ⟨qx.toArray⟩, .string ⟨qy.toArray⟩] 55 (0, 0)) := by rw [<- hW1]; exact heap_alloc_new wr _
      have HW1S : Hid (wr.heap.size < W1.heap.size) := Lib.hid (heap_lt hbx)
      have HSB : Hid (∀ W, Below W1.heap.size W1 W -> (fun W : World => W.rangeAt w.heap.size 0 (seedL s) /\ W.cell? ⟨wr.heap.size, 0, none⟩ = some (.string ⟨qx.toArray⟩) /\ W.cell? ⟨wr.heap.size, 1, none⟩ = some (.string ⟨qy.toArray⟩)) W) := Lib.hid fun W hW =>
        ⟨rng_same (hW.block w.heap.size (by have := hwr.size; omega)) (rng_same (hwr.block w.heap.size (by omega)) hrg), (cell_of_row W wr.heap.size 0 _ _ (0, 0) ((hW.block _ (heap_lt hbx)).trans hbx)).trans rfl, (cell_of_row W wr.heap.size 1 _ _ (0, 0) ((hW.block _ (heap_lt hbx)).trans hbx)).trans rfl⟩
      have HRB : Hid (∀ W, Below W1.heap.size W1 W -> W.heap[w.heap.size + 1]? = some (.cells #[.int .i64 0, .int .u64 0, .slice none 0 0, .slice none 0 0, .slice none 0 0] 51 (0, 0))) := Lib.hid fun W hW =>
        (hW.block (w.heap.size + 1) (by have := hwr.size; omega)).trans ((hwr.block (w.heap.size + 1) (by omega)).trans hrb)
      obtain ⟨AA, cc, hvv⟩ := (hown.row goodSen).form
      rw [hlen] at hvv
      subst hvv
      have HQX := Lib.hid hkq; have HOWN := Lib.hid hown; have HBB := Lib.hid hB; have HSN := Lib.hid hsn; have HLN := Lib.hid hlen; have HLT := Lib.hid hlt; have HSZ : Hid (w.heap.size + 2 <= wr.heap.size) := Lib.hid hsz
      have CHQ := CH.out
      obtain ⟨hh, hhe⟩ : ∃ hh, Bw.sipHash s qx = hh := ⟨_, rfl⟩
      have CH' := fun W (hq : qx.length <= 1048576) => CH.out W qx hq
      rw [hhe] at CH' hsn
      rw [hhe] at HSN
      have CH := Lib.hid (fun (W : World) (q : Bw.Bytes) (hq : qx.length <= 1048576) => CH' W hq)
      have hW0 : Below W1.heap.size W1 W1.drew := by exact gB3
      have hS0 := HSB.out _ hW0
      have hc0 : W1.cell? ⟨wr.heap.size, 0, none⟩ = some (.string ⟨qx.toArray⟩) := (HSB.out _ (Below.refl _ _)).2.1
      clear c0 c1 hB hsn hown hlen hkq hhe hlt hrg hrb hsz hk H0 CHQ CH' hbx hc0
      go_wp2_with (rw [hW1])
      have HSZ2 : Hid (w.heap.size + 2 <= wr.heap.size) := HSZ
      refine wp_region_held_drew (S := fun W : World => W.rangeAt w.heap.size 0 (seedL s) /\ W.cell? ⟨wr.heap.size, 0, none⟩ = some (.string ⟨qx.toArray⟩) /\ W.cell? ⟨wr.heap.size, 1, none⟩ = some (.string ⟨qy.toArray⟩)) (by kernel_rfl) hS0 (fun _ => ?_)
      generalize W1.drew = V0 at *
      refine take_op (i := 0) (v := .slice AA k cc) rfl (by kernel_rfl) (by kernel_rfl) (by kernel_rfl) (fun _ _ _ h => h) (Or.inl ⟨by rfl, fun w hw => by go_simp⟩) hS0 ?_
      simp only [Act.put, List.setIfInBounds_toArray, List.set_cons_zero, List.set_cons_succ]
      refine take_op (i := 1) rfl (by kernel_rfl) (by kernel_rfl) (by kernel_rfl) (fun _ _ _ h => h) (yieldsIf_load_16 (x := .tmp 2) (b := w.heap.size) (by rfl) rfl rfl HS.out (fun W h => h.1)) hS0 ?_
      simp only [Act.put, List.setIfInBounds_toArray, List.set_cons_zero, List.set_cons_succ]
      refine take_op (i := 2) (v := .pointer (some ⟨wr.heap.size, 0, none⟩)) rfl (by kernel_rfl) (by kernel_rfl) (by kernel_rfl) (fun _ _ _ h => h) (Or.inl ⟨by rfl, fun w hw => by go_simp⟩) hS0 ?_
      simp only [Act.put, List.setIfInBounds_toArray, List.set_cons_zero, List.set_cons_succ]
      refine take_op (i := 3) (v := .string ⟨qx.toArray⟩) rfl (by kernel_rfl) (by kernel_rfl) (by kernel_rfl) (fun _ _ _ h => h) (Or.inl ⟨by rfl, fun W hw => by have c := hw.2.1; go_simp⟩) hS0 ?_
      simp only [Act.put, List.setIfInBounds_toArray, List.set_cons_zero, List.set_cons_succ]
      refine take_op (i := 5) (v := .agg #[.string ⟨qx.toArray⟩, .string ⟨qy.toArray⟩]) rfl (by kernel_rfl) (by kernel_rfl) (by kernel_rfl) (fun _ _ _ h => h) (Or.inl ⟨by rfl, fun W hw => by have c := hw.2.1; have c2 := hw.2.2; go_simp⟩) hS0 ?_
      simp only [Act.put, List.setIfInBounds_toArray, List.set_cons_zero, List.set_cons_succ]
      refine wpAnyH_ready (rs := [4]) (by kernel_rfl) (by simp) (ready_cons (i := 4) rfl (by rfl) (fun K hK => ?_) AllReadyH.nil)
      go_simp
      refine (CH.out V0 qx HQX.out).mono ?_
      rintro e V1 ⟨rfl, hb1⟩
      go_wp2_with fail
      have hw1 := hW0.trans (Below.mono hb1 hW0.size)
      refine hK.out _ _ (HSB.out _ hw1) (fun hS1 => ?_)
      clear hK K
      try simp only [Act.put, List.setIfInBounds_toArray, List.set_cons_zero, List.set_cons_succ]
      refine take_op (i := 6) (v := .agg #[.int .u64 (hh : Nat), .string ⟨qx.toArray⟩, .string ⟨qy.toArray⟩]) rfl (by kernel_rfl) (by kernel_rfl) (by kernel_rfl) (fun _ _ _ h => h) (Or.inl ⟨by rfl, fun w hw => by go_simp⟩) hS1 ?_
      simp only [Act.put, List.setIfInBounds_toArray, List.set_cons_zero, List.set_cons_succ]
      refine wpAnyH_ready (rs := [7]) (by kernel_rfl) (by simp) (ready_cons (i := 7) rfl (by rfl) (fun K hK => ?_) AllReadyH.nil)
      go_simp
      have hb2 : Below V1.heap.size V1 (V1.alloc (.cells #[.int .u64 (hh : Nat), .string ⟨qx.toArray⟩, .string ⟨qy.toArray⟩] 94)) := (Below.refl _ _).alloc (Nat.le_refl _) _
      refine hK.out _ _ (HSB.out _ (hw1.trans (Below.mono hb2 hw1.size))) (fun hS2 => ?_)
      clear hK K
      try simp only [Act.put, List.setIfInBounds_toArray, List.set_cons_zero, List.set_cons_succ]
      refine wpAnyH_ready (rs := [8]) (by kernel_rfl) (by simp) (ready_cons (i := 8) rfl (by rfl) (fun K hK => ?_) AllReadyH.nil)
      refine wpo_app1 goodSen (.tmp 14) (.tmp 21) 91 rfl (w.heap.size + 2) 94 i0 _ 40 Tryz.underlying91 HI.out HZ0.out HZ1.out HZ2.out rfl (by decide) (.slice AA k cc) (Bw.ents (Bw.sipHash s) (m.take k)) rfl (HOWN.out.move goodSen (Moves.below (hwr.trans (Below.mono hw1 hwr.size)))) (hh, (qx, qy)) #[.int .u64 (hh : Nat), .string ⟨qx.toArray⟩, .string ⟨qy.toArray⟩] 94 (by go_simp) senK_mk (fun b hb => ?_) (by have := HLN.out; have := HL.out; omega) (by decide) ?_ ?_
      · have h1 := hwr.size; have h2 := hw1.size; have h3 := HSZ.out; omega
      · have h1 := hwr.size; have h2 := hw1.size; have h3 := HSZ.out; omega
      intro v3 V3 hown3 hb3 hat3 hg3
      have hsb3 := HSB.out V1 hw1
      have hne : ∀ b, b < W1.heap.size -> some b ≠ Value.ownBlock (.slice AA k cc) -> V3.heap[b]? = V1.heap[b]? := fun b hb hn => hg3.block b (Nat.lt_of_lt_of_le hb hw1.size) hn
      have hnw : some wr.heap.size ≠ Value.ownBlock (.slice AA k cc) := fun e => by have := (HOWN.out.lt _ e.symm).2; omega
      have hns : some w.heap.size ≠ Value.ownBlock (.slice AA k cc) := fun e => by have := (HOWN.out.lt _ e.symm).1; omega
      have hlw : wr.heap.size < W1.heap.size := HW1S.out
      refine hK.out _ _ ⟨rng_same (hne w.heap.size (by have := HSZ.out; omega) hns) hsb3.1, (World.cell?_of_block (a := ⟨wr.heap.size, 0, none⟩) (hne wr.heap.size hlw hnw)).trans hsb3.2.1, (World.cell?_of_block (a := ⟨wr.heap.size, 1, none⟩) (hne wr.heap.size hlw hnw)).trans hsb3.2.2⟩ (fun hS3 => ?_)
      clear hK K
      try simp only [Act.put, List.setIfInBounds_toArray, List.set_cons_zero, List.set_cons_succ]
      refine take_op (i := 9) (v := v3) rfl (by kernel_rfl) (by kernel_rfl) (by kernel_rfl) (fun _ _ _ h => h) (Or.inl ⟨by rfl, fun w hw => by go_simp⟩) hS3 ?_
      simp only [Act.put, List.setIfInBounds_toArray, List.set_cons_zero, List.set_cons_succ]
      refine wpAnyH_done (by kernel_rfl) ?_ _
      go_wp2_with fail
      rw [int_wrap HLT.out HL.out]
      exact ⟨⟨k + 1, HLT.out, rfl, by rw [HSN.out]; exact hown3, rng_same (hne w.heap.size (by have := HSZ.out; omega) hns) hsb3.1, (hne (w.heap.size + 1) (by have := HSZ.out; omega) (fun e => by have := (HOWN.out.lt _ e.symm).1; omega)).trans (HRB.out _ hw1), (by have := HSZ.out; have := hwr.size; have := hw1.size; have := hg3.size; omega), (HBB.out.trans ((hwr.trans (Below.mono hw1 hwr.size)).mono HBB.out.size)).trans (hb3.mono (by omega))⟩, by have := HLT.out; simp only [intOf]; omega⟩
    · obtain rfl : k = m.length := by omega
      rw [List.take_length] at hown
      obtain ⟨AA, cc, hvv⟩ := (hown.row goodSen).form
      have hlen := Bw.length_ents (Bw.sipHash s) m
      rw [hlen] at hvv
      subst hvv
      have hLK := ents_lay (F := Bw.sipHash s) (fun q => Bw.sipHash_lt s q) HM.out
      have hrow := hown.row goodSen
      have CL := rlay_any 13 0 (Bw.ents (Bw.sipHash s) m) _ (.slice AA m.length cc) wr rfl hLK.len hLK.bytes hLK.hash hLK.res hrow
      obtain ⟨X, hX⟩ : ∃ X, Bw.layX 13 0 (Bw.ents (Bw.sipHash s) m) = X := ⟨_, rfl⟩
      rw [hX] at CL
      have HX := Lib.hid hX
      have CL := Lib.hid CL
      have HB := Lib.hid hB; have HRB := Lib.hid hrb; have HSZ := Lib.hid hsz
      clear hown hlen hLK hrow hX hB hrb hrg hsz hlt hk H0 HW0
      obtain ⟨kx, gx, px, sx, nx⟩ := X
      go_wp2_with fail
      refine CL.out.mono ?_
      rintro e w2 ⟨q, rfl, ⟨cs, rfl, hx⟩, hb2⟩
      obtain ⟨vp, vs, vk, rfl, hp, hs', hk'⟩ := xK_iff.1 hx
      obtain ⟨P6, cp6, rfl⟩ := hp.form
      obtain ⟨S6, cs6, rfl⟩ := hs'.form
      obtain ⟨K6, ck6, rfl⟩ := hk'.form
      have hbk := (hb2.block (w.heap.size + 1) (by have := HSZ.out; omega)).trans HRB.out
      obtain ⟨k0, k1, k2, k3, k4, f0, f1, f2, f3, f4⟩ := cells5 hbk
      have HXX := Lib.hid hx
      have HB2 := Lib.hid (HB.out.trans (hb2.mono HB.out.size))
      have HSR := HSZ.out
      have hE := put5 (x0 := .int .i64 (kx : Nat)) (x1 := .int .u64 (gx : Nat)) (x2 := .slice P6 px.length cp6) (x3 := .slice S6 sx.length cs6) (x4 := .slice K6 nx.length ck6) hbk
      have HE := Lib.hid hE
      have HWS : Hid (wr.heap.size <= w2.heap.size) := Lib.hid hb2.size
      clear hx hp hs' hk' hbk CL hE
      go_wp2
      obtain ⟨l0, l1, l2, l3, l4, _⟩ := cells5 HE.out
      clear k0 k1 k2 k3 k4 f0 f1 f2 f3 f4
      refine bodyPost_ret (v := .agg #[.int .i64 (kx : Nat), .int .u64 (gx : Nat), .slice P6 px.length cp6, .slice S6 sx.length cs6, .slice K6 nx.length ck6]) ?_ rfl ?_
      · simp [results, Tryz.results16, go_sem, l0, l1, l2, l3, l4]
      · clear l0 l1 l2 l3 l4
        refine ⟨_, rfl, ⟨_, rfl, by rw [HX.out]; exact XAt.move (ok := fun b => wr.heap.size <= b) (fun b hb hbl => ⟨Nat.le_trans (by omega) hb, put5_other (by omega)⟩) _ _ HXX.out⟩, ?_⟩
        have hbb := HB2.out
        exact gB5
end Go.Proofs.YtadaoceidkagfaaGreatDoor
