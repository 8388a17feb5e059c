/- brushwoodref18.End. -/
import Derived.Test.YtehkjnmnbplcoaaGreatDoorFind
import Derived.Test.YtehkjnmnbplcoaaGreatDoorLayAll
namespace Go.Proofs.YtehkjnmnbplcoaaGreatDoor
open Go.RowKit Go.Bw

theorem cell_two (w : World) (o : Obj) (cs : Array Value) (t : TypeId) (i : Nat) (v : Value) (h : cs[i]? = some v) : ((w.alloc o).alloc (.cells cs t)).cell? ⟨w.heap.size + 1, i, none⟩ = some v := by
  have := heap_alloc_new (w.alloc o) (.cells cs t)
  rw [World.size_alloc] at this
  simp only [World.cell?, this]
  exact h

set_option maxRecDepth 100000 in
set_option maxHeartbeats 1000000 in
theorem rend_flat {ok : Nat → Prop} {k g h level : Nat} {ps : List Bw.PV} {cs : List Value} {w : World} (hk : k ≠ 3) (hx : xK ok w (.mk k g ps [] []) cs) :
    Calls Tryz.prog 8 #[.agg cs.toArray, .int .u64 (h : Nat), .int .i64 (level : Nat)] w fun e w' => e = .returned (.tuple #[.agg cs.toArray, .int .i64 0]) ∧ Below w.heap.size w w' := by
  obtain ⟨vp, vs, vk, rfl, hp, hs, hkk⟩ := xK_iff.1 hx
  obtain ⟨P, cp, rfl⟩ := hp.form
  obtain ⟨S, c2, rfl⟩ := hs.form
  obtain ⟨K, ck, rfl⟩ := hkk.form
  have hne : ((k : Int) != 3) = true := by rw [bne_iff_ne]; omega
  clear hx hp hs hkk hk
  go_enter Tryz.func8, Tryz.ntmps8
  go_wp2_with fail
  obtain ⟨W9, hW9⟩ : ∃ W9, (w.alloc (.cells #[.int .i64 (k : Nat), .int .u64 (g : Nat), .slice P ps.length cp, .slice S 0 c2, .slice K 0 ck] 37)).alloc (.cells #[.int .i64 (k : Nat), .int .u64 (g : Nat), .slice P ps.length cp, .slice S 0 c2, .slice K 0 ck] 37) = W9 := ⟨_, rfl⟩
  rw [hW9]
  have z0 : W9.cell? ⟨w.heap.size + 1, 0, none⟩ = some (.int .i64 (k : Nat)) := by rw [← hW9]; exact cell_two _ _ _ _ 0 _ rfl
  have z1 : W9.cell? ⟨w.heap.size + 1, 1, none⟩ = some (.int .u64 (g : Nat)) := by rw [← hW9]; exact cell_two _ _ _ _ 1 _ rfl
  have z2 : W9.cell? ⟨w.heap.size + 1, 2, none⟩ = some (.slice P ps.length cp) := by rw [← hW9]; exact cell_two _ _ _ _ 2 _ rfl
  have z3 : W9.cell? ⟨w.heap.size + 1, 3, none⟩ = some (.slice S 0 c2) := by rw [← hW9]; exact cell_two _ _ _ _ 3 _ rfl
  have z4 : W9.cell? ⟨w.heap.size + 1, 4, none⟩ = some (.slice K 0 ck) := by rw [← hW9]; exact cell_two _ _ _ _ 4 _ rfl
  refine bodyPost_ret (v := .tuple #[.agg #[.int .i64 (k : Nat), .int .u64 (g : Nat), .slice P ps.length cp, .slice S 0 c2, .slice K 0 ck], .int .i64 (0)]) (by simp [results, Tryz.results8, go_sem, z0, z1, z2, z3, z4]) rfl ⟨rfl, by rw [← hW9]; (repeat (first | exact Below.refl _ _ | with_reducible assumption | refine Below.drew ?_ | refine b_drewN ?_ _ | (refine Below.alloc ?_ (by first | omega | (simp <;> omega)) _)))⟩

/-- a result's block, its five cells stored -/
theorem heap9 {W : World} {b : Nat} {t : TypeId} {c0 c1 c2 c3 c4 : Value} (h : W.heap[b]? = some (.cells #[c0, c1, c2, c3, c4] t (0, 0))) (a0 a1 a2 a3 a4 : Value) :
    (((((W.setCell ⟨b, 0, none⟩ a0).setCell ⟨b, 1, none⟩ a1).setCell ⟨b, 2, none⟩ a2).setCell ⟨b, 3, none⟩ a3).setCell ⟨b, 4, none⟩ a4).heap[b]? = some (.cells #[a0, a1, a2, a3, a4] t (0, 0)) := by
  have := Joins.block_setCell (Joins.block_setCell (Joins.block_setCell (Joins.block_setCell (Joins.block_setCell h (i := 0) a0) (i := 1) a1) (i := 2) a2) (i := 3) a3) (i := 4) a4
  simpa using this

theorem set5 {n b : Nat} {w W : World} (h : Below n w W) (hb : n ≤ b) (a0 a1 a2 a3 a4 : Value) : Below n w (((((W.setCell ⟨b, 0, none⟩ a0).setCell ⟨b, 1, none⟩ a1).setCell ⟨b, 2, none⟩ a2).setCell ⟨b, 3, none⟩ a3).setCell ⟨b, 4, none⟩ a4) :=
  ((((h.setCell (p := ⟨b, 0, none⟩) hb _).setCell (p := ⟨b, 1, none⟩) hb _).setCell (p := ⟨b, 2, none⟩) hb _).setCell (p := ⟨b, 3, none⟩) hb _).setCell (p := ⟨b, 4, none⟩) hb _
theorem blk9 {W : World} {b : Nat} {o x : Obj} (h : W.heap[b]? = some x) : (W.alloc o).heap[b]? = some x := (Below.heap_alloc W o b (Array.getElem?_eq_some_iff.1 h).1).trans h

/-- what was made after a block's making lies as it lay, where that block's cells are stored -/
theorem keepX {ok : Nat → Prop} {n0 n : Nat} {w6 W : World} {x : Bw.X} {cs : List Value} (hn : n0 ≤ n) (hx : xK (fun k => ok k ∧ k < n0) w6 x cs) (hb : Below w6.heap.size w6 W) (a0 a1 a2 a3 a4 : Value) :
    xK ok (((((W.setCell ⟨n, 0, none⟩ a0).setCell ⟨n, 1, none⟩ a1).setCell ⟨n, 2, none⟩ a2).setCell ⟨n, 3, none⟩ a3).setCell ⟨n, 4, none⟩ a4) x cs :=
  goodX.move (fun k hk hl => ⟨hk.1, by
    have hne : k ≠ n := by have := hk.2; omega
    rw [Below.heap_setCell _ ⟨n, 4, none⟩ _ k hne, Below.heap_setCell _ ⟨n, 3, none⟩ _ k hne, Below.heap_setCell _ ⟨n, 2, none⟩ _ k hne, Below.heap_setCell _ ⟨n, 1, none⟩ _ k hne, Below.heap_setCell _ ⟨n, 0, none⟩ _ k hne]
    exact hb.block k hl⟩) hx

theorem five_of {α : Type} {l : List α} (h : l.length = 5) : ∃ a b c d e, l = [a, b, c, d, e] := by
  match l, h with
  | [a, b, c, d, e], _ => exact ⟨a, b, c, d, e, rfl⟩

def EndRel (m cc : Nat) (W2 : World) (i : Value) (wr : World) : Prop := ∃ k : Nat, k ≤ (Bw.bitsOf m).length ∧ i = .int .i64 k ∧ (∀ (j : Nat) (c : Nat), j < k → (Bw.bitsOf m)[j]? = some c → c ≠ cc) ∧ Below W2.heap.size W2 wr

def EndSays (ok : Nat → Prop) (o : Option Bw.N) (h level f : Nat) (cs : List Value) (w : World) : Prop :=
  Calls Tryz.prog 8 #[.agg cs.toArray, .int .u64 (h : Nat), .int .i64 (level : Nat)] w fun e w' => ∃ cs', e = .returned (.tuple #[.agg cs'.toArray, .int .i64 ((Bw.wayO f o h level).2 : Nat)]) ∧ xK ok w' (Bw.absO (Bw.wayO f o h level).1) cs' ∧ Below w.heap.size w w'

set_option maxRecDepth 100000 in
set_option maxHeartbeats 1000000 in
theorem rend_branch {ok : Nat → Prop} {m h level f : Nat} {kids : List Bw.N} {l : List Bw.En} {cs : List Value} {w : World} (hL : LayOk level (f + 1) l) (hO : Bw.OLays level (some (.branch m kids)) l) (hh : h < 18446744073709551616) (hx : xK ok w (Bw.N.branch m kids).abs cs)
    (IH : ∀ (o : Option Bw.N) (l' : List Bw.En) (ok' : Nat → Prop) (cs' : List Value) (W : World), LayOk (level + 1) f l' → Bw.OLays (level + 1) o l' → xK ok' W (Bw.absO o) cs' → EndSays ok' o h (level + 1) f cs' W) :
    EndSays ok (some (.branch m kids)) h level (f + 1) cs w := by
  unfold EndSays
  have hlv : level ≤ 12 := Bw.lays_branch_level hO (by have := hL.lv; omega) hL.res hL.hash
  have hkid := Bw.olays_kid hO (Bw.chunkAt h level)
  have hLk := hL.part (c := Bw.chunkAt h level)
  have hfit := hL.fit hO
  simp only [Bw.N.fit] at hfit
  have hkl := hfit.2.1
  simp only [Bw.N.abs, Bw.N.absL_eq] at hx
  obtain ⟨vp, vs, vk, rfl, hp, hs, hkk⟩ := xK_iff.1 hx
  obtain ⟨P, cp, rfl⟩ := hp.form
  obtain ⟨S, c2, rfl⟩ := hs.form
  obtain ⟨K, ck, rfl⟩ := hkk.form
  have hs0 : NatsAt (fun k => k < w.heap.size) w (.slice S (Bw.bitsOf m).length c2) (Bw.bitsOf m) := hs.move goodNat (Moves.weaken fun k _ h => h)
  have hk0 : RowAt 5 xK (fun k => ok k ∧ k < w.heap.size) w (.slice K (kids.map Bw.N.abs).length ck) (kids.map Bw.N.abs) := hkk.move goodX (Moves.weaken fun k hk h => ⟨hk, h⟩)
  rw [List.length_map] at hk0
  simp only [Bw.wayO]
  rw [List.length_map]
  simp only [Int.cast_ofNat_Int]
  have hdl := wayO_le h f (level + 1) (Bw.kidO m kids (Bw.chunkAt h level))
  have hix := fun (W : World) => way_index' h level (by omega) W
  have CW := Lib.hid (fun (W : World) => way_any h hh W)
  have hbl : (Bw.bitsOf m).length ≤ 32 := by rw [Bw.length_bitsOf]; exact Bw.ones_le 32 _
  have hhit : ∀ (k : Nat), (Bw.bitsOf m)[k]? = some (Bw.chunkAt h level) → Bw.kidO m kids (Bw.chunkAt h level) = kids[k]? := by
    intro k hk
    have hmem := List.mem_of_getElem? hk
    have hat := Bw.bits_at_mem hmem
    have e : Bw.ones (Bw.chunkAt h level) m = k := by
      obtain ⟨h1, h2⟩ := List.getElem?_eq_some_iff.1 hat
      obtain ⟨h3, h4⟩ := List.getElem?_eq_some_iff.1 hk
      exact (List.getElem_inj (Bw.nodup_bitsOf m)).1 (h2.trans h4.symm)
    unfold Bw.kidO
    rw [if_pos (Bw.mem_bitsOf.1 hmem).2, e]
  have hmiss : (∀ (j : Nat) (c : Nat), j < (Bw.bitsOf m).length → (Bw.bitsOf m)[j]? = some c → c ≠ Bw.chunkAt h level) → Bw.kidO m kids (Bw.chunkAt h level) = none := by
    intro hall
    unfold Bw.kidO
    rw [if_neg]
    intro ht
    have hmem : Bw.chunkAt h level ∈ Bw.bitsOf m := Bw.mem_bitsOf.2 ⟨Bw.chunkAt_lt h level, ht⟩
    obtain ⟨j, hj⟩ := List.mem_iff_getElem?.1 hmem
    exact hall j _ (List.getElem?_eq_some_iff.1 hj).1 hj rfl
  obtain ⟨W2, hW2⟩ : ∃ W2, (w.alloc (.cells #[.int .i64 3, .int .u64 0, .slice P 0 cp, .slice S (Bw.bitsOf m).length c2, .slice K kids.length ck] 37)).alloc (.cells #[.int .i64 0, .int .u64 0, .slice none 0 0, .slice none 0 0, .slice none 0 0] 37) = W2 := ⟨_, rfl⟩
  have hB2 : Below w.heap.size w W2 := by rw [← hW2]; (repeat (first | exact Below.refl _ _ | with_reducible assumption | refine Below.drew ?_ | refine b_drewN ?_ _ | (refine Below.alloc ?_ (by first | omega | (simp <;> omega)) _)))
  have hs2 : W2.heap.size = w.heap.size + 2 := by rw [← hW2]; simp
  have hbox : W2.heap[w.heap.size]? = some (.cells #[.int .i64 3, .int .u64 0, .slice P 0 cp, .slice S (Bw.bitsOf m).length c2, .slice K kids.length ck] 37 (0, 0)) := by rw [← hW2]; exact (Below.heap_alloc _ _ _ (by simp)).trans (heap_alloc_new w _)
  have hres : W2.heap[w.heap.size + 1]? = some (.cells #[.int .i64 0, .int .u64 0, .slice none 0 0, .slice none 0 0, .slice none 0 0] 37 (0, 0)) := by rw [← hW2]; have := heap_alloc_new (w.alloc (.cells #[.int .i64 3, .int .u64 0, .slice P 0 cp, .slice S (Bw.bitsOf m).length c2, .slice K kids.length ck] 37)) (.cells #[.int .i64 0, .int .u64 0, .slice none 0 0, .slice none 0 0, .slice none 0 0] 37); rwa [World.size_alloc] at this
  have SK : Hid (∀ W, Below W2.heap.size W2 W → W.cell? ⟨w.heap.size, 0, none⟩ = some (.int .i64 3) ∧ W.cell? ⟨w.heap.size, 3, none⟩ = some (.slice S (Bw.bitsOf m).length c2) ∧ W.cell? ⟨w.heap.size, 4, none⟩ = some (.slice K kids.length ck)) := Lib.hid fun W hW => by
    have hb := (hW.block w.heap.size (by omega)).trans hbox
    refine ⟨?_, ?_, ?_⟩ <;> simp [World.cell?, hb]
  have HRES : Hid (∀ W, Below W2.heap.size W2 W → W.heap[w.heap.size + 1]? = some (.cells #[.int .i64 0, .int .u64 0, .slice none 0 0, .slice none 0 0, .slice none 0 0] 37 (0, 0))) := Lib.hid fun W hW => (hW.block (w.heap.size + 1) (by omega)).trans hres
  have SR : Hid (∀ W, Below W2.heap.size W2 W → (W.cell? ⟨w.heap.size + 1, 0, none⟩ = some (.int .i64 0) ∧ W.cell? ⟨w.heap.size + 1, 1, none⟩ = some (.int .u64 0) ∧ W.cell? ⟨w.heap.size + 1, 2, none⟩ = some (.slice none 0 0) ∧ W.cell? ⟨w.heap.size + 1, 3, none⟩ = some (.slice none 0 0) ∧ W.cell? ⟨w.heap.size + 1, 4, none⟩ = some (.slice none 0 0)) ∧
      W.frozen? ⟨w.heap.size + 1, 0, none⟩ = false ∧ W.frozen? ⟨w.heap.size + 1, 1, none⟩ = false ∧ W.frozen? ⟨w.heap.size + 1, 2, none⟩ = false ∧ W.frozen? ⟨w.heap.size + 1, 3, none⟩ = false ∧ W.frozen? ⟨w.heap.size + 1, 4, none⟩ = false) := Lib.hid fun W hW => by
    have hb := HRES.out W hW
    refine ⟨⟨?_, ?_, ?_, ?_, ?_⟩, ?_, ?_, ?_, ?_, ?_⟩ <;> simp [World.cell?, World.frozen?, hb]
  have H0 : Hid (EndRel m (Bw.chunkAt h level) W2 (.int .i64 0) W2) := Lib.hid ⟨0, Nat.zero_le _, rfl, fun j c hj _ => by omega, Below.refl _ _⟩
  have HS0 := Lib.hid hs0; have HK0 := Lib.hid hk0; have HLV := Lib.hid hlv; have HKID := Lib.hid hkid; have HLK := Lib.hid hLk; have HKL := Lib.hid hkl; have HDL := Lib.hid hdl; have HBL := Lib.hid hbl; have HHIT := Lib.hid hhit; have HMISS := Lib.hid hmiss
  have HW2 := Lib.hid hW2; have HB2 := Lib.hid hB2; have HS2 := Lib.hid hs2; have HIH := Lib.hid IH
  clear hL hO hh hx IH hlv hkid hLk hfit hkl hp hs hkk hs0 hk0 hdl hbl hhit hmiss hW2 hB2 hs2 hbox hres
  generalize Bw.kidO m kids (Bw.chunkAt h level) = kid at *
  generalize Bw.chunkAt h level = cc at *
  obtain ⟨x, hwx⟩ : ∃ x, (Bw.wayO f kid h (level + 1)).1 = x := ⟨_, rfl⟩
  obtain ⟨D, hwd⟩ : ∃ D, (Bw.wayO f kid h (level + 1)).2 = D := ⟨_, rfl⟩
  rw [hwx, hwd]
  rw [hwd] at HDL
  have HX := Lib.hid hwx; have HD := Lib.hid hwd
  clear hwx hwd
  have hne3 : ((3 : Int) != 3) = false := by decide
  go_enter Tryz.func8, Tryz.ntmps8
  go_wp2_with (rw [HW2.out]; obtain ⟨y0, y3, y4⟩ := SK.out W2 (Below.refl _ _))
  go_loopw [19] (EndRel m cc W2) (fun i _ => (Bw.bitsOf m).length - (intOf i).toNat)
  case atStart => exact H0.out
  case round =>
    obtain ⟨k, hk, rfl, hall, hB⟩ := hrel
    obtain ⟨y0', y3', y4'⟩ := SK.out wr hB
    have hs2 := HS2.out
    by_cases hlt : k < (Bw.bitsOf m).length
    · obtain ⟨b, o, csn, rfl, hxn, hcn⟩ := HS0.out.get (List.getElem?_eq_getElem hlt)
      obtain rfl : csn = [.int .i64 ((Bw.bitsOf m)[k] : Nat)] := hxn
      have a0 := hcn 0 _ rfl
      have hBw := HB2.out.trans (hB.mono HB2.out.size)
      have d0 : wr.cell? ⟨b, o + (k * 1 + 0), none⟩ = some (.int .i64 ((Bw.bitsOf m)[k] : Nat)) := (hBw.cell (p := ⟨b, o + (k * 1 + 0), none⟩) a0.1).trans a0.2
      rw [Nat.mul_one, Nat.add_zero] at d0
      have h0 : (0 : Int) ≤ (k : Int) := by omega
      have h1 : (k : Int) < ((Bw.bitsOf m).length : Int) := by omega
      have hkk : (Bw.bitsOf m)[k]? = some (Bw.bitsOf m)[k] := List.getElem?_eq_getElem hlt
      have CW1 := Lib.hid (CW.out wr)
      have HB := Lib.hid hB; have HALL := Lib.hid hall; have HLT := Lib.hid hlt
      generalize (Bw.bitsOf m)[k] = c at *
      have HKK := Lib.hid hkk
      clear hkk hall hB a0 hcn hBw hlt
      by_cases hc : c = cc
      · subst hc
        have hk1 := HHIT.out k HKK.out
        have hkn : k < kids.length := by have := HKL.out; have := HLT.out; omega
        rw [List.getElem?_eq_getElem hkn] at hk1
        obtain ⟨kb, ko, csk, rfl, hxk, hck⟩ := HK0.out.get (j := k) (x := kids[k].abs) (by rw [List.getElem?_map, List.getElem?_eq_getElem hkn]; rfl)
        have h2 : (k : Int) < (kids.length : Int) := by omega
        have hIH := HIH.out kid (Bw.partOf level c l) (fun k => ok k ∧ k < w.heap.size) csk
        have hcl := goodX.len hxk
        have CI := Lib.hid (fun (W : World) (hW : Below w.heap.size w W) => hIH W HLK.out HKID.out (by rw [hk1]; exact goodX.move (ok' := fun k => ok k ∧ k < w.heap.size) (fun k hk _ => ⟨hk, hW.block k hk.2⟩) hxk))
        obtain ⟨e0, e1, e2, e3, e4, rfl⟩ := five_of hcl
        have k0 := hck 0 _ rfl; have k1 := hck 1 _ rfl; have k2 := hck 2 _ rfl; have k3 := hck 3 _ rfl; have k4 := hck 4 _ rfl
        have ca := fun W (hW : Below w.heap.size w W) => (show W.cell? ⟨kb, ko + k * 5, none⟩ = some e0 ∧ W.cell? ⟨kb, ko + k * 5 + 1, none⟩ = some e1 ∧ W.cell? ⟨kb, ko + k * 5 + 2, none⟩ = some e2 ∧ W.cell? ⟨kb, ko + k * 5 + 3, none⟩ = some e3 ∧ W.cell? ⟨kb, ko + k * 5 + 4, none⟩ = some e4 from
          ⟨(hW.cell (p := ⟨kb, ko + k * 5, none⟩) k0.1.2).trans k0.2, (hW.cell (p := ⟨kb, ko + k * 5 + 1, none⟩) k1.1.2).trans k1.2, (hW.cell (p := ⟨kb, ko + k * 5 + 2, none⟩) k2.1.2).trans k2.2, (hW.cell (p := ⟨kb, ko + k * 5 + 3, none⟩) k3.1.2).trans k3.2, (hW.cell (p := ⟨kb, ko + k * 5 + 4, none⟩) k4.1.2).trans k4.2⟩)
        have CA := Lib.hid ca
        have hw1 : wrap64 ((level : Int) + 1) = ((level + 1 : Nat) : Int) := (by unfold wrap64; have := HLV.out; omega)
        have HBWW : Hid (∀ W, Below wr.heap.size wr W → Below w.heap.size w W) := Lib.hid fun W hW => (HB2.out.trans (HB.out.mono HB2.out.size)).trans (hW.mono (Nat.le_trans HB2.out.size HB.out.size))
        clear hck hIH hxk hcl k0 k1 k2 k3 k4 ca hk1 hkn
        go_wp2_with fail
        refine CW1.out.mono ?_
        rintro e w5 ⟨rfl, hb5⟩
        obtain ⟨b0, b3, b4⟩ := SK.out w5 (HB.out.trans (hb5.mono HB.out.size))
        obtain ⟨f0, f1, f2, f3, f4⟩ := CA.out w5 (HBWW.out w5 hb5)
        have CI5 := Lib.hid (CI.out w5 (HBWW.out w5 hb5))
        have HB5 := Lib.hid hb5
        clear hb5
        unfold EndSays at CI5
        simp only [HX.out, HD.out] at CI5
        go_wp2_with fail
        refine CI5.out.mono ?_
        rintro e w6 ⟨cs6, rfl, hx6, hb6⟩
        rcases hxm : Bw.absO x with ⟨kx, gx, px, sx, nx⟩
        rw [hxm] at hx6
        have HXM := Lib.hid hxm
        clear hxm
        obtain ⟨vp6, vs6, vk6, rfl, hp6, hs6, hk6⟩ := xK_iff.1 hx6
        obtain ⟨P6, cp6, rfl⟩ := hp6.form
        obtain ⟨S6, cs6', rfl⟩ := hs6.form
        obtain ⟨K6, ck6, rfl⟩ := hk6.form
        have hB6 := (HB.out.trans (HB5.out.mono HB.out.size)).trans (hb6.mono (Nat.le_trans HB.out.size HB5.out.size))
        obtain ⟨⟨r0, r1, r2, r3, r4⟩, g0, g1, g2, g3, g4⟩ := SR.out w6 hB6
        have hr6 := HRES.out w6 hB6
        have hsz6 : w.heap.size + 1 < w6.heap.size := (Array.getElem?_eq_some_iff.1 hr6).1
        have hw2 : wrap64 ((D : Int) + 1) = (D : Int) + 1 := (by unfold wrap64; have := HDL.out; have := HLK.out.lv; omega)
        have HX6 := Lib.hid hx6; have HB6 := Lib.hid hB6
        clear hx6 hb6 hB6 hp6 hs6 hk6
        go_wp2_with fail
        have h8 := heap9 hr6 (.int .i64 (kx : Nat)) (.int .u64 (gx : Nat)) (.slice P6 px.length cp6) (.slice S6 sx.length cs6') (.slice K6 nx.length ck6)
        have h9 := blk9 (o := (.cells #[.int .i64 (kx : Nat), .int .u64 (gx : Nat), .slice P6 px.length cp6, .slice S6 sx.length cs6', .slice K6 nx.length ck6] 37)) h8
        have hF8 : Below w.heap.size w (((((w6.setCell ⟨w.heap.size + 1, 0, none⟩ (.int .i64 (kx : Nat))).setCell ⟨w.heap.size + 1, 1, none⟩ (.int .u64 (gx : Nat))).setCell ⟨w.heap.size + 1, 2, none⟩ (.slice P6 px.length cp6)).setCell ⟨w.heap.size + 1, 3, none⟩ (.slice S6 sx.length cs6')).setCell ⟨w.heap.size + 1, 4, none⟩ (.slice K6 nx.length ck6)) := set5 (HB2.out.trans (HB6.out.mono HB2.out.size)) (Nat.le_succ _) _ _ _ _ _
        have hF2 : Below w.heap.size w ((((((w6.setCell ⟨w.heap.size + 1, 0, none⟩ (.int .i64 (kx : Nat))).setCell ⟨w.heap.size + 1, 1, none⟩ (.int .u64 (gx : Nat))).setCell ⟨w.heap.size + 1, 2, none⟩ (.slice P6 px.length cp6)).setCell ⟨w.heap.size + 1, 3, none⟩ (.slice S6 sx.length cs6')).setCell ⟨w.heap.size + 1, 4, none⟩ (.slice K6 nx.length ck6)).alloc (.cells #[.int .i64 (kx : Nat), .int .u64 (gx : Nat), .slice P6 px.length cp6, .slice S6 sx.length cs6', .slice K6 nx.length ck6] 37)) := hF8.alloc hF8.size _
        have hXF := goodX.move (ok' := ok) (Moves.below ((Below.refl _ (((((w6.setCell ⟨w.heap.size + 1, 0, none⟩ (.int .i64 (kx : Nat))).setCell ⟨w.heap.size + 1, 1, none⟩ (.int .u64 (gx : Nat))).setCell ⟨w.heap.size + 1, 2, none⟩ (.slice P6 px.length cp6)).setCell ⟨w.heap.size + 1, 3, none⟩ (.slice S6 sx.length cs6')).setCell ⟨w.heap.size + 1, 4, none⟩ (.slice K6 nx.length ck6))).alloc (Nat.le_refl _) (.cells #[.int .i64 (kx : Nat), .int .u64 (gx : Nat), .slice P6 px.length cp6, .slice S6 sx.length cs6', .slice K6 nx.length ck6] 37))) (keepX (n := w.heap.size + 1) (Nat.le_succ _) HX6.out (Below.refl _ _) (.int .i64 (kx : Nat)) (.int .u64 (gx : Nat)) (.slice P6 px.length cp6) (.slice S6 sx.length cs6') (.slice K6 nx.length ck6))
        clear h8 hF8
        generalize (((((w6.setCell ⟨w.heap.size + 1, 0, none⟩ (.int .i64 (kx : Nat))).setCell ⟨w.heap.size + 1, 1, none⟩ (.int .u64 (gx : Nat))).setCell ⟨w.heap.size + 1, 2, none⟩ (.slice P6 px.length cp6)).setCell ⟨w.heap.size + 1, 3, none⟩ (.slice S6 sx.length cs6')).setCell ⟨w.heap.size + 1, 4, none⟩ (.slice K6 nx.length ck6)).alloc (.cells #[.int .i64 (kx : Nat), .int .u64 (gx : Nat), .slice P6 px.length cp6, .slice S6 sx.length cs6', .slice K6 nx.length ck6] 37) = W9 at *
        have z0 : W9.cell? ⟨w.heap.size + 1, 0, none⟩ = some (.int .i64 (kx : Nat)) := by simp [World.cell?, h9]
        have z1 : W9.cell? ⟨w.heap.size + 1, 1, none⟩ = some (.int .u64 (gx : Nat)) := by simp [World.cell?, h9]
        have z2 : W9.cell? ⟨w.heap.size + 1, 2, none⟩ = some (.slice P6 px.length cp6) := by simp [World.cell?, h9]
        have z3 : W9.cell? ⟨w.heap.size + 1, 3, none⟩ = some (.slice S6 sx.length cs6') := by simp [World.cell?, h9]
        have z4 : W9.cell? ⟨w.heap.size + 1, 4, none⟩ = some (.slice K6 nx.length ck6) := by simp [World.cell?, h9]
        refine bodyPost_ret (v := .tuple #[.agg #[.int .i64 (kx : Nat), .int .u64 (gx : Nat), .slice P6 px.length cp6, .slice S6 sx.length cs6', .slice K6 nx.length ck6], .int .i64 ((D + 1 : Nat) : Int)]) (by simp [results, Tryz.results8, go_sem, z0, z1, z2, z3, z4, hw2]) rfl ⟨_, rfl, by rw [HXM.out]; exact hXF, hF2⟩
      · have heq : ((c : Int) == (cc : Int)) = false := by rw [beq_eq_false_iff_ne]; omega
        have HC := Lib.hid hc
        clear hc
        go_wp2_with fail
        refine CW1.out.mono ?_
        rintro e w5 ⟨rfl, hb5⟩
        have HB5 := Lib.hid hb5
        clear hb5
        go_wp2
        exact ⟨⟨k + 1, HLT.out, int_succ HLT.out (Nat.le_trans HBL.out (by decide)), fun j c' hj hc' => by
          rcases Nat.lt_or_ge j k with hjk | hjk
          · exact HALL.out j c' hjk hc'
          · obtain rfl : j = k := by omega
            have := HKK.out.symm.trans hc'
            injection this with this
            subst this
            exact HC.out, HB.out.trans (HB5.out.mono HB.out.size)⟩, less_succ HLT.out (Nat.le_trans HBL.out (by decide))⟩
    · obtain rfl : k = (Bw.bitsOf m).length := by omega
      have hnone := HMISS.out hall
      have hxx := HX.out; have hdd := HD.out
      rw [hnone, Bw.wayO_none] at hxx hdd
      subst hxx; subst hdd
      obtain ⟨⟨r0, r1, r2, r3, r4⟩, g0, g1, g2, g3, g4⟩ := SR.out wr hB
      have HB := Lib.hid hB
      clear hlt hall hnone hB
      go_wp2_with fail
      have h9 := heap9 (HRES.out wr HB.out) (.int .i64 0) (.int .u64 0) (.slice none 0 0) (.slice none 0 0) (.slice none 0 0)
      have hF : Below w.heap.size w (((((wr.setCell ⟨w.heap.size + 1, 0, none⟩ (.int .i64 0)).setCell ⟨w.heap.size + 1, 1, none⟩ (.int .u64 0)).setCell ⟨w.heap.size + 1, 2, none⟩ (.slice none 0 0)).setCell ⟨w.heap.size + 1, 3, none⟩ (.slice none 0 0)).setCell ⟨w.heap.size + 1, 4, none⟩ (.slice none 0 0)) := set5 (HB2.out.trans (HB.out.mono HB2.out.size)) (Nat.le_succ _) _ _ _ _ _
      generalize (((((wr.setCell ⟨w.heap.size + 1, 0, none⟩ (.int .i64 0)).setCell ⟨w.heap.size + 1, 1, none⟩ (.int .u64 0)).setCell ⟨w.heap.size + 1, 2, none⟩ (.slice none 0 0)).setCell ⟨w.heap.size + 1, 3, none⟩ (.slice none 0 0)).setCell ⟨w.heap.size + 1, 4, none⟩ (.slice none 0 0)) = W9 at *
      have z0 : W9.cell? ⟨w.heap.size + 1, 0, none⟩ = some (.int .i64 0) := by simp [World.cell?, h9]
      have z1 : W9.cell? ⟨w.heap.size + 1, 1, none⟩ = some (.int .u64 0) := by simp [World.cell?, h9]
      have z2 : W9.cell? ⟨w.heap.size + 1, 2, none⟩ = some (.slice none 0 0) := by simp [World.cell?, h9]
      have z3 : W9.cell? ⟨w.heap.size + 1, 3, none⟩ = some (.slice none 0 0) := by simp [World.cell?, h9]
      have z4 : W9.cell? ⟨w.heap.size + 1, 4, none⟩ = some (.slice none 0 0) := by simp [World.cell?, h9]
      refine bodyPost_ret (v := .tuple #[.agg #[.int .i64 0, .int .u64 0, .slice none 0 0, .slice none 0 0, .slice none 0 0], .int .i64 1]) (by simp [results, Tryz.results8, go_sem, z0, z1, z2, z3, z4]) rfl ⟨[.int .i64 0, .int .u64 0, .slice none 0 0, .slice none 0 0, .slice none 0 0], rfl, xK_zero, hF⟩

theorem rend_any {h : Nat} (hh : h < 18446744073709551616) : ∀ (f level : Nat) (o : Option Bw.N) (l : List Bw.En) (ok : Nat → Prop) (cs : List Value) (w : World), LayOk level f l → Bw.OLays level o l → xK ok w (Bw.absO o) cs → EndSays ok o h level f cs w := by
  intro f
  induction f with
  | zero =>
    intro level o l ok cs w hL hO hx
    match o, hO, hx with
    | none, hO, hx =>
      refine (rend_flat (k := 0) (by decide) hx).mono fun e w' ⟨he, hb⟩ => ⟨cs, he, ?_, hb⟩
      rw [Bw.wayO_none]
      exact goodX.move (Moves.below hb) hx
    | some (.leaf g q), hO, hx =>
      refine (rend_flat (k := 1) (by decide) hx).mono fun e w' ⟨he, hb⟩ => ⟨cs, he, ?_, hb⟩
      rw [Bw.wayO_leaf]
      exact goodX.move (Moves.below hb) hx
    | some (.bucket g t), hO, hx =>
      refine (rend_flat (k := 2) (by decide) hx).mono fun e w' ⟨he, hb⟩ => ⟨cs, he, ?_, hb⟩
      rw [Bw.wayO_bucket]
      exact goodX.move (Moves.below hb) hx
    | some (.branch m kids), hO, hx =>
      have := Bw.lays_branch_level hO (by have := hL.lv; omega) hL.res hL.hash
      have := hL.lv
      omega
  | succ f ih =>
    intro level o l ok cs w hL hO hx
    match o, hO, hx with
    | none, hO, hx =>
      refine (rend_flat (k := 0) (by decide) hx).mono fun e w' ⟨he, hb⟩ => ⟨cs, he, ?_, hb⟩
      rw [Bw.wayO_none]
      exact goodX.move (Moves.below hb) hx
    | some (.leaf g q), hO, hx =>
      refine (rend_flat (k := 1) (by decide) hx).mono fun e w' ⟨he, hb⟩ => ⟨cs, he, ?_, hb⟩
      rw [Bw.wayO_leaf]
      exact goodX.move (Moves.below hb) hx
    | some (.bucket g t), hO, hx =>
      refine (rend_flat (k := 2) (by decide) hx).mono fun e w' ⟨he, hb⟩ => ⟨cs, he, ?_, hb⟩
      rw [Bw.wayO_bucket]
      exact goodX.move (Moves.below hb) hx
    | some (.branch m kids), hO, hx => exact rend_branch hL hO hh hx fun o l' ok' cs' W h1 h2 h3 => ih (level + 1) o l' ok' cs' W h1 h2 h3
end Go.Proofs.YtehkjnmnbplcoaaGreatDoor
