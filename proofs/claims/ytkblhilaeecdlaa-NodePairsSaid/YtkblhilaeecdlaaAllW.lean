
import Derived.Test.YtkblhilaeecdlaaLawA
import Derived.Test.YtkblhilaeecdlaaBwG
namespace Go.Proofs.Ytkblhilaeecdlaa
open Go.RowKit Go.Bw

def PutsRel (l m : List Bw.PV) (w : World) (v i : Value) (wr : World) : Prop :=
  ∃ k : Nat, k ≤ l.length ∧ i = .int .i64 k ∧ SPairsAt AllB wr v ((l.take k).foldl Bw.put m) ∧ Below w.heap.size w wr
def AllRel (kids : List Bw.X) (m : List Bw.PV) (w : World) (v i : Value) (wr : World) : Prop :=
  ∃ j : Nat, j ≤ kids.length ∧ i = .int .i64 j ∧ SPairsAt AllB wr v (Bw.X.allL m (kids.take j)) ∧ Below w.heap.size w wr

set_option maxRecDepth 100000 in
set_option maxHeartbeats 1000000 in
theorem rall_any {ok : Nat → Prop} (x : Bw.X) : ∀ (cs : List Value) (w : World), xK ok w x cs → (∀ p ∈ x.flat, p.1.length ≤ 1048576) → x.flat.length ≤ 1048576 →
    Calls Try.prog 13 #[.agg cs.toArray] w (Gives w fun q w' => SPairsAt AllB w' q x.all) := by
  refine Bw.X.ind (P := fun x => ∀ (cs : List Value) (w : World), xK ok w x cs → (∀ p ∈ x.flat, p.1.length ≤ 1048576) → x.flat.length ≤ 1048576 →
    Calls Try.prog 13 #[.agg cs.toArray] w (Gives w fun q w' => SPairsAt AllB w' q x.all)) ?_ x
  intro k h ps s kids ih cs w hx hkl hln
  rw [xK_iff] at hx
  obtain ⟨vp, vs, vk, rfl, hp, hs, hk⟩ := hx
  obtain ⟨A1, c1, rfl⟩ := hp.form
  obtain ⟨A2, c2, rfl⟩ := hs.form
  obtain ⟨A3, c3, rfl⟩ := hk.form
  simp only [Bw.X.flat, List.length_append] at hkl hln
  obtain ⟨W0, hW0⟩ : ∃ W0, w.alloc (.cells #[.int .i64 (k : Nat), .int .u64 (h : Nat), .slice A1 ps.length c1, .slice A2 s.length c2, .slice A3 kids.length c3] 32) = W0 := ⟨_, rfl⟩
  have hB0 : Below w.heap.size w W0 := by subst hW0; (repeat (first | exact Below.refl _ _ | with_reducible assumption | refine Below.drew ?_ | refine b_drewN ?_ _ | (refine Below.alloc ?_ (by simp) _) | (refine Below.alloc ?_ (by simp; omega) _)))
  have hs0 : w.heap.size < W0.heap.size := by subst hW0; simp
  have z2 : W0.cell? ⟨w.heap.size, 2, none⟩ = some (.slice A1 ps.length c1) := by subst hW0; go_simp
  have z4 : W0.cell? ⟨w.heap.size, 4, none⟩ = some (.slice A3 kids.length c3) := by subst hW0; go_simp
  have HW0 := Lib.hid hW0
  have HB0 := Lib.hid hB0
  have HKK := Lib.hid (hk.move goodX (Moves.below hB0))
  have HIH := Lib.hid ih
  have HMX : Hid (kids.length ≤ maxLen) := Lib.hid (Nat.le_trans hk.cap.2.1 hk.cap.2.2)
  have HR := Lib.hid (hp.move goodSp (Moves.below hB0))
  have HKL : Hid (∀ q ∈ ps, q.1.length ≤ 1048576) := Lib.hid fun q hq => hkl q (List.mem_append.2 (.inl hq))
  have HKK2 : Hid (∀ q ∈ Bw.X.flatL kids, q.1.length ≤ 1048576) := Lib.hid fun q hq => hkl q (List.mem_append.2 (.inr hq))
  have HTOT := Lib.hid hln
  have HKM : Hid (∀ q ∈ ([] : List Bw.PV), q.1.length ≤ 1048576) := Lib.hid fun q hq => by cases hq
  have HRI : Hid (Bw.Rises ([] : List Bw.PV)) := Lib.hid List.Pairwise.nil
  have HLN : Hid (([] : List Bw.PV).length + ps.length ≤ 1048576) := Lib.hid (by simp; omega)
  have HLL : Hid (ps.length ≤ 1048576) := Lib.hid (by omega)
  have HP0 : Hid (PutsRel ps ([] : List Bw.PV) W0 (.slice none 0 0) (.int .i64 0) W0) := Lib.hid ⟨0, Nat.zero_le _, rfl, RowAt.nil, Below.refl _ _⟩
  obtain ⟨ma, hma⟩ : ∃ ma, ma = ps.foldl Bw.put ([] : List Bw.PV) := ⟨_, rfl⟩
  have hri := Bw.rises_foldl ps HRI.out
  have hfw := (Bw.foldl_few ps HRI.out).1
  have hkm : ∀ q ∈ ps.foldl Bw.put ([] : List Bw.PV), q.1.length ≤ 1048576 := fun q hq => ((Bw.foldl_few ps HRI.out).2 q hq).elim (fun h => HKM.out q h) (fun h => HKL.out q h)
  rw [← hma] at hri hfw hkm
  have HMR := Lib.hid hri
  have HMK := Lib.hid hkm
  have HMT : Hid (ma.length + (Bw.X.flatL kids).length ≤ 1048576) := Lib.hid (by have := HTOT.out; simp only [List.length_nil, Nat.zero_add] at hfw; omega)
  have HMA := Lib.hid hma
  simp only [Bw.X.all]
  rw [← hma]
  clear hk ih hp hs hkl hln hW0 hma hri hfw hkm
  go_enter Try.func13, Try.ntmps13
  go_wp2_with fail
  rw [HW0.out]
  go_wp2_with fail
  go_loopw [3, 13] (PutsRel ps ([] : List Bw.PV) W0) (fun _ i _ => ps.length - (intOf i).toNat)
  case atStart => exact HP0.out
  case round =>
    obtain ⟨k, hk, rfl, hM, hB⟩ := hrel
    by_cases hlt : k < ps.length
    · obtain ⟨b, o, e1, hob, c0, c1⟩ := sp_get HR.out (List.getElem?_eq_getElem hlt)
      cases e1
      have hbl := World.block_lt_of_cell? _ _ c0
      dsimp only at hbl
      have d0 := (hB.cell (p := ⟨b, o + k * 2, none⟩) hbl).trans c0
      have d1 := (hB.cell (p := ⟨b, o + k * 2 + 1, none⟩) hbl).trans c1
      have hbl2 : b < wr.heap.size := Nat.lt_of_lt_of_le hbl hB.size
      have h0 : (0 : Int) ≤ (k : Int) := by omega
      have h1 : (k : Int) < (ps.length : Int) := by omega
      have hst : (ps.take (k + 1)).foldl Bw.put ([] : List Bw.PV) = Bw.put ((ps.take k).foldl Bw.put ([] : List Bw.PV)) ps[k] := by rw [take_succ_snoc hlt, List.foldl_append]; rfl
      obtain ⟨f1, f2⟩ := Bw.foldl_few (ps.take k) HRI.out
      have hlen : ((ps.take k).foldl Bw.put ([] : List Bw.PV)).length ≤ 1048576 := by have := HLN.out; rw [List.length_take] at f1; omega
      have hri := Bw.rises_foldl (ps.take k) HRI.out
      have hkey : ∀ q ∈ (ps.take k).foldl Bw.put ([] : List Bw.PV), q.1.length ≤ 1048576 := fun q hq => (f2 q hq).elim (fun h => HKM.out q h) (fun h => HKL.out q (List.mem_of_mem_take h))
      have hp := HKL.out ps[k] (List.getElem_mem hlt)
      have HST := Lib.hid hst
      have HLT := Lib.hid hlt
      generalize ps[k] = p at *
      obtain ⟨px, py⟩ := p
      dsimp only at hp
      have CU := Lib.hid (fun W (hW : Below wr.heap.size wr W) => rput_any (px := px) (py := py) hlen hp hkey (hM.move goodSp (Moves.below hW)) hri)
      have HB := Lib.hid hB
      simp only [str] at d0 d1
      obtain ⟨AM, cm, rfl⟩ := hM.form
      clear hst f1 f2 hlen hri hkey hp hM hB c0 c1 hbl hlt
      generalize ((ps.take k).foldl Bw.put ([] : List Bw.PV)).length = ml at *
      go_wp2_with fail
      refine (CU.out _ (by (repeat (first | exact Below.refl _ _ | with_reducible assumption | refine Below.drew ?_ | refine b_drewN ?_ _ | (refine Below.alloc ?_ (by first | omega | (simp <;> omega)) _))))).mono ?_
      rintro e w2 ⟨q2, rfl, hq2, hb2⟩
      have hb2' : Below wr.heap.size wr w2 := Below.trans (by (repeat (first | exact Below.refl _ _ | with_reducible assumption | refine Below.drew ?_ | refine b_drewN ?_ _ | (refine Below.alloc ?_ (by first | omega | (simp <;> omega)) _)))) (hb2.mono (by first | omega | (simp <;> omega)))
      have HQ2 := Lib.hid (hq2.move (ok' := AllB) goodSp (Moves.weaken fun _ _ _ => trivial))
      obtain ⟨A2, c2, rfl⟩ := hq2.form
      clear hq2 hb2
      go_wp2
      exact ⟨⟨k + 1, HLT.out, int_succ HLT.out HLL.out, by rw [HST.out]; exact HQ2.out, HB.out.trans (hb2'.mono HB.out.size)⟩, less_succ HLT.out HLL.out⟩
    · obtain rfl : k = ps.length := by omega
      rw [List.take_length] at hM
      have z4' := (hB.cell (p := ⟨w.heap.size, 4, none⟩) hs0).trans z4
      rw [← HMA.out] at hM
      have HA0 : Hid (AllRel kids ma W0 u3 (.int .i64 0) wr) := Lib.hid ⟨0, Nat.zero_le _, rfl, hM, hB⟩
      obtain ⟨AM, cm, rfl⟩ := hM.form
      clear hM hB hlt HR HKL HKM HRI HLN HLL HP0 HMA
      go_wp2_with fail
      go_loopw [3, 24] (AllRel kids ma W0) (fun _ i _ => kids.length - (intOf i).toNat)
      case atStart => exact HA0.out
      case round =>
        obtain ⟨j, hj, rfl, hM, hB⟩ := hrel
        by_cases hlt : j < kids.length
        · obtain ⟨b, o, cs, e1, hy, hcells⟩ := HKK.out.get (List.getElem?_eq_getElem hlt)
          cases e1
          have hmem : kids[j] ∈ kids := List.getElem_mem hlt
          have hst : Bw.X.allL ma (kids.take (j + 1)) = (kids[j].all).foldl Bw.put (Bw.X.allL ma (kids.take j)) := by rw [take_succ_snoc hlt, Bw.X.allL_append]; simp [Bw.X.allL]
          obtain ⟨g1, g2, g3⟩ := Bw.allL_few (kids.take j) ma HMR.out
          obtain ⟨f1, f2, f3⟩ := Bw.all_few kids[j]
          have hfl : Bw.X.flatL kids = Bw.X.flatL (kids.take j) ++ (kids[j].flat ++ Bw.X.flatL (kids.drop (j + 1))) := by
            conv => lhs; rw [← List.take_append_drop j kids, List.drop_eq_getElem_cons hlt]
            rw [Bw.X.flatL_append]; simp [Bw.X.flatL]
          have htot := HMT.out
          have hkk := HKK2.out
          rw [hfl] at htot hkk
          rw [List.length_append, List.length_append] at htot
          have hyk : ∀ q ∈ kids[j].flat, q.1.length ≤ 1048576 := fun q hq => hkk q (by simp [hq])
          have CI := Lib.hid (fun W (hW : Below W0.heap.size W0 W) => HIH.out _ hmem cs W (XAt.move (Moves.below hW) _ _ hy) hyk (by omega))
          have HKL : Hid (∀ q ∈ kids[j].all, q.1.length ≤ 1048576) := Lib.hid fun q hq => hyk q (f3 q hq)
          have HKM : Hid (∀ q ∈ Bw.X.allL ma (kids.take j), q.1.length ≤ 1048576) := Lib.hid fun q hq => (g3 q hq).elim (fun h => HMK.out q h) (fun h => hkk q (List.mem_append.2 (.inl h)))
          have HRI := Lib.hid g1
          have HLN : Hid ((Bw.X.allL ma (kids.take j)).length + (kids[j].all).length ≤ 1048576) := Lib.hid (by omega)
          have HLL : Hid ((kids[j].all).length ≤ 1048576) := Lib.hid (by omega)
          have HST := Lib.hid hst
          have HLTJ := Lib.hid hlt
          have HMJ := Lib.hid hM
          have HBJ := Lib.hid hB
          clear hst g1 g2 g3 f1 f2 f3 hfl htot hkk hyk hM hmem
          generalize Bw.X.all kids[j] = la at *
          generalize Bw.X.allL ma (kids.take j) = mj at *
          generalize kids[j] = y at *
          obtain ⟨yk, yh, yp, ys, yy⟩ := y
          rw [xK_iff] at hy
          obtain ⟨yvp, yvs, yvk, rfl, h1, h2, h3⟩ := hy
          obtain ⟨B1, e1, rfl⟩ := h1.form
          obtain ⟨B2, e2, rfl⟩ := h2.form
          obtain ⟨B3, e3, rfl⟩ := h3.form
          have c0 := (hcells 0 _ rfl).2; have c1 := (hcells 1 _ rfl).2; have c2 := (hcells 2 _ rfl).2; have c3 := (hcells 3 _ rfl).2; have c4 := (hcells 4 _ rfl).2
          have hbl := World.block_lt_of_cell? W0 _ c0
          dsimp only at hbl
          have d0 := (hB.cell (p := ⟨b, o + (j * 5 + 0), none⟩) hbl).trans c0
          have d1 := (hB.cell (p := ⟨b, o + (j * 5 + 1), none⟩) hbl).trans c1
          have d2 := (hB.cell (p := ⟨b, o + (j * 5 + 2), none⟩) hbl).trans c2
          have d3 := (hB.cell (p := ⟨b, o + (j * 5 + 3), none⟩) hbl).trans c3
          have d4 := (hB.cell (p := ⟨b, o + (j * 5 + 4), none⟩) hbl).trans c4
          simp only [Nat.add_zero, ← Nat.add_assoc] at d0 d1 d2 d3 d4
          have hbl2 : b < wr.heap.size := Nat.lt_of_lt_of_le hbl hB.size
          have h0 : (0 : Int) ≤ (j : Int) := by omega
          have h1' : (j : Int) < (kids.length : Int) := by omega
          clear h1 h2 h3 c0 c1 c2 c3 c4 hcells hB z4 z2 z4'
          go_wp2_with fail
          refine (CI.out _ (HBJ.out.trans (Below.mono (by (repeat (first | exact Below.refl _ _ | with_reducible assumption | refine Below.drew ?_ | refine b_drewN ?_ _ | (refine Below.alloc ?_ (by simp) _) | (refine Below.alloc ?_ (by simp; omega) _)))) HBJ.out.size))).mono ?_
          rintro e w3 ⟨q3, rfl, hq3, hb3⟩
          have hB3 : Below wr.heap.size wr w3 := Below.trans (b := wr.alloc (.cells #[.int .i64 (yk : Nat), .int .u64 (yh : Nat), .slice B1 yp.length e1, .slice B2 ys.length e2, .slice B3 yy.length e3] 32)) (by (repeat (first | exact Below.refl _ _ | with_reducible assumption | refine Below.drew ?_ | refine b_drewN ?_ _ | (refine Below.alloc ?_ (by simp) _) | (refine Below.alloc ?_ (by simp; omega) _)))) (hb3.mono (by simp))
          have HB3 := Lib.hid (HBJ.out.trans (hB3.mono HBJ.out.size))
          have HR := Lib.hid hq3
          have HP3 : Hid (PutsRel la mj w3 u3 (.int .i64 0) w3) := Lib.hid ⟨0, Nat.zero_le _, rfl, HMJ.out.move (ok' := AllB) goodSp (Moves.below hB3), Below.refl _ _⟩
          obtain ⟨A3, c3, rfl⟩ := hq3.form
          clear hq3 hb3 hB3 d0 d1 d2 d3 d4 hlt
          go_wp2_with fail
          go_loopw [3, 31] (PutsRel la mj w3) (fun _ i _ => la.length - (intOf i).toNat)
          case atStart => exact HP3.out
          case round =>
            obtain ⟨k, hk, rfl, hM, hB⟩ := hrel
            by_cases hlt : k < la.length
            · obtain ⟨b, o, e1, hob, c0, c1⟩ := sp_get HR.out (List.getElem?_eq_getElem hlt)
              cases e1
              have hbl := World.block_lt_of_cell? _ _ c0
              dsimp only at hbl
              have d0 := (hB.cell (p := ⟨b, o + k * 2, none⟩) hbl).trans c0
              have d1 := (hB.cell (p := ⟨b, o + k * 2 + 1, none⟩) hbl).trans c1
              have hbl2 : b < wr.heap.size := Nat.lt_of_lt_of_le hbl hB.size
              have h0 : (0 : Int) ≤ (k : Int) := by omega
              have h1 : (k : Int) < (la.length : Int) := by omega
              have hst : (la.take (k + 1)).foldl Bw.put mj = Bw.put ((la.take k).foldl Bw.put mj) la[k] := by rw [take_succ_snoc hlt, List.foldl_append]; rfl
              obtain ⟨f1, f2⟩ := Bw.foldl_few (la.take k) HRI.out
              have hlen : ((la.take k).foldl Bw.put mj).length ≤ 1048576 := by have := HLN.out; rw [List.length_take] at f1; omega
              have hri := Bw.rises_foldl (la.take k) HRI.out
              have hkey : ∀ q ∈ (la.take k).foldl Bw.put mj, q.1.length ≤ 1048576 := fun q hq => (f2 q hq).elim (fun h => HKM.out q h) (fun h => HKL.out q (List.mem_of_mem_take h))
              have hp := HKL.out la[k] (List.getElem_mem hlt)
              have HST := Lib.hid hst
              have HLT := Lib.hid hlt
              generalize la[k] = p at *
              obtain ⟨px, py⟩ := p
              dsimp only at hp
              have CU := Lib.hid (fun W (hW : Below wr.heap.size wr W) => rput_any (px := px) (py := py) hlen hp hkey (hM.move goodSp (Moves.below hW)) hri)
              have HB := Lib.hid hB
              simp only [str] at d0 d1
              obtain ⟨AM, cm, rfl⟩ := hM.form
              clear hst f1 f2 hlen hri hkey hp hM hB c0 c1 hbl hlt
              generalize ((la.take k).foldl Bw.put mj).length = ml at *
              go_wp2_with fail
              refine (CU.out _ (by (repeat (first | exact Below.refl _ _ | with_reducible assumption | refine Below.drew ?_ | refine b_drewN ?_ _ | (refine Below.alloc ?_ (by first | omega | (simp <;> omega)) _))))).mono ?_
              rintro e w2 ⟨q2, rfl, hq2, hb2⟩
              have hb2' : Below wr.heap.size wr w2 := Below.trans (by (repeat (first | exact Below.refl _ _ | with_reducible assumption | refine Below.drew ?_ | refine b_drewN ?_ _ | (refine Below.alloc ?_ (by first | omega | (simp <;> omega)) _)))) (hb2.mono (by first | omega | (simp <;> omega)))
              have HQ2 := Lib.hid (hq2.move (ok' := AllB) goodSp (Moves.weaken fun _ _ _ => trivial))
              obtain ⟨A2, c2, rfl⟩ := hq2.form
              clear hq2 hb2
              go_wp2
              exact ⟨⟨k + 1, HLT.out, int_succ HLT.out HLL.out, by rw [HST.out]; exact HQ2.out, HB.out.trans (hb2'.mono HB.out.size)⟩, less_succ HLT.out HLL.out⟩
            · obtain rfl : k = la.length := by omega
              rw [List.take_length] at hM
              have HM := Lib.hid hM
              have HB := Lib.hid (HB3.out.trans (hB.mono HB3.out.size))
              clear hM hB hlt
              go_wp2
              exact ⟨⟨j + 1, HLTJ.out, int_succM HLTJ.out HMX.out, by rw [HST.out]; exact HM.out, HB.out⟩, less_succM HLTJ.out HMX.out⟩
        · obtain rfl : j = kids.length := by omega
          rw [List.take_length] at hM
          obtain ⟨A9, c9, rfl⟩ := hM.form
          have HM := Lib.hid hM
          have HB := Lib.hid hB
          clear hM hB hlt
          go_wp2
          go_ret
          exact ⟨_, rfl, HM.out, HB0.out.trans (HB.out.mono HB0.out.size)⟩
end Go.Proofs.Ytkblhilaeecdlaa
