
import Derived.Test.YtkblhilaeecdlaaCome
import Derived.Deep.QuietTactic
import Derived.BigQuiet
namespace Go.Proofs.Ytkblhilaeecdlaa
open Go.RowKit Go.Bw

theorem cell_new (w : World) (n : Nat) (cs : Array Value) (e : TypeId) (i : Nat) (v : Value) (h : cs[i]? = some v) : ((w.alloc (.cells cs e)).drewN n).cell? ⟨w.heap.size, i, none⟩ = some v := by
  show (w.alloc (.cells cs e)).cell? ⟨w.heap.size, i, none⟩ = some v
  unfold World.cell?
  simp only [heap_alloc_new w (.cells cs e)]
  exact h

def ComeRel (L : List Bw.PV) (w w2 : World) (v i : Value) (wr : World) : Prop :=
  ∃ (k : Nat) (acc : List Bw.PV), k ≤ L.length ∧ i = .int .i64 k ∧ acc.length ≤ k ∧ acc ++ Bw.lastOf (L.drop k) = Bw.lastOf L ∧ OwnAt 54 2 pairK (fun k => w.heap.size ≤ k) wr w2.heap.size v acc ∧ Below w2.heap.size w2 wr

set_option maxRecDepth 100000 in
set_option maxHeartbeats 1000000 in
theorem pcome_any {ok : Nat → Prop} {l : List Bw.PV} {v : Value} {w : World} (hl : l.length < 20) (hp : ∀ p ∈ l, p.1.length ≤ 1048576 ∧ p.2.length ≤ 1048576) (hr : PairsAt ok w v l) :
    Calls Try.prog 22 #[v] w (Gives w fun q w' => PairsAt (fun k => w.heap.size ≤ k) w' q (Bw.lastOf (Bw.sortS l))) := by
  obtain ⟨A, c, rfl⟩ := hr.form
  have CO := Lib.hid (pown_any (by omega) hp hr)
  have HL := Lib.hid hl
  obtain ⟨i0, hi, hz0, hz1, hz2⟩ := info_parts infoP
  have HI := Lib.hid hi; have HZ0 := Lib.hid hz0; have HZ1 := Lib.hid hz1; have HZ2 := Lib.hid hz2
  clear hl hp hr hi hz0 hz1 hz2
  go_enter Try.func22, Try.ntmps22
  go_wp2_with fail
  refine CO.out.mono ?_
  rintro e w1 ⟨q, rfl, ⟨g, cap, rfl, hown1⟩, hb1⟩
  have CS := Lib.hid (sstable_any hown1 HL.out rfl)
  clear hown1
  go_wp2_with fail
  refine CS.out.mono ?_
  rintro e w2 ⟨rfl, hown2, hg2⟩
  have hlen : (Bw.sortS l).length = l.length := Bw.length_sortS l
  have hB2 : Below w.heap.size w w2 := hb1.grown hg2 hb1.size (fun k hk => by cases hk; exact (hown2.lt g rfl).1)
  have hrow := hown2.row goodPair
  have H0 : Hid (ComeRel (Bw.sortS l) w w2 (.slice none 0 0) (.int .i64 0) w2) := Lib.hid ⟨0, [], Nat.zero_le _, rfl, Nat.le_refl _, rfl, OwnAt.nil, Below.refl _ _⟩
  have HROW := Lib.hid hrow; have HB2 := Lib.hid hB2; have HLEN := Lib.hid hlen; have HBB1 := Lib.hid hb1
  clear hown2 hg2 hlen hB2 hrow hb1
  go_wp2_with fail
  go_loopw [3, 12] (ComeRel (Bw.sortS l) w w2) (fun _ i _ => l.length - (intOf i).toNat)
  case atStart => exact H0.out
  case round =>
    obtain ⟨k, acc, hk, rfl, hak, hacc, hown, hB⟩ := hrel
    by_cases hlt : k < l.length
    · have hltL : k < (Bw.sortS l).length := by rw [HLEN.out]; exact hlt
      obtain ⟨b, o, u1, u2, hbo, hob, c0, c1, hu, hv⟩ := pair_get HROW.out (List.getElem?_eq_getElem hltL)
      cases hbo
      obtain ⟨U1, cu1, rfl⟩ := hu.form
      obtain ⟨U2, cu2, rfl⟩ := hv.form
      have hbl := World.block_lt_of_cell? w2 _ c0
      dsimp only at hbl
      have d0 := (hB.cell (p := ⟨g, 0 + k * 2, none⟩) hbl).trans c0
      have d1 := (hB.cell (p := ⟨g, 0 + k * 2 + 1, none⟩) hbl).trans c1
      simp only [Nat.zero_add] at d0 d1
      have hbl2 : g < wr.heap.size := Nat.lt_of_lt_of_le hbl hB.size
      have h0 : (0 : Int) ≤ (k : Int) := by omega
      have h1 : (k : Int) < (l.length : Int) := by omega
      have hs : IntKind.i64.wrap ((k : Int) + 1) = (k : Int) + 1 := IntWalk.i64_in _ (by have := HL.out; omega)
      have hk5 : (0 : Int) ≤ (k : Int) + 1 := by omega
      have hk6 : ((k : Int) + 1).toNat = k + 1 := by omega
      have HU := Lib.hid hu; have HV := Lib.hid hv; have HOWN := Lib.hid hown; have HACC := Lib.hid hacc; have HBB := Lib.hid hB
      have HAK := Lib.hid hak
      clear hu hv hown hacc c0 c1 hk hak
      by_cases hnext : k + 1 < l.length
      · have hnL : k + 1 < (Bw.sortS l).length := by rw [HLEN.out]; exact hnext
        obtain ⟨b', o', x3, x4, hbo', hob', c2, c3, hu3, _⟩ := pair_get HROW.out (List.getElem?_eq_getElem hnL)
        cases hbo'
        obtain ⟨U3, cu3, rfl⟩ := hu3.form
        have d2 := (hB.cell (p := ⟨g, 0 + (k + 1) * 2, none⟩) hbl).trans c2
        simp only [Nat.zero_add] at d2
        have h2 : (k : Int) + 1 < (l.length : Int) := by omega
        have hg1 : decide ((k : Int) + 1 < (l.length : Int)) = true := by simpa using h2
        have CE := Lib.hid (fun n => (beq_any (((wr.alloc (.cells #[.slice U1 (Bw.sortS l)[k].1.length cu1, .slice U2 (Bw.sortS l)[k].2.length cu2] 54))).drewN n) (hu3.move goodByte ((Moves.below hB).trans hB.size ((Moves.below ((Below.refl _ _).alloc (Nat.le_refl _) _)).trans (by simp) (Moves.drewN _ n)))) (HU.out.move goodByte ((Moves.below hB).trans hB.size ((Moves.below ((Below.refl _ _).alloc (Nat.le_refl _) _)).trans (by simp) (Moves.drewN _ n))))).mono (R' := fun e w' => e = .returned (.bool (decide ((Bw.sortS l)[k + 1].1 = (Bw.sortS l)[k].1))) ∧ w' = ((wr.alloc (.cells #[.slice U1 (Bw.sortS l)[k].1.length cu1, .slice U2 (Bw.sortS l)[k].2.length cu2] 54))).drewN n) (fun _ _ h => ⟨h.1, h.2.symm⟩))
        clear c2 c3 hu3
        by_cases hsame : (Bw.sortS l)[k + 1].1 = (Bw.sortS l)[k].1
        · have hdec : decide ((Bw.sortS l)[k + 1].1 = (Bw.sortS l)[k].1) = true := by simpa using hsame
          have HS := Lib.hid hsame
          clear hsame
          go_wp2_with fail
          go_quiet ((go_at_call 46; exact Calls.quiet_of_same (CE.out _)))
          go_wp2
          exact ⟨⟨k + 1, acc, by rw [HLEN.out]; exact hlt, by rw [Int.natCast_add]; rfl, Nat.le_succ_of_le HAK.out, by rw [← Bw.lastOf_same hnL HS.out]; exact HACC.out, HOWN.out.move goodPair ((Moves.below ((Below.refl _ _).alloc (Nat.le_refl _) _)).trans (by simp) (Moves.drewN _ _)), HBB.out.trans (Below.mono (b_drewN (by (repeat (first | exact Below.refl _ _ | with_reducible assumption | refine Below.drew ?_ | (refine Below.alloc ?_ (by simp) _) | (refine Below.alloc ?_ (by simp; omega) _)))) _) HBB.out.size)⟩, by simp only [intOf]; omega⟩
        · have hdec : decide ((Bw.sortS l)[k + 1].1 = (Bw.sortS l)[k].1) = false := by simpa using hsame
          have HNX := Lib.hid (Bw.lastOf_other hnL hsame)
          clear hsame
          go_wp2_with fail
          go_quiet ((go_at_call 46; exact Calls.quiet_of_same (CE.out _)))
          rename_i nq
          obtain ⟨W3, hW3⟩ : ∃ W3, ((wr.alloc (.cells #[.slice U1 (Bw.sortS l)[k].1.length cu1, .slice U2 (Bw.sortS l)[k].2.length cu2] 54)).drewN nq) = W3 := ⟨_, rfl⟩
          have k0 : W3.cell? ⟨wr.heap.size, 0, none⟩ = some (.slice U1 (Bw.sortS l)[k].1.length cu1) := by subst hW3; exact cell_new _ _ _ _ _ _ rfl
          have k1 : W3.cell? ⟨wr.heap.size, 1, none⟩ = some (.slice U2 (Bw.sortS l)[k].2.length cu2) := by subst hW3; exact cell_new _ _ _ _ _ _ rfl
          have hwr3 : Below wr.heap.size wr W3 := by rw [← hW3]; exact b_drewN (by (repeat (first | exact Below.refl _ _ | with_reducible assumption | refine Below.drew ?_ | (refine Below.alloc ?_ (by simp) _) | (refine Below.alloc ?_ (by simp; omega) _)))) _
          have hlt3 : wr.heap.size < W3.heap.size := by rw [← hW3]; simp
          rw [hW3]
          clear hW3
          have hO3 := HOWN.out.move goodPair (Moves.below hwr3)
          have hB3 : Below w2.heap.size w2 W3 := HBB.out.trans (hwr3.mono HBB.out.size)
          have mv : Moves (fun k => w.heap.size ≤ k) (fun k => w.heap.size ≤ k ∧ some k ≠ u3.ownBlock) w2 W3 := fun k hk hl => ⟨⟨hk, fun e => by have := (HOWN.out.lt k e.symm).1; omega⟩, hB3.block k hl⟩
          have HU3 := Lib.hid (HU.out.move goodByte mv); have HV3 := Lib.hid (HV.out.move goodByte mv)
          have HO3 := Lib.hid hO3; have HB3 := Lib.hid hB3
          clear hO3 hB3 mv hwr3
          go_wp2_with (at_builtin; refine wp_app1 goodPair rfl (.tmp 33) (.tmp 35) 44 rfl w2.heap.size 54 i0 _ 48 Try.underlying44 HI.out HZ0.out HZ1.out HZ2.out rfl (by decide) _ acc rfl HO3.out (Bw.sortS l)[k] #[.slice U1 (Bw.sortS l)[k].1.length cu1, .slice U2 (Bw.sortS l)[k].2.length cu2] 54 rfl (pairK_mk HU3.out HV3.out) (fun k hk => Nat.le_trans (Nat.le_trans HB2.out.size HB3.out.size) hk) (by have := HL.out; have := HAK.out; omega) (by decide) HB3.out.size ?_; intro v4 w4 hown4 hb4 hat4 hg4)
          exact ⟨⟨k + 1, acc ++ [(Bw.sortS l)[k]], by rw [HLEN.out]; exact hlt, by rw [Int.natCast_add]; rfl, by have := HAK.out; simp; omega, by rw [List.append_assoc, List.singleton_append, ← HNX.out]; exact HACC.out, hown4, HB3.out.trans hb4⟩, by simp only [intOf]; omega⟩
      · have hg1 : decide ((k : Int) + 1 < (l.length : Int)) = false := by rw [decide_eq_false_iff_not]; omega
        have HNX := Lib.hid (Bw.lastOf_end hltL (by rw [HLEN.out]; exact hnext))
        clear hnext
        go_wp2_with fail
        go_quiet (fail)
        rename_i nq
        obtain ⟨W3, hW3⟩ : ∃ W3, ((wr.alloc (.cells #[.slice U1 (Bw.sortS l)[k].1.length cu1, .slice U2 (Bw.sortS l)[k].2.length cu2] 54)).drewN nq) = W3 := ⟨_, rfl⟩
        have k0 : W3.cell? ⟨wr.heap.size, 0, none⟩ = some (.slice U1 (Bw.sortS l)[k].1.length cu1) := by subst hW3; exact cell_new _ _ _ _ _ _ rfl
        have k1 : W3.cell? ⟨wr.heap.size, 1, none⟩ = some (.slice U2 (Bw.sortS l)[k].2.length cu2) := by subst hW3; exact cell_new _ _ _ _ _ _ rfl
        have hwr3 : Below wr.heap.size wr W3 := by rw [← hW3]; exact b_drewN (by (repeat (first | exact Below.refl _ _ | with_reducible assumption | refine Below.drew ?_ | (refine Below.alloc ?_ (by simp) _) | (refine Below.alloc ?_ (by simp; omega) _)))) _
        have hlt3 : wr.heap.size < W3.heap.size := by rw [← hW3]; simp
        rw [hW3]
        clear hW3
        have hO3 := HOWN.out.move goodPair (Moves.below hwr3)
        have hB3 : Below w2.heap.size w2 W3 := HBB.out.trans (hwr3.mono HBB.out.size)
        have mv : Moves (fun k => w.heap.size ≤ k) (fun k => w.heap.size ≤ k ∧ some k ≠ u3.ownBlock) w2 W3 := fun k hk hl => ⟨⟨hk, fun e => by have := (HOWN.out.lt k e.symm).1; omega⟩, hB3.block k hl⟩
        have HU3 := Lib.hid (HU.out.move goodByte mv); have HV3 := Lib.hid (HV.out.move goodByte mv)
        have HO3 := Lib.hid hO3; have HB3 := Lib.hid hB3
        clear hO3 hB3 mv hwr3
        go_wp2_with (at_builtin; refine wp_app1 goodPair rfl (.tmp 33) (.tmp 35) 44 rfl w2.heap.size 54 i0 _ 48 Try.underlying44 HI.out HZ0.out HZ1.out HZ2.out rfl (by decide) _ acc rfl HO3.out (Bw.sortS l)[k] #[.slice U1 (Bw.sortS l)[k].1.length cu1, .slice U2 (Bw.sortS l)[k].2.length cu2] 54 rfl (pairK_mk HU3.out HV3.out) (fun k hk => Nat.le_trans (Nat.le_trans HB2.out.size HB3.out.size) hk) (by have := HL.out; have := HAK.out; omega) (by decide) HB3.out.size ?_; intro v4 w4 hown4 hb4 hat4 hg4)
        exact ⟨⟨k + 1, acc ++ [(Bw.sortS l)[k]], by rw [HLEN.out]; exact hlt, by rw [Int.natCast_add]; rfl, by have := HAK.out; simp; omega, by rw [List.append_assoc, List.singleton_append, ← HNX.out]; exact HACC.out, hown4, HB3.out.trans hb4⟩, by simp only [intOf]; omega⟩
    · have hkL : k = (Bw.sortS l).length := by rw [HLEN.out] at hk ⊢; omega
      have hfin : acc = Bw.lastOf (Bw.sortS l) := by
        have h := hacc
        rw [hkL, List.drop_length] at h
        simpa [Bw.lastOf] using h
      have HOWN := Lib.hid hown; have HF := Lib.hid hfin; have HBB := Lib.hid hB
      clear hown hfin hacc hkL hk hak hB
      go_wp2
      go_ret
      exact ⟨_, rfl, by rw [← HF.out]; exact HOWN.out.row goodPair, HB2.out.trans (HBB.out.mono HB2.out.size)⟩
end Go.Proofs.Ytkblhilaeecdlaa
