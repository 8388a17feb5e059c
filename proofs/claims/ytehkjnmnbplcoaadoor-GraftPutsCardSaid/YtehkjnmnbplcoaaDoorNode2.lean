
import Derived.Test.YtehkjnmnbplcoaaDoorNode1
namespace Go.Proofs.YtehkjnmnbplcoaaDoor
open Go.RowKit Go.Bw

set_option maxRecDepth 100000 in
set_option maxHeartbeats 400000 in
theorem bucket_any {ok : Nat → Prop} {t : Bw.T} {h : Nat} {tv : Value} {w : World} (ht : TreeAt ok w tv t) (hp : ∀ p ∈ t.list, p.1.length ≤ 1048576 ∧ p.2.length ≤ 1048576) (hok : ∀ k, w.heap.size ≤ k → ok k) :
    Calls Tryd.prog 78 #[.int .u64 (h : Nat), tv] w (Gives w fun r w' => ONodeAt nt ok w' r (Bw.bucketO h t)) := by
  obtain ⟨A, rfl⟩ := ht.form
  have CS := Lib.hid (size_any ht)
  have HOK := Lib.hid hok
  by_cases h0 : t.size = 0
  · have hz : ((t.size : Int) == 0) = true := by simp [h0]
    have HF := Lib.hid (show Bw.bucketO h t = none by unfold Bw.bucketO; rw [if_pos h0])
    clear ht hp hok h0
    go_enter Tryd.func78, Tryd.ntmps78
    go_wp2_with fail
    refine CS.out.mono ?_
    rintro e w1 ⟨rfl, rfl⟩
    go_wp2
    go_ret
    exact ⟨_, rfl, by rw [HF.out]; rfl, Below.refl _ _⟩
  · have hz : ((t.size : Int) == 0) = false := beq_eq_false_iff_ne.2 (by omega)
    by_cases h1 : t.size = 1
    · have hz1 : ((t.size : Int) == 1) = true := by simp [h1]
      cases t with
      | nil => exact absurd rfl h0
      | node l p r =>
        have HF := Lib.hid (show Bw.bucketO h (.node l p r) = some (.leaf h p) by unfold Bw.bucketO; rw [if_neg h0, if_pos h1]; rfl)
        have hm := hp p (by simp [Bw.T.list])
        have CR := Lib.hid (root_node ht hm.1 hm.2)
        have HM := Lib.hid hm
        clear ht hp hok h0 h1 hm
        go_enter Tryd.func78, Tryd.ntmps78
        go_wp2_with fail
        refine CS.out.mono ?_
        rintro e w1 ⟨rfl, rfl⟩
        go_wp2_with fail
        refine CR.out.mono ?_
        rintro e w1 ⟨q, rfl, ⟨u', v', rfl, hu', hv'⟩, hb1⟩
        have CL := Lib.hid (leaf_any (h := h) w1 hu' hv' HM.out.1 HM.out.2)
        have HB1 := Lib.hid hb1
        clear hu' hv' hb1
        go_wp2_with fail
        refine CL.out.mono ?_
        rintro e w2 ⟨q, rfl, hq, hb2⟩
        obtain ⟨t9, b9, rfl⟩ := hq.form
        have HQ := Lib.hid hq
        have HB2 := Lib.hid hb2
        clear hq hb2
        go_wp2
        go_ret
        exact ⟨_, rfl, by rw [HF.out]; exact NodeAt.move (Moves.weaken fun k hk _ => HOK.out k (Nat.le_trans HB1.out.size hk)) _ _ HQ.out, HB1.out.trans (HB2.out.mono HB1.out.size)⟩
    · have hz1 : ((t.size : Int) == 1) = false := beq_eq_false_iff_ne.2 (by omega)
      have HF := Lib.hid (show Bw.bucketO h t = some (.bucket h t) by unfold Bw.bucketO; rw [if_neg h0, if_neg h1])
      have HT := Lib.hid ht
      clear ht hp hok h0 h1
      go_enter Tryd.func78, Tryd.ntmps78
      go_wp2_with fail
      refine CS.out.mono ?_
      rintro e w1 ⟨rfl, rfl⟩
      go_wp2
      go_ret
      have hB : Below w.heap.size w (w.alloc (.cells #[.int .u64 (h : Nat), .pointer A] 146)) := by (repeat (first | exact Below.refl _ _ | with_reducible assumption | refine Below.drew ?_ | (refine Below.alloc ?_ (by simp) _) | (refine Below.alloc ?_ (by simp; omega) _)))
      refine ⟨_, rfl, ?_, hB⟩
      rw [HF.out]
      simp only [ONodeAt, NodeAt]
      exact ⟨w.heap.size, .pointer A, rfl, ⟨HOK.out _ (Nat.le_refl _), by go_simp⟩, ⟨HOK.out _ (Nat.le_refl _), by go_simp⟩, HT.out.move (Moves.below hB)⟩
end Go.Proofs.YtehkjnmnbplcoaaDoor
