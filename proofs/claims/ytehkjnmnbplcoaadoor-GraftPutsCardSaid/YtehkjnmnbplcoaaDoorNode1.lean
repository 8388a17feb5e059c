
import Derived.Test.YtehkjnmnbplcoaaDoorOwn
import Derived.Test.YtehkjnmnbplcoaaDoorTree4
import Derived.Test.YtehkjnmnbplcoaaDoorBwAll
namespace Go.Proofs.YtehkjnmnbplcoaaDoor
open Go.RowKit Go.Bw

abbrev nt : NT := ⟨141, 144, 124⟩

set_option maxRecDepth 100000 in
set_option maxHeartbeats 400000 in
theorem leaf_any {ok : Nat → Prop} {u v : Value} {p : Bw.PV} {h : Nat} (w : World) (hu : BytesAt ok w u p.1) (hv : BytesAt ok w v p.2) (h1 : p.1.length ≤ 1048576) (h2 : p.2.length ≤ 1048576) :
    Calls Tryd.prog 75 #[.int .u64 (h : Nat), .agg #[u, v]] w (Gives w fun r w' => NodeAt nt (fun k => w.heap.size ≤ k) w' r (.leaf h p)) := by
  have hB1 : Below w.heap.size w (w.alloc (.cells #[u, v] 31)) := by (repeat (first | exact Below.refl _ _ | with_reducible assumption | refine Below.drew ?_ | (refine Below.alloc ?_ (by simp) _) | (refine Below.alloc ?_ (by simp; omega) _)))
  have hB : Below w.heap.size w ((w.alloc (.cells #[u, v] 31)).alloc (.cells #[u, v] 31)) := by (repeat (first | exact Below.refl _ _ | with_reducible assumption | refine Below.drew ?_ | (refine Below.alloc ?_ (by simp) _) | (refine Below.alloc ?_ (by simp; omega) _)))
  have CO := Lib.hid (pown_any (ok := fun k => ok k ∨ w.heap.size ≤ k) (l := [p]) (w := (w.alloc (.cells #[u, v] 31)).alloc (.cells #[u, v] 31)) (v := .slice (some ⟨w.heap.size + 1, 0, none⟩) 1 1) (by simp) (by intro q hq; simp only [List.mem_singleton] at hq; subst hq; exact ⟨h1, h2⟩)
    (RowAt.single goodPair (cs := #[u, v]) (t := 31) (fr := (0, 0)) (pairK_mk (hu.move goodByte ((Moves.weaken fun k hk _ => .inl hk).trans (Nat.le_refl _) (Moves.below hB))) (hv.move goodByte ((Moves.weaken fun k hk _ => .inl hk).trans (Nat.le_refl _) (Moves.below hB)))) (.inr (by omega)) (by rw [← World.size_alloc w (.cells #[u, v] 31)]; exact heap_alloc_new _ _)))
  have HB := Lib.hid hB
  clear hu hv h1 h2 hB hB1
  go_enter Tryd.func75, Tryd.ntmps75
  go_wp2_with fail
  refine CO.out.mono ?_
  rintro e w1 ⟨q, rfl, ⟨g, c, rfl, hqo⟩, hb1⟩
  have hq := hqo.row goodPair
  clear hqo
  obtain ⟨b, o, u', v', hbo, hob, c0, c1, hu', hv'⟩ := pair_get hq (j := 0) (p := p) rfl
  cases hbo
  obtain ⟨U, cu, rfl⟩ := hu'.form
  obtain ⟨V, cv, rfl⟩ := hv'.form
  simp only [Nat.zero_mul, Nat.add_zero, Nat.zero_add] at c0 c1
  have hB1 : Below w.heap.size w w1 := HB.out.trans (hb1.mono (by simp; omega))
  have HB1 := Lib.hid hB1; have HU := Lib.hid hu'; have HV := Lib.hid hv'
  clear hB1 hu' hv' hq
  have hlen : (0 : Int) < ([p].length : Int) := by simp
  go_wp2
  go_ret
  have hB2 : Below w1.heap.size w1 (w1.alloc (.cells #[.int .u64 (h : Nat), .slice U p.1.length cu, .slice V p.2.length cv] 143)) := by (repeat (first | exact Below.refl _ _ | with_reducible assumption | refine Below.drew ?_ | (refine Below.alloc ?_ (by simp) _) | (refine Below.alloc ?_ (by simp; omega) _)))
  have hM : Moves _ (fun k => w.heap.size ≤ k) w1 _ := Moves.fresh (n := w.heap.size) (m := w.heap.size) (Nat.le_refl _) hB2
  refine ⟨_, rfl, ?_, HB1.out.trans (hB2.mono HB1.out.size)⟩
  simp only [NodeAt]
  refine ⟨w1.heap.size, _, _, rfl, ⟨HB1.out.size, by go_simp⟩, ⟨HB1.out.size, by go_simp⟩, ⟨HB1.out.size, by go_simp⟩, HU.out.move goodByte (Moves.fresh (by simp; omega) hB2), HV.out.move goodByte (Moves.fresh (by simp; omega) hB2)⟩
end Go.Proofs.YtehkjnmnbplcoaaDoor
