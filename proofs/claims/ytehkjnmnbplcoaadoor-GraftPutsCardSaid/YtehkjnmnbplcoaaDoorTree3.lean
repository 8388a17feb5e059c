
import Derived.Test.YtehkjnmnbplcoaaDoorTree2
namespace Go.Proofs.YtehkjnmnbplcoaaDoor
open Go.RowKit Go.Bw

set_option maxRecDepth 100000 in
set_option maxHeartbeats 400000 in
theorem root_node {ok : Nat → Prop} {l r : Bw.T} {p : Bw.PV} {v : Value} {w : World} (h : TreeAt ok w v (.node l p r)) (h1 : p.1.length ≤ 1048576) (h2 : p.2.length ≤ 1048576) :
    Calls Tryd.prog 107 #[v] w (Gives w fun r w' => ∃ u' v', r = .agg #[u', v'] ∧ BytesAt (fun k => w.heap.size < k) w' u' p.1 ∧ BytesAt (fun k => w.heap.size < k) w' v' p.2) := by
  obtain ⟨b, u1, u2, lv, rv, rfl, ⟨_, h0⟩, ⟨_, h3⟩, _, _, _, hu, hv, _⟩ := h
  have hlt := World.block_lt_of_cell? w _ h0
  dsimp only at hlt
  have hB : Below w.heap.size w (w.alloc (.cells #[.slice none 0 0, .slice none 0 0] 31)) := by (repeat (first | exact Below.refl _ _ | with_reducible assumption | refine Below.drew ?_ | (refine Below.alloc ?_ (by simp) _) | (refine Below.alloc ?_ (by simp; omega) _)))
  have CO := Lib.hid (own_any u1 u2 p _ (hu.move goodByte (Moves.below hB)) (hv.move goodByte (Moves.below hB)) h1 h2)
  have HB := Lib.hid hB
  clear h1 h2 hu hv hB
  go_enter Tryd.func107, Tryd.ntmps107
  go_wp2_with fail
  refine CO.out.mono ?_
  rintro e w1 ⟨q, rfl, ⟨u', v', rfl, hu', hv'⟩, hb1⟩
  obtain ⟨A1, c1, rfl⟩ := hu'.form
  obtain ⟨A2, c2, rfl⟩ := hv'.form
  have k0 : w1.cell? ⟨w.heap.size, 0, none⟩ = some (.slice none 0 0) := (hb1.cell (p := ⟨w.heap.size, 0, none⟩) (by simp)).trans (by go_simp)
  have k1 : w1.cell? ⟨w.heap.size, 1, none⟩ = some (.slice none 0 0) := (hb1.cell (p := ⟨w.heap.size, 1, none⟩) (by simp)).trans (by go_simp)
  have f0 : w1.frozen? ⟨w.heap.size, 0, none⟩ = false := (hb1.frozen (p := ⟨w.heap.size, 0, none⟩) (by simp)).trans (by go_simp)
  have f1 : w1.frozen? ⟨w.heap.size, 1, none⟩ = false := (hb1.frozen (p := ⟨w.heap.size, 1, none⟩) (by simp)).trans (by go_simp)
  go_wp2
  refine bodyPost_ret (v := .agg #[.slice A1 p.1.length c1, .slice A2 p.2.length c2]) (by simp [results, Tryd.results107, go_sem, k0, k1]) rfl ⟨_, rfl, ⟨_, _, rfl, ?_, ?_⟩, ?_⟩
  · refine hu'.move goodByte ((Moves.set (p := ⟨w.heap.size, 0, none⟩) _ ?_).trans (by simp) ((Moves.set (p := ⟨w.heap.size, 1, none⟩) _ ?_).trans (by simp) (Moves.weaken ?_))) <;> (intro k hk; simp at hk; simp; omega)
  · refine hv'.move goodByte ((Moves.set (p := ⟨w.heap.size, 0, none⟩) _ ?_).trans (by simp) ((Moves.set (p := ⟨w.heap.size, 1, none⟩) _ ?_).trans (by simp) (Moves.weaken ?_))) <;> (intro k hk; simp at hk; simp; omega)
  · exact ((HB.out.trans (hb1.mono (by simp))).setCell (by simp) _).setCell (by simp) _

end Go.Proofs.YtehkjnmnbplcoaaDoor
