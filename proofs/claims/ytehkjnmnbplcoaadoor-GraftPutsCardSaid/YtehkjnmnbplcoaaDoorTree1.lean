
import Derived.Test.YtehkjnmnbplcoaaDoorClone
import Derived.Deep.RegionHeld3
import Derived.StillTailTactics
namespace Go.Proofs.YtehkjnmnbplcoaaDoor
open Go.RowKit Go.Bw

set_option maxRecDepth 100000 in
set_option maxHeartbeats 400000 in
theorem size_nil (w : World) : Calls Tryd.prog 81 #[.pointer none] w fun e w' => e = .returned (.int .i64 0) ∧ w = w' := by
  go_enter Tryd.func81, Tryd.ntmps81
  go_wp2
  go_ret
  exact ⟨rfl, rfl⟩

set_option maxRecDepth 100000 in
set_option maxHeartbeats 400000 in
theorem size_node (w : World) (b : Nat) (n : Int) (hc : w.cell? ⟨b, 4, none⟩ = some (.int .i64 n)) : Calls Tryd.prog 81 #[.pointer (some ⟨b, 0, none⟩)] w fun e w' => e = .returned (.int .i64 n) ∧ w = w' := by
  go_enter Tryd.func81, Tryd.ntmps81
  go_wp2
  go_ret
  exact ⟨rfl, rfl⟩


set_option maxRecDepth 100000 in
set_option maxHeartbeats 1000000 in
theorem own_any {ok : Nat → Prop} (u v : Value) (p : Bw.PV) (w : World) (hu : BytesAt ok w u p.1) (hv : BytesAt ok w v p.2) (h1 : p.1.length ≤ 1048576) (h2 : p.2.length ≤ 1048576) :
    Calls Tryd.prog 86 #[.agg #[u, v]] w (Gives w fun r w' => ∃ u' v', r = .agg #[u', v'] ∧ BytesAt (fun k => w.heap.size ≤ k) w' u' p.1 ∧ BytesAt (fun k => w.heap.size ≤ k) w' v' p.2) := by
  have CU := Lib.hid (cloneB_at (w.heap.size + 2) hu h1)
  have CV := Lib.hid (cloneB_at (w.heap.size + 2) hv h2)
  clear hu hv h1 h2
  go_enter Tryd.func86, Tryd.ntmps86
  go_wp2_with fail
  go_region_held3 (fun w' => w'.cell? ⟨w.heap.size, 0, none⟩ = some u ∧ w'.cell? ⟨w.heap.size, 1, none⟩ = some v)
    (first
      | go_keep
      | (refine ⟨(hb1.cell (p := ⟨w.heap.size, 0, none⟩) (by simp; omega)).trans ?_, (hb1.cell (p := ⟨w.heap.size, 1, none⟩) (by simp; omega)).trans ?_⟩ <;> go_simp)
      | (have hS : w1.cell? ⟨w.heap.size, 0, none⟩ = some u ∧ w1.cell? ⟨w.heap.size, 1, none⟩ = some v := (by assumption); exact ⟨(hb2.cell (p := ⟨w.heap.size, 0, none⟩) (by have := hb1.size; simp at this; simp; omega)).trans hS.1, (hb2.cell (p := ⟨w.heap.size, 1, none⟩) (by have := hb1.size; simp at this; simp; omega)).trans hS.2⟩)
      | (trace_state; fail))
    ((go_at_call 94; first | ((with_reducible refine (CU.out _ (by (repeat (first | exact Below.refl _ _ | with_reducible assumption | refine Below.drew ?_ | (refine Below.alloc ?_ (by simp) _) | (refine Below.alloc ?_ (by simp; omega) _)))) (by simp)).mono ?_); rintro e w1 ⟨r1, rfl, hr1, hb1⟩; obtain ⟨A1, c1, rfl⟩ := hr1.form) | ((with_reducible refine (CV.out _ (Below.trans (b := ((w.alloc (.cells #[u, v] 31)).alloc (.cells #[.slice none 0 0, .slice none 0 0] 31)).drew) (by (repeat (first | exact Below.refl _ _ | with_reducible assumption | refine Below.drew ?_ | (refine Below.alloc ?_ (by simp) _) | (refine Below.alloc ?_ (by simp; omega) _)))) (Below.mono hb1 (by simp; omega))) (by have := hb1.size; simp at this; omega)).mono ?_); rintro e w2 ⟨r2, rfl, hr2, hb2⟩; obtain ⟨A2, c2, rfl⟩ := hr2.form; have hW := hb1.trans (hb2.mono hb1.size); have k0 : w2.cell? ⟨w.heap.size + 1, 0, none⟩ = some (.slice none 0 0) := (hW.cell (p := ⟨w.heap.size + 1, 0, none⟩) (by simp)).trans (by go_simp); have k1 : w2.cell? ⟨w.heap.size + 1, 1, none⟩ = some (.slice none 0 0) := (hW.cell (p := ⟨w.heap.size + 1, 1, none⟩) (by simp)).trans (by go_simp); have f0 : w2.frozen? ⟨w.heap.size + 1, 0, none⟩ = false := (hW.frozen (p := ⟨w.heap.size + 1, 0, none⟩) (by simp)).trans (by go_simp); have f1 : w2.frozen? ⟨w.heap.size + 1, 1, none⟩ = false := (hW.frozen (p := ⟨w.heap.size + 1, 1, none⟩) (by simp)).trans (by go_simp))))
  go_wp2
  refine bodyPost_ret (v := .agg #[.slice A1 p.1.length c1, .slice A2 p.2.length c2]) (by simp [results, Tryd.results86, go_sem, k0, k1]) rfl ⟨_, rfl, ⟨_, _, rfl, ?_, ?_⟩, ?_⟩
  · refine hr1.move goodByte ((Moves.below hb2).trans hb2.size ((Moves.set (p := ⟨w.heap.size + 1, 0, none⟩) _ ?_).trans (by simp) ((Moves.set (p := ⟨w.heap.size + 1, 1, none⟩) _ ?_).trans (by simp) (Moves.weaken ?_)))) <;> (intro k hk; simp; omega)
  · refine hr2.move goodByte ((Moves.set (p := ⟨w.heap.size + 1, 0, none⟩) _ ?_).trans (by simp) ((Moves.set (p := ⟨w.heap.size + 1, 1, none⟩) _ ?_).trans (by simp) (Moves.weaken ?_))) <;> (intro k hk; simp; omega)
  · exact (((Below.trans (b := ((w.alloc (.cells #[u, v] 31)).alloc (.cells #[.slice none 0 0, .slice none 0 0] 31)).drew) (by (repeat (first | exact Below.refl _ _ | with_reducible assumption | refine Below.drew ?_ | (refine Below.alloc ?_ (by simp) _) | (refine Below.alloc ?_ (by simp; omega) _)))) (hW.mono (by simp; omega))).setCell (by simp) _).setCell (by simp) _)
end Go.Proofs.YtehkjnmnbplcoaaDoor
