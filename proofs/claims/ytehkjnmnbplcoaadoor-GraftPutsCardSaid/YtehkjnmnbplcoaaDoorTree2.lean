
import Derived.Test.YtehkjnmnbplcoaaDoorTree1
namespace Go.Proofs.YtehkjnmnbplcoaaDoor
open Go.RowKit Go.Bw

theorem size_any {ok : Nat → Prop} {w : World} {v : Value} {t : Bw.T} (h : TreeAt ok w v t) : Calls Tryd.prog 81 #[v] w fun e w' => e = .returned (.int .i64 (t.size : Nat)) ∧ w = w' := by
  cases t with
  | nil => cases h; exact size_nil w
  | node l p r =>
    obtain ⟨b, u1, u2, lv, rv, rfl, h0, h1, h2, h3, h4, _⟩ := h
    exact size_node w b _ h4.2

set_option maxRecDepth 100000 in
set_option maxHeartbeats 400000 in
theorem node_any {ok : Nat → Prop} {l r : Bw.T} {p : Bw.PV} {lv rv u v : Value} {w : World} (hl : TreeAt ok w lv l) (hr : TreeAt ok w rv r) (hu : BytesAt ok w u p.1) (hv : BytesAt ok w v p.2) (hok : ∀ k, w.heap.size ≤ k → ok k) (hn : l.size + r.size ≤ 1048576) :
    Calls Tryd.prog 108 #[lv, .agg #[u, v], rv] w (Gives w fun q w' => TreeAt ok w' q (.node l p r)) := by
  obtain ⟨A, rfl⟩ := hl.form
  obtain ⟨B, rfl⟩ := hr.form
  have CL := Lib.hid (fun (W : World) (hW : Below w.heap.size w W) => size_any (hl.move (Moves.below hW)))
  have CR := Lib.hid (fun (W : World) (hW : Below w.heap.size w W) => size_any (hr.move (Moves.below hW)))
  have hs1 : IntKind.i64.wrap ((l.size : Int) + 1) = (l.size : Int) + 1 := IntWalk.i64_in _ (by omega)
  have hs2 : IntKind.i64.wrap ((l.size : Int) + 1 + (r.size : Int)) = (l.size : Int) + 1 + (r.size : Int) := IntWalk.i64_in _ (by omega)
  have hw1 : wrap64 ((l.size : Int) + 1) = (l.size : Int) + 1 := by unfold wrap64; omega
  have hw2 : wrap64 ((l.size : Int) + 1 + (r.size : Int)) = (l.size : Int) + 1 + (r.size : Int) := by unfold wrap64; omega
  have HN := Lib.hid hn
  have HOK := Lib.hid hok
  clear hn hok
  go_enter Tryd.func108, Tryd.ntmps108
  go_wp2_with fail
  go_region_held3 (fun w' => w'.cell? ⟨w.heap.size, 0, none⟩ = some u ∧ w'.cell? ⟨w.heap.size, 1, none⟩ = some v)
    (go_keep)
    ((go_at_call 81; first | ((with_reducible refine (CL.out _ (by (repeat (first | exact Below.refl _ _ | with_reducible assumption | refine Below.drew ?_ | (refine Below.alloc ?_ (by simp) _) | (refine Below.alloc ?_ (by simp; omega) _))))).mono ?_); rintro e w1 ⟨rfl, rfl⟩) | ((with_reducible refine (CR.out _ (by (repeat (first | exact Below.refl _ _ | with_reducible assumption | refine Below.drew ?_ | (refine Below.alloc ?_ (by simp) _) | (refine Below.alloc ?_ (by simp; omega) _))))).mono ?_); rintro e w1 ⟨rfl, rfl⟩)))
  go_wp2
  go_ret
  have hB : Below w.heap.size w ((w.alloc (.cells #[u, v] 31)).alloc (.cells #[u, v, .pointer A, .pointer B, .int .i64 ((l.size : Int) + 1 + (r.size : Int))] 151)).drew := by (repeat (first | exact Below.refl _ _ | with_reducible assumption | refine Below.drew ?_ | (refine Below.alloc ?_ (by simp) _) | (refine Below.alloc ?_ (by simp; omega) _)))
  have hM : Moves ok ok w _ := Moves.below hB
  refine ⟨_, rfl, ⟨w.heap.size + 1, u, v, .pointer A, .pointer B, rfl, ?_, ?_, ?_, ?_, ?_, hu.move goodByte hM, hv.move goodByte hM, hl.move hM, hr.move hM⟩, hB⟩
  all_goals refine ⟨HOK.out _ (by omega), ?_⟩
  all_goals go_simp
  simp [Bw.T.size]
end Go.Proofs.YtehkjnmnbplcoaaDoor
