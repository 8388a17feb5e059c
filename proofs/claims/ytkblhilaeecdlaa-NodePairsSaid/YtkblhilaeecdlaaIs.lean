
import Derived.Test.YtkblhilaeecdlaaNodeC
import Derived.Tactics
import Derived.Tactics2
import Derived.Defers
import Derived.Recover
import Derived.Laws.Pointers
namespace Go.Proofs.Ytkblhilaeecdlaa
open Go.RowKit Go.Bw

theorem ta_errno (w : World) : (Instr.typeAssert (.iface 38 (.int .i64 12)) 20 38 false).run Try.prog w = .ok (.int .i64 12) w := by kernel_rfl
theorem neq_errno (w : World) : (binOp .neq 20 (.iface 38 (.int .i64 12)) .nilIface).run Try.prog w = .ok (.bool true) w := by kernel_rfl
theorem neq_nil (w : World) : (binOp .neq 20 .nilIface .nilIface).run Try.prog w = .ok (.bool false) w := by kernel_rfl

theorem catch_panicking (p : Addr) (x : Value) (older : List PanicEntry) (w : World) (hc : w.cell? p = some x) (hz : w.frozen? p = false) :
    CallsD Try.prog 33 #[.pointer (some p)] (.panicking ({ v := .iface 38 (.int .i64 12), recovered := false } :: older)) w fun e u' w' =>
      e = .returned (.tuple #[]) ∧ u' = .panicking ({ v := .iface 38 (.int .i64 12), recovered := true } :: older) ∧ w' = w.setCell p (.int .i64 12) := by
  refine callsD_of_wpS Try.func33 rfl fun c₀ cs hu => ?_
  apply wpS_seq
  apply wpS_region
  simp [wpOpsS, go_sem, recoverD, hu, Try.ntmps33, Exit.thenS]
  apply wpS_seq
  apply wpS_region
  simp [wpOpsS, go_sem, neq_errno, Exit.thenS]
  refine wpS_cond (t := true) (by simp [Act.eval, Array.replicate]) ?_
  simp only [if_true]
  apply wpS_region
  simp [wpOpsS, go_sem, ta_errno, hc, hz, bodyPostS, results, Try.results33]

theorem catch_idle (p : Addr) (w : World) :
    CallsD Try.prog 33 #[.pointer (some p)] .returning w fun e u' w' => e = .returned (.tuple #[]) ∧ u' = .returning ∧ w' = w := by
  refine callsD_of_wpS Try.func33 rfl fun c₀ cs hu => ?_
  apply wpS_seq
  apply wpS_region
  simp [wpOpsS, go_sem, recoverD, hu, Try.ntmps33, Exit.thenS]
  apply wpS_seq
  apply wpS_region
  simp [wpOpsS, go_sem, neq_nil, Exit.thenS]
  refine wpS_cond (t := false) (by simp [Act.eval, Array.replicate]) ?_
  simp only [Bool.false_eq_true, if_false]
  refine wpS_of_wp (wp_skip ?_)
  cases c₀
  simp_all [bodyPostS, results, Try.results33]

set_option maxRecDepth 100000 in
set_option maxHeartbeats 400000 in
theorem is_hit {v : Value} {w : World} (kind : Int) (hC : ∀ W, Below w.heap.size w W → Calls Try.prog 12 #[v, .int .i64 kind] W fun e w' => e = .returned v ∧ w' = W) :
    Calls Try.prog 11 #[v, .int .i64 kind] w fun e w' => e = .returned (.int .i64 0) ∧ Below w.heap.size w w' := by
  have hmf : ∀ (fn : Fn) (first cap : Array Value) (w : World), (Instr.makeFunc fn first cap).run Try.prog w = .ok (.func fn first cap) w := fun _ _ _ _ => rfl
  have C := Lib.hid hC
  clear hC
  go_enter_defers Try.func11, Try.ntmps11
  go_wp2_with (go_at_call 12; refine (C.out _ (by (repeat (first | exact Below.refl _ _ | with_reducible assumption | refine Below.drew ?_ | (refine Below.alloc ?_ (by simp) _) | (refine Below.alloc ?_ (by simp; omega) _))))).mono ?_; rintro e w' ⟨rfl, rfl⟩)
  refine leaves_cons (f := 33) (args := #[.pointer (some ⟨w.heap.size, 0, none⟩)]) (by simp) (by simp [go_sem]) ?_
  refine (catch_idle ⟨w.heap.size, 0, none⟩ _).mono ?_
  rintro e u' w'' ⟨rfl, rfl, rfl⟩
  have hB : Below w.heap.size w (w.alloc (.cells #[.int .i64 0] 38)) := by (repeat (first | exact Below.refl _ _ | with_reducible assumption | refine Below.drew ?_ | (refine Below.alloc ?_ (by simp) _) | (refine Below.alloc ?_ (by simp; omega) _)))
  simp [Leaves, settle, results, Try.results11, go_sem]
  exact hB

set_option maxRecDepth 100000 in
set_option maxHeartbeats 400000 in
theorem is_miss {v : Value} {w : World} (kind : Int) (hC : ∀ W, Below w.heap.size w W → Calls Try.prog 12 #[v, .int .i64 kind] W fun e w' => e = .panicked [{ v := .iface 38 (.int .i64 12), recovered := false }] ∧ w' = W) :
    Calls Try.prog 11 #[v, .int .i64 kind] w fun e w' => e = .returned (.int .i64 12) ∧ Below w.heap.size w w' := by
  have hmf : ∀ (fn : Fn) (first cap : Array Value) (w : World), (Instr.makeFunc fn first cap).run Try.prog w = .ok (.func fn first cap) w := fun _ _ _ _ => rfl
  have C := Lib.hid hC
  clear hC
  go_enter_defers Try.func11, Try.ntmps11
  go_wp2_with (go_at_call 12; refine (C.out _ (by (repeat (first | exact Below.refl _ _ | with_reducible assumption | refine Below.drew ?_ | (refine Below.alloc ?_ (by simp) _) | (refine Below.alloc ?_ (by simp; omega) _))))).mono ?_; rintro e w' ⟨rfl, rfl⟩)
  refine leaves_cons (f := 33) (args := #[.pointer (some ⟨w.heap.size, 0, none⟩)]) (by simp) (by simp [go_sem]) ?_
  refine (catch_panicking ⟨w.heap.size, 0, none⟩ (.int .i64 0) [] _ ?_ ?_).mono ?_
  · simp [go_sem]
  · simp [go_sem]
  rintro e u' w'' ⟨rfl, rfl, rfl⟩
  have hB : Below w.heap.size w (w.alloc (.cells #[.int .i64 12] 38)) := by (repeat (first | exact Below.refl _ _ | with_reducible assumption | refine Below.drew ?_ | (refine Below.alloc ?_ (by simp) _) | (refine Below.alloc ?_ (by simp; omega) _)))
  simp [Leaves, settle, results, Try.results11, go_sem]
  exact hB

/-- Is: whether a node is of a kind, as an error. -/
theorem is_any {ok : Nat → Prop} {v : Value} {n : Option Bw.N} {w : World} (kind : Int) (h : ONodeAt nt ok w v n) :
    Calls Try.prog 11 #[v, .int .i64 kind] w fun e w' => e = .returned (.int .i64 (if n.isSome = true ∧ kind = kindO n then 0 else 12)) ∧ Below w.heap.size w w' := by
  by_cases hk : n.isSome = true ∧ kind = kindO n
  · rw [if_pos hk]
    exact is_hit kind fun W hW => by
      have := must_any kind (h.move (Moves.below hW))
      rwa [if_pos hk] at this
  · rw [if_neg hk]
    exact is_miss kind fun W hW => by
      have := must_any kind (h.move (Moves.below hW))
      rwa [if_neg hk] at this

end Go.Proofs.Ytkblhilaeecdlaa
