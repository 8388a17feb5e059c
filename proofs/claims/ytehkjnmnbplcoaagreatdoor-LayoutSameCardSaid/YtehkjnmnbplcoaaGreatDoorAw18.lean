
import Derived.Test.YtehkjnmnbplcoaaGreatDoorFind
import Derived.Test.YtehkjnmnbplcoaaGreatDoorAw17
import Derived.Laws.StructEq
import Derived.KernelRfl
namespace Go.Proofs.YtehkjnmnbplcoaaGreatDoor
open Go.RowKit Go.Bw

theorem stoodMeter : Tryz.prog.stoodInHeld 44 = false := by kernel_rfl
theorem fieldsMeter : Tryz.prog.underlying 44 = some (.struct (Tryz.prog.fieldsOf 44)) := by kernel_rfl

set_option maxRecDepth 100000 in
/-- a meter is itself -/
theorem eqMeter (a b : Int) (w : World) : (Op.equalIn 10000 44 (.agg #[.int .i64 a, .int .i64 b]) (.agg #[.int .i64 a, .int .i64 b])).run Tryz.prog w = .ok true w := by
  have u3 := Tryz.underlying3
  have a3' := Tryz.isAgg3
  have z3 := Tryz.sizeOf3
  rw [show (10000 : Nat) = 9999 + 1 from rfl, run_equalIn_agg w 9999 44 _ _ fieldsMeter stoodMeter]
  simp only [Program.fieldsOf, Tryz.underlying44]
  go_simp

def exB : List Bw.En := [(5, ([107], [118]))]
theorem exB_of : Bw.ofO exB = some (.leaf 5 ([107], [118])) := by
  unfold Bw.ofO
  rw [show Bw.lasts exB = exB by decide, Bw.layO_same (g := 5) (by decide) rfl (by decide)]
  exact bucketO_one 5 _
theorem exB_ok : EnsOk exB where
  len := by decide
  bytes := by intro e he; simp only [exB, List.mem_singleton] at he; subst he; decide
  hash := by intro e he; simp only [exB, List.mem_singleton] at he; subst he; decide

end Go.Proofs.YtehkjnmnbplcoaaGreatDoor
