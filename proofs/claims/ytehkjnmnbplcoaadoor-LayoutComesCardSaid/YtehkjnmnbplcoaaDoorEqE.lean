
import Derived.Test.YtehkjnmnbplcoaaDoorRef19
import Derived.Laws.StructEq
import Derived.KernelRfl
namespace Go.Proofs.YtehkjnmnbplcoaaDoor
open Go.RowKit Go.Bw

theorem stoodSen : Tryd.prog.stoodInHeld 60 = false := by kernel_rfl
theorem fieldsSen : Tryd.prog.underlying 60 = some (.struct (Tryd.prog.fieldsOf 60)) := by kernel_rfl
theorem stoodSP : Tryd.prog.stoodInHeld 36 = false := by kernel_rfl
theorem fieldsSP : Tryd.prog.underlying 36 = some (.struct (Tryd.prog.fieldsOf 36)) := by kernel_rfl

set_option maxRecDepth 100000 in
/-- an entry is itself -/
theorem eqSen (h : Nat) (k v : ByteArray) (w : World) : (Op.equalIn 10000 60 (.agg #[.int .u64 (h : Nat), .string k, .string v]) (.agg #[.int .u64 (h : Nat), .string k, .string v])).run Tryd.prog w = .ok true w := by
  have u3 := Tryd.underlying39
  have a3' := Tryd.isAgg39
  have z3 := Tryd.sizeOf39
  have v3 := Tryd.underlying9
  have b3' := Tryd.isAgg9
  have y3 := Tryd.sizeOf9
  have u4 := Tryd.underlying36
  have a4' := Tryd.isAgg36
  have z4 := Tryd.sizeOf36
  rw [show (10000 : Nat) = 9998 + 1 + 1 from rfl, run_equalIn_agg w (9998 + 1) 60 _ _ fieldsSen stoodSen]
  simp only [Program.fieldsOf, Tryd.underlying60]
  go_simp
end Go.Proofs.YtehkjnmnbplcoaaDoor
