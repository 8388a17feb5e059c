
import Derived.Test.YtkblhilaeecdlaaDoorTree1
import Derived.Test.YtkblhilaeecdlaaDoorBwAll
namespace Go.Proofs.YtkblhilaeecdlaaDoor
open Go.RowKit Go.Bw

set_option maxRecDepth 100000 in
set_option maxHeartbeats 400000 in
theorem bcmp_any {ok ok' : Nat → Prop} {u v : Value} {a b : Bw.Bytes} (w : World) (hu : BytesAt ok w u a) (hv : BytesAt ok' w v b) :
    Calls Tryd.prog 43 #[u, v] w fun e w' => e = .returned (.int .i64 (Lib.compareBytes a b)) ∧ w = w' := by
  have HC := Lib.hid (run_compareE (P := Tryd.prog) hu hv)
  clear hu hv
  go_enter Tryd.func43, Tryd.ntmps43
  go_wp2_with fail
  rw [run_callFunc_extern Tryd.func50 (by kernel_rfl) (by kernel_rfl) (by kernel_rfl) (e := Extern.BytealgCompare.compare) (by kernel_rfl), HC.out]
  simp only [Result.andThen]
  rw [Oper.upon_value]
  go_wp2
  go_ret
  exact ⟨rfl, rfl⟩

set_option maxRecDepth 100000 in
set_option maxHeartbeats 400000 in
theorem kcmp_any {ok ok' : Nat → Prop} {u v : Value} {a b : Bw.Bytes} (w : World) (hu : BytesAt ok w u a) (hv : BytesAt ok' w v b) :
    Calls Tryd.prog 33 #[u, v] w fun e w' => e = .returned (.int .i64 (Lib.compareBytes a b)) ∧ w = w' := by
  have HC := Lib.hid (bcmp_any w hu hv)
  clear hu hv
  generalize Lib.compareBytes a b = r at *
  go_enter Tryd.func33, Tryd.ntmps33
  go_wp2_with fail
  refine HC.out.mono ?_
  rintro e w' ⟨rfl, rfl⟩
  go_wp2
  go_ret
  exact ⟨rfl, rfl⟩

set_option maxRecDepth 100000 in
set_option maxHeartbeats 400000 in
theorem comec_any {ok ok' : Nat → Prop} {u v u' v' : Value} {a b : Bw.Bytes} (w : World) (hu : BytesAt ok w u a) (hv : BytesAt ok' w v b) :
    Calls Tryd.prog 32 #[.agg #[u, u'], .agg #[v, v']] w fun e w' => e = .returned (.int .i64 (Lib.compareBytes a b)) ∧ w' = (w.alloc (.cells #[u, u'] 47)).alloc (.cells #[v, v'] 47) := by
  have hB : Below w.heap.size w ((w.alloc (.cells #[u, u'] 47)).alloc (.cells #[v, v'] 47)) := by (repeat (first | exact Below.refl _ _ | with_reducible assumption | refine Below.drew ?_ | (refine Below.alloc ?_ (by simp) _) | (refine Below.alloc ?_ (by simp; omega) _)))
  have HC := Lib.hid (kcmp_any _ (hu.move goodByte (Moves.below hB)) (hv.move goodByte (Moves.below hB)))
  clear hu hv hB
  generalize Lib.compareBytes a b = r at *
  go_enter Tryd.func32, Tryd.ntmps32
  go_wp2_with fail
  refine HC.out.mono ?_
  rintro e w1 ⟨rfl, rfl⟩
  go_wp2
  go_ret
  exact ⟨rfl, rfl⟩
end Go.Proofs.YtkblhilaeecdlaaDoor
