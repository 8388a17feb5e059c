
import Derived.Test.YtehkjnmnbplcoaaDoorTree1
import Derived.Test.YtehkjnmnbplcoaaDoorBwAll
namespace Go.Proofs.YtehkjnmnbplcoaaDoor
open Go.RowKit Go.Bw

set_option maxRecDepth 100000 in
set_option maxHeartbeats 400000 in
theorem bcmp_any {ok ok' : Nat → Prop} {u v : Value} {a b : Bw.Bytes} (w : World) (hu : BytesAt ok w u a) (hv : BytesAt ok' w v b) :
    Calls Tryd.prog 104 #[u, v] w fun e w' => e = .returned (.int .i64 (Lib.compareBytes a b)) ∧ w = w' := by
  have HC := Lib.hid (run_compareE (P := Tryd.prog) hu hv)
  clear hu hv
  go_enter Tryd.func104, Tryd.ntmps104
  go_wp2_with fail
  rw [run_callFunc_extern Tryd.func130 (by kernel_rfl) (by kernel_rfl) (by kernel_rfl) (e := Extern.BytealgCompare.compare) (by kernel_rfl), HC.out]
  simp only [Result.andThen]
  rw [Oper.upon_value]
  go_wp2
  go_ret
  exact ⟨rfl, rfl⟩

set_option maxRecDepth 100000 in
set_option maxHeartbeats 400000 in
theorem kcmp_any {ok ok' : Nat → Prop} {u v : Value} {a b : Bw.Bytes} (w : World) (hu : BytesAt ok w u a) (hv : BytesAt ok' w v b) :
    Calls Tryd.prog 65 #[u, v] w fun e w' => e = .returned (.int .i64 (Lib.compareBytes a b)) ∧ w = w' := by
  have HC := Lib.hid (bcmp_any w hu hv)
  clear hu hv
  generalize Lib.compareBytes a b = r at *
  go_enter Tryd.func65, Tryd.ntmps65
  go_wp2_with fail
  refine HC.out.mono ?_
  rintro e w' ⟨rfl, rfl⟩
  go_wp2
  go_ret
  exact ⟨rfl, rfl⟩

end Go.Proofs.YtehkjnmnbplcoaaDoor
