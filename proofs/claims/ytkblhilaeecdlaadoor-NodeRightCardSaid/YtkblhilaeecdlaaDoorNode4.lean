
import Derived.Test.YtkblhilaeecdlaaDoorNode3
import Derived.Test.YtkblhilaeecdlaaDoorBits1
namespace Go.Proofs.YtkblhilaeecdlaaDoor
open Go.RowKit Go.Bw

theorem kind_leaf (a : Addr) (w : World) : Calls Tryd.prog 74 #[.pointer (some a)] w fun e w' => e = .returned (.int .i64 1) ∧ w = w' := by
  go_enter Tryd.func74, Tryd.ntmps74
  go_wp2
  go_ret
  exact ⟨rfl, rfl⟩
theorem kind_bucket (a : Addr) (w : World) : Calls Tryd.prog 76 #[.pointer (some a)] w fun e w' => e = .returned (.int .i64 2) ∧ w = w' := by
  go_enter Tryd.func76, Tryd.ntmps76
  go_wp2
  go_ret
  exact ⟨rfl, rfl⟩
theorem kind_branch (a : Addr) (w : World) : Calls Tryd.prog 71 #[.pointer (some a)] w fun e w' => e = .returned (.int .i64 3) ∧ w = w' := by
  go_enter Tryd.func71, Tryd.ntmps71
  go_wp2
  go_ret
  exact ⟨rfl, rfl⟩
theorem count_leaf (a : Addr) (w : World) : Calls Tryd.prog 73 #[.pointer (some a)] w fun e w' => e = .returned (.int .i64 1) ∧ w = w' := by
  go_enter Tryd.func73, Tryd.ntmps73
  go_wp2
  go_ret
  exact ⟨rfl, rfl⟩
theorem count_branch (b : Nat) (v : Int) (w : World) (h : w.cell? ⟨b, 2, none⟩ = some (.int .i64 v)) : Calls Tryd.prog 70 #[.pointer (some ⟨b, 0, none⟩)] w fun e w' => e = .returned (.int .i64 v) ∧ w = w' := by
  go_enter Tryd.func70, Tryd.ntmps70
  go_wp2
  go_ret
  exact ⟨rfl, rfl⟩
theorem count_bucket {ok : Nat → Prop} {tv : Value} {t : Bw.T} (b : Nat) (w : World) (h : w.cell? ⟨b, 1, none⟩ = some tv) (ht : TreeAt ok w tv t) : Calls Tryd.prog 75 #[.pointer (some ⟨b, 0, none⟩)] w fun e w' => e = .returned (.int .i64 (t.size : Nat)) ∧ w = w' := by
  obtain ⟨A, rfl⟩ := ht.form
  have C := Lib.hid (size_any ht)
  clear ht
  go_enter Tryd.func75, Tryd.ntmps75
  go_wp2_with fail
  refine C.out.mono ?_
  rintro e w' ⟨rfl, rfl⟩
  go_wp2
  go_ret
  exact ⟨rfl, rfl⟩

end Go.Proofs.YtkblhilaeecdlaaDoor
