
import Derived.Test.YtehkjnmnbplcoaaDoorNode3
import Derived.Test.YtehkjnmnbplcoaaDoorBits1
namespace Go.Proofs.YtehkjnmnbplcoaaDoor
open Go.RowKit Go.Bw

theorem kind_leaf (a : Addr) (w : World) : Calls Tryd.prog 161 #[.pointer (some a)] w fun e w' => e = .returned (.int .i64 1) ∧ w = w' := by
  go_enter Tryd.func161, Tryd.ntmps161
  go_wp2
  go_ret
  exact ⟨rfl, rfl⟩
theorem kind_bucket (a : Addr) (w : World) : Calls Tryd.prog 163 #[.pointer (some a)] w fun e w' => e = .returned (.int .i64 2) ∧ w = w' := by
  go_enter Tryd.func163, Tryd.ntmps163
  go_wp2
  go_ret
  exact ⟨rfl, rfl⟩
theorem kind_branch (a : Addr) (w : World) : Calls Tryd.prog 159 #[.pointer (some a)] w fun e w' => e = .returned (.int .i64 3) ∧ w = w' := by
  go_enter Tryd.func159, Tryd.ntmps159
  go_wp2
  go_ret
  exact ⟨rfl, rfl⟩
theorem count_leaf (a : Addr) (w : World) : Calls Tryd.prog 160 #[.pointer (some a)] w fun e w' => e = .returned (.int .i64 1) ∧ w = w' := by
  go_enter Tryd.func160, Tryd.ntmps160
  go_wp2
  go_ret
  exact ⟨rfl, rfl⟩
theorem count_branch (b : Nat) (v : Int) (w : World) (h : w.cell? ⟨b, 2, none⟩ = some (.int .i64 v)) : Calls Tryd.prog 158 #[.pointer (some ⟨b, 0, none⟩)] w fun e w' => e = .returned (.int .i64 v) ∧ w = w' := by
  go_enter Tryd.func158, Tryd.ntmps158
  go_wp2
  go_ret
  exact ⟨rfl, rfl⟩
theorem count_bucket {ok : Nat → Prop} {tv : Value} {t : Bw.T} (b : Nat) (w : World) (h : w.cell? ⟨b, 1, none⟩ = some tv) (ht : TreeAt ok w tv t) : Calls Tryd.prog 162 #[.pointer (some ⟨b, 0, none⟩)] w fun e w' => e = .returned (.int .i64 (t.size : Nat)) ∧ w = w' := by
  obtain ⟨A, rfl⟩ := ht.form
  have C := Lib.hid (size_any ht)
  clear ht
  go_enter Tryd.func162, Tryd.ntmps162
  go_wp2_with fail
  refine C.out.mono ?_
  rintro e w' ⟨rfl, rfl⟩
  go_wp2
  go_ret
  exact ⟨rfl, rfl⟩

end Go.Proofs.YtehkjnmnbplcoaaDoor
