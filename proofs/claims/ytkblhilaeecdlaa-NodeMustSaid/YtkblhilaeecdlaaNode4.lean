import Derived.Test.YtkblhilaeecdlaaNode3
import Derived.Test.YtkblhilaeecdlaaBits1
namespace Go.Proofs.Ytkblhilaeecdlaa
open Go.RowKit Go.Bw

theorem kind_leaf (a : Addr) (w : World) : Calls Try.prog 105 #[.pointer (some a)] w fun e w' => e = .returned (.int .i64 1) ∧ w = w' := by
  go_enter Try.func105, Try.ntmps105
  go_wp2
  go_ret
  exact ⟨rfl, rfl⟩
theorem kind_bucket (a : Addr) (w : World) : Calls Try.prog 107 #[.pointer (some a)] w fun e w' => e = .returned (.int .i64 2) ∧ w = w' := by
  go_enter Try.func107, Try.ntmps107
  go_wp2
  go_ret
  exact ⟨rfl, rfl⟩
theorem kind_branch (a : Addr) (w : World) : Calls Try.prog 109 #[.pointer (some a)] w fun e w' => e = .returned (.int .i64 3) ∧ w = w' := by
  go_enter Try.func109, Try.ntmps109
  go_wp2
  go_ret
  exact ⟨rfl, rfl⟩
theorem count_leaf (a : Addr) (w : World) : Calls Try.prog 104 #[.pointer (some a)] w fun e w' => e = .returned (.int .i64 1) ∧ w = w' := by
  go_enter Try.func104, Try.ntmps104
  go_wp2
  go_ret
  exact ⟨rfl, rfl⟩
theorem count_branch (b : Nat) (v : Int) (w : World) (h : w.cell? ⟨b, 2, none⟩ = some (.int .i64 v)) : Calls Try.prog 108 #[.pointer (some ⟨b, 0, none⟩)] w fun e w' => e = .returned (.int .i64 v) ∧ w = w' := by
  go_enter Try.func108, Try.ntmps108
  go_wp2
  go_ret
  exact ⟨rfl, rfl⟩
theorem count_bucket {ok : Nat → Prop} {tv : Value} {t : Bw.T} (b : Nat) (w : World) (h : w.cell? ⟨b, 1, none⟩ = some tv) (ht : TreeAt ok w tv t) : Calls Try.prog 106 #[.pointer (some ⟨b, 0, none⟩)] w fun e w' => e = .returned (.int .i64 (t.size : Nat)) ∧ w = w' := by
  obtain ⟨A, rfl⟩ := ht.form
  have C := Lib.hid (size_any ht)
  clear ht
  go_enter Try.func106, Try.ntmps106
  go_wp2_with fail
  refine C.out.mono ?_
  rintro e w' ⟨rfl, rfl⟩
  go_wp2
  go_ret
  exact ⟨rfl, rfl⟩

end Go.Proofs.Ytkblhilaeecdlaa
