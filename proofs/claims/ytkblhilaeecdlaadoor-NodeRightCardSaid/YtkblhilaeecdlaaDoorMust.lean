
import Derived.Test.YtkblhilaeecdlaaDoorNode6
import Derived.WalkLawsBesides
namespace Go.Proofs.YtkblhilaeecdlaaDoor
open Go.RowKit Go.Bw

theorem kindm_leaf (a : Addr) (w : World) : (method 223 71 (.pointer (some a)) "Kind").run Tryd.prog w = .ok (74, .pointer (some a)) w := by kernel_rfl
theorem kindm_bucket (a : Addr) (w : World) : (method 223 79 (.pointer (some a)) "Kind").run Tryd.prog w = .ok (76, .pointer (some a)) w := by kernel_rfl
theorem kindm_branch (a : Addr) (w : World) : (method 223 64 (.pointer (some a)) "Kind").run Tryd.prog w = .ok (71, .pointer (some a)) w := by kernel_rfl

/-- the kind of a node -/
def kindO : Option Bw.N → Int
  | none => 0
  | some (.leaf ..) => 1
  | some (.bucket ..) => 2
  | some (.branch ..) => 3

set_option maxRecDepth 100000 in
set_option maxHeartbeats 400000 in
theorem must_none (kind : Int) (w : World) :
    Calls Tryd.prog 25 #[.nilIface, .int .i64 kind] w fun e w' => e = .panicked [{ v := .iface 49 (.int .i64 12), recovered := false }] ∧ w' = w := by
  have he := fun (W : World) => (show (binOp .eql 26 .nilIface .nilIface).run Tryd.prog W = .ok (.bool true) W by rfl)
  go_enter Tryd.func25, Tryd.ntmps25
  go_wp2
  exact ⟨rfl, rfl, rfl⟩

set_option maxRecDepth 100000 in
set_option maxHeartbeats 400000 in
theorem must_leaf (kind : Int) (b : Nat) (w : World) (hk : kind = 1) :
    Calls Tryd.prog 25 #[.iface 71 (.pointer (some ⟨b, 0, none⟩)), .int .i64 kind] w fun e w' => e = .returned (.iface 71 (.pointer (some ⟨b, 0, none⟩))) ∧ w' = w := by
  subst hk
  have hm := kindm_leaf
  go_enter Tryd.func25, Tryd.ntmps25
  go_wp2_with (go_at_call 74; refine (kind_leaf _ _).mono ?_; rintro e w' ⟨rfl, rfl⟩)
  go_ret
  exact ⟨rfl, rfl⟩

set_option maxRecDepth 100000 in
set_option maxHeartbeats 400000 in
theorem mustnt_leaf (kind : Int) (b : Nat) (w : World) (hk : kind ≠ 1) :
    Calls Tryd.prog 25 #[.iface 71 (.pointer (some ⟨b, 0, none⟩)), .int .i64 kind] w fun e w' => e = .panicked [{ v := .iface 49 (.int .i64 12), recovered := false }] ∧ w' = w := by
  have hk1 : ((1 : Int) == kind) = false := beq_eq_false_iff_ne.2 (fun e => hk e.symm)
  have hm := kindm_leaf
  clear hk
  go_enter Tryd.func25, Tryd.ntmps25
  go_wp2_with (go_at_call 74; refine (kind_leaf _ _).mono ?_; rintro e w' ⟨rfl, rfl⟩)
  exact ⟨rfl, rfl, rfl⟩

set_option maxRecDepth 100000 in
set_option maxHeartbeats 400000 in
theorem must_bucket (kind : Int) (b : Nat) (w : World) (hk : kind = 2) :
    Calls Tryd.prog 25 #[.iface 79 (.pointer (some ⟨b, 0, none⟩)), .int .i64 kind] w fun e w' => e = .returned (.iface 79 (.pointer (some ⟨b, 0, none⟩))) ∧ w' = w := by
  subst hk
  have hm := kindm_bucket
  go_enter Tryd.func25, Tryd.ntmps25
  go_wp2_with (go_at_call 76; refine (kind_bucket _ _).mono ?_; rintro e w' ⟨rfl, rfl⟩)
  go_ret
  exact ⟨rfl, rfl⟩

set_option maxRecDepth 100000 in
set_option maxHeartbeats 400000 in
theorem mustnt_bucket (kind : Int) (b : Nat) (w : World) (hk : kind ≠ 2) :
    Calls Tryd.prog 25 #[.iface 79 (.pointer (some ⟨b, 0, none⟩)), .int .i64 kind] w fun e w' => e = .panicked [{ v := .iface 49 (.int .i64 12), recovered := false }] ∧ w' = w := by
  have hk1 : ((2 : Int) == kind) = false := beq_eq_false_iff_ne.2 (fun e => hk e.symm)
  have hm := kindm_bucket
  clear hk
  go_enter Tryd.func25, Tryd.ntmps25
  go_wp2_with (go_at_call 76; refine (kind_bucket _ _).mono ?_; rintro e w' ⟨rfl, rfl⟩)
  exact ⟨rfl, rfl, rfl⟩

set_option maxRecDepth 100000 in
set_option maxHeartbeats 400000 in
theorem must_branch (kind : Int) (b : Nat) (w : World) (hk : kind = 3) :
    Calls Tryd.prog 25 #[.iface 64 (.pointer (some ⟨b, 0, none⟩)), .int .i64 kind] w fun e w' => e = .returned (.iface 64 (.pointer (some ⟨b, 0, none⟩))) ∧ w' = w := by
  subst hk
  have hm := kindm_branch
  go_enter Tryd.func25, Tryd.ntmps25
  go_wp2_with (go_at_call 71; refine (kind_branch _ _).mono ?_; rintro e w' ⟨rfl, rfl⟩)
  go_ret
  exact ⟨rfl, rfl⟩

set_option maxRecDepth 100000 in
set_option maxHeartbeats 400000 in
theorem mustnt_branch (kind : Int) (b : Nat) (w : World) (hk : kind ≠ 3) :
    Calls Tryd.prog 25 #[.iface 64 (.pointer (some ⟨b, 0, none⟩)), .int .i64 kind] w fun e w' => e = .panicked [{ v := .iface 49 (.int .i64 12), recovered := false }] ∧ w' = w := by
  have hk1 : ((3 : Int) == kind) = false := beq_eq_false_iff_ne.2 (fun e => hk e.symm)
  have hm := kindm_branch
  clear hk
  go_enter Tryd.func25, Tryd.ntmps25
  go_wp2_with (go_at_call 71; refine (kind_branch _ _).mono ?_; rintro e w' ⟨rfl, rfl⟩)
  exact ⟨rfl, rfl, rfl⟩

/-- Must: the node itself, or a panic. -/
theorem must_any {ok : Nat → Prop} {v : Value} {n : Option Bw.N} {w : World} (kind : Int) (h : ONodeAt nt ok w v n) :
    Calls Tryd.prog 25 #[v, .int .i64 kind] w fun e w' => e = (if n.isSome = true ∧ kind = kindO n then .returned v else .panicked [{ v := .iface 49 (.int .i64 12), recovered := false }]) ∧ w' = w := by
  cases n with
  | none =>
    simp only [ONodeAt] at h
    subst h
    rw [if_neg (by simp)]
    exact must_none kind w
  | some n =>
    cases n with
    | leaf hh p =>
      simp only [ONodeAt, NodeAt] at h
      obtain ⟨b, _, _, rfl, _⟩ := h
      by_cases hk : kind = 1
      · rw [if_pos ⟨rfl, hk⟩]; exact must_leaf kind b w hk
      · rw [if_neg (fun e => hk e.2)]; exact mustnt_leaf kind b w hk
    | bucket hh t =>
      simp only [ONodeAt, NodeAt] at h
      obtain ⟨b, _, rfl, _⟩ := h
      by_cases hk : kind = 2
      · rw [if_pos ⟨rfl, hk⟩]; exact must_bucket kind b w hk
      · rw [if_neg (fun e => hk e.2)]; exact mustnt_bucket kind b w hk
    | branch m kids =>
      simp only [ONodeAt, NodeAt] at h
      obtain ⟨b, _, _, _, rfl, _⟩ := h
      by_cases hk : kind = 3
      · rw [if_pos ⟨rfl, hk⟩]; exact must_branch kind b w hk
      · rw [if_neg (fun e => hk e.2)]; exact mustnt_branch kind b w hk

end Go.Proofs.YtkblhilaeecdlaaDoor
