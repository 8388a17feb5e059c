
import Derived.Test.YtkblhilaeecdlaaSort
import Derived.Test.YtkblhilaeecdlaaOwn
namespace Go.Proofs.Ytkblhilaeecdlaa
open Go.RowKit Go.Bw

set_option maxRecDepth 100000 in
set_option maxHeartbeats 1000000 in
theorem stable_any {ok : Nat → Prop} {w : World} {base g n cap : Nat} {xs : List Bw.PV} (hown : OwnAt 54 2 pairK ok w base (.slice (some ⟨g, 0, none⟩) n cap) xs) (hn : xs.length < 20) (hnn : n = xs.length) :
    Calls Try.prog 61 #[.slice (some ⟨g, 0, none⟩) n cap, .int .i64 n, .func (.func 45) #[] #[]] w fun e w' =>
      e = .returned (.tuple #[]) ∧ OwnAt 54 2 pairK ok w' base (.slice (some ⟨g, 0, none⟩) n cap) (Bw.sortS xs) ∧ w.grownBy w' (some g) := by
  have HC := Lib.hid (ins_any hown (by omega))
  have hn2 : (n : Int) < 20 := by omega
  have hd1 : decide ((20 : Int) ≤ (n : Int)) = false := by rw [decide_eq_false_iff_not]; omega
  have hd2 : decide ((20 : Int) < (n : Int)) = false := by rw [decide_eq_false_iff_not]; omega
  clear hown hn hnn
  generalize Bw.sortS xs = ys at *
  go_enter Try.func61, Try.ntmps61
  go_wp2_with fail
  go_loop [7, 8] (fun a b => a = .int .i64 0 ∧ b = .int .i64 20) (fun _ _ => 0)
  case atStart => exact ⟨rfl, rfl⟩
  case round =>
    obtain ⟨rfl, rfl⟩ := hrel
    go_wp2_with fail
    refine HC.out.mono ?_
    rintro e w1 ⟨rfl, hown1, hg1⟩
    have HOWN := Lib.hid hown1; have HG := Lib.hid hg1
    clear hown1 hg1
    go_wp2_with fail
    go_loop [6, 7, 8, 9] (fun a _ _ _ => a = .int .i64 20) (fun _ _ _ _ => 0)
    case atStart => exact rfl
    case round =>
      obtain rfl := hrel
      go_wp2
      go_end0
      exact ⟨rfl, HOWN.out, HG.out⟩

set_option maxRecDepth 100000 in
set_option maxHeartbeats 1000000 in
theorem sstable_any {ok : Nat → Prop} {w : World} {base g n cap : Nat} {xs : List Bw.PV} (hown : OwnAt 54 2 pairK ok w base (.slice (some ⟨g, 0, none⟩) n cap) xs) (hn : xs.length < 20) (hnn : n = xs.length) :
    Calls Try.prog 44 #[.slice (some ⟨g, 0, none⟩) n cap, .func (.func 45) #[] #[]] w fun e w' =>
      e = .returned (.tuple #[]) ∧ OwnAt 54 2 pairK ok w' base (.slice (some ⟨g, 0, none⟩) n cap) (Bw.sortS xs) ∧ w.grownBy w' (some g) := by
  have HC := Lib.hid (stable_any hown hn hnn)
  clear hown hn hnn
  go_enter Try.func44, Try.ntmps44
  go_wp2_with fail
  refine HC.out.mono ?_
  rintro e w1 ⟨rfl, hown1, hg1⟩
  have HOWN := Lib.hid hown1; have HG := Lib.hid hg1
  clear hown1 hg1
  go_wp2
  go_end0
  exact ⟨rfl, HOWN.out, HG.out⟩

set_option maxRecDepth 100000 in
set_option maxHeartbeats 1000000 in
theorem beq_any {ok ok' : Nat → Prop} {u v : Value} {a b : Bw.Bytes} (w : World) (hu : BytesAt ok w u a) (hv : BytesAt ok' w v b) :
    Calls Try.prog 46 #[u, v] w fun e w' => e = .returned (.bool (decide (a = b))) ∧ w = w' := by
  have h1 := run_conv (P := Try.prog) 52 9 5 Try.underlying52 Try.underlying5 Try.underlying9 hu
  have h2 := run_conv (P := Try.prog) 52 9 5 Try.underlying52 Try.underlying5 Try.underlying9 hv
  clear hu hv
  go_enter Try.func46, Try.ntmps46
  go_wp2
  go_ret
  exact ⟨by simp; rw [Bool.eq_iff_iff]; simp, rfl⟩

end Go.Proofs.Ytkblhilaeecdlaa
