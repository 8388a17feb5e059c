
import Derived.Test.YtehkjnmnbplcoaaDoorProg
import Derived.WalkKit
import Derived.WalkSpells
import Derived.WalkLawsBesides
import Derived.Lib.Hide
import Derived.Test.YtehkjnmnbplcoaaDoorBwAll
namespace Go.Proofs.YtehkjnmnbplcoaaDoor
open Go.RowKit Go.Bw

theorem infoB : (Tryd.prog.info? 5).map (fun i => (i.zero, i.size, i.bytes)) = some (some (.int .u8 0), 1, 1) := by kernel_rfl

set_option maxRecDepth 100000 in
set_option maxHeartbeats 400000 in
theorem cloneB {ok : Nat → Prop} {v : Value} {l : Bw.Bytes} (w : World) (hv : BytesAt ok w v l) (hl : l.length ≤ 1048576) :
    Calls Tryd.prog 94 #[v] w (Gives w fun v' w' => BytesAt (fun k => w.heap.size ≤ k) w' v' l) := by
  obtain ⟨A, c, rfl, hc1, hc2, hc3, hc4, hc5⟩ := hv
  cases A with
  | none =>
    obtain rfl : c = 0 := hc3 rfl
    obtain rfl : l = [] := List.eq_nil_of_length_eq_zero (by omega)
    clear hc1 hc2 hc3 hc4 hc5 hl
    have he := fun (w : World) => Lib.run_eql_slice_nil (P := Tryd.prog) w 29 5 none 0 0 0 0 Tryd.underlying29
    go_enter Tryd.func94, Tryd.ntmps94
    go_wp2
    go_ret
    exact ⟨_, rfl, RowAt.nil, Below.refl _ _⟩
  | some ad =>
    obtain ⟨b, o, sp⟩ := ad
    have he := fun (w : World) => Lib.run_eql_slice_nil (P := Tryd.prog) w 29 5 (some ⟨b, o, sp⟩) l.length c 0 0 Tryd.underlying29
    have HV : Hid (BytesAt ok w (.slice (some ⟨b, o, sp⟩) l.length c) l) := Lib.hid ⟨_, c, rfl, hc1, hc2, hc3, hc4, hc5⟩
    have HL := Lib.hid hl; clear hl
    clear hc1 hc2 hc3 hc4 hc5
    obtain ⟨i0, hi, hz0, hz1, hz2⟩ := info_parts infoB
    have HI := Lib.hid hi; have HZ0 := Lib.hid hz0; have HZ1 := Lib.hid hz1; have HZ2 := Lib.hid hz2
    clear hi hz0 hz1 hz2
    have HN := Lib.hid (RowAt.news (HV.out.move goodByte (Moves.below ((Below.refl w.heap.size w).alloc (Nat.le_refl _) (.cells #[] 5)))))
    go_enter Tryd.func94, Tryd.ntmps94
    go_wp2_with (at_builtin; refine wp_app goodByte rfl (.tmp 5) (.tmp 6) 29 rfl w.heap.size 5 i0 (.int .u8 0) 1 Tryd.underlying29 HI.out HZ0.out HZ1.out HZ2.out rfl (by decide) _ [] rfl (OwnAt.made (ok := fun k => w.heap.size ≤ k) (Nat.le_refl _) (Nat.le_refl _)) ⟨b, o, sp⟩ l.length c l (l.map encB) rfl rfl HN.out (Reps.imm _ _ _ _) (fun k hk => by simp at hk; omega) (by have := HL.out; simp; omega) (by decide) (by simp) ?_; intro v' w' hown' hg hat)
    go_ret
    exact ⟨_, rfl, hown'.row goodByte, ((Below.refl w.heap.size w).alloc (Nat.le_refl _) (.cells #[] 5)).grown hg (by simp) (fun k hk => by cases hk; exact Nat.le_refl _)⟩
theorem cloneB_at {ok : Nat → Prop} {v : Value} {l : Bw.Bytes} {w : World} (base : Nat) (hv : BytesAt ok w v l) (hl : l.length ≤ 1048576) :
    ∀ W, Below w.heap.size w W → base ≤ W.heap.size → Calls Tryd.prog 94 #[v] W (Gives W fun v' w' => BytesAt (fun k => base ≤ k) w' v' l) :=
  fun W hW hb => (cloneB W (hv.move goodByte (Moves.below hW)) hl).mono (fun _ _ ⟨r, he, hr, hb'⟩ => ⟨r, he, hr.move goodByte (Moves.weaken fun _ hk _ => Nat.le_trans hb hk), hb'⟩)
end Go.Proofs.YtehkjnmnbplcoaaDoor
