
import Derived.Test.YtkblhilaeecdlaaDoorRef1
import Derived.Test.YtkblhilaeecdlaaDoorCome2
import Derived.Test.YtkblhilaeecdlaaDoorBwAll
namespace Go.Proofs.YtkblhilaeecdlaaDoor
open Go.RowKit Go.Bw

theorem infoS : (Tryd.prog.info? 76).map (fun i => (i.zero, i.size, i.bytes)) = some (some (.agg #[.string ⟨#[]⟩, .string ⟨#[]⟩]), 2, 32) := by kernel_rfl

def OfRel (l : List Bw.PV) (w : World) (v i : Value) (wr : World) : Prop :=
  ∃ k : Nat, k ≤ l.length ∧ i = .int .i64 k ∧ OwnAt 76 2 spK (fun k => w.heap.size ≤ k) wr w.heap.size v (l.take k) ∧ Below w.heap.size w wr

set_option maxRecDepth 100000 in
set_option maxHeartbeats 400000 in
theorem of_any {ok : Nat → Prop} {l : List Bw.PV} {v : Value} {w : World} (hl : l.length ≤ 1048576) (hr : PairsAt ok w v l) :
    Calls Tryd.prog 13 #[v] w (Gives w fun q w' => SPairsAt (fun k => w.heap.size ≤ k) w' q l) := by
  obtain ⟨A, c, rfl⟩ := hr.form
  have HL := Lib.hid hl
  have HR := Lib.hid hr
  have H0 : Hid (OfRel l w (.slice none 0 0) (.int .i64 0) w) := Lib.hid ⟨0, Nat.zero_le _, rfl, OwnAt.nil, Below.refl _ _⟩
  obtain ⟨i0, hi, hz0, hz1, hz2⟩ := info_parts infoS
  have HI := Lib.hid hi; have HZ0 := Lib.hid hz0; have HZ1 := Lib.hid hz1; have HZ2 := Lib.hid hz2
  clear hl hr hi hz0 hz1 hz2
  go_enter Tryd.func13, Tryd.ntmps13
  go_wp2_with fail
  go_loopw [3, 8] (OfRel l w) (fun _ i _ => l.length - (intOf i).toNat)
  case atStart => exact H0.out
  case round =>
    obtain ⟨k, hk, rfl, hown, hB⟩ := hrel
    by_cases hlt : k < l.length
    · obtain ⟨b, o, u1, u2, rfl, hob, c0, c1, hu, hv⟩ := pair_get HR.out (List.getElem?_eq_getElem hlt)
      obtain ⟨U1, cu1, rfl⟩ := hu.form
      obtain ⟨U2, cu2, rfl⟩ := hv.form
      have hbl := World.block_lt_of_cell? w _ c0
      dsimp only at hbl
      have d0 := (hB.cell (p := ⟨b, o + k * 2, none⟩) hbl).trans c0
      have d1 := (hB.cell (p := ⟨b, o + k * 2 + 1, none⟩) hbl).trans c1
      have hbl2 : b < wr.heap.size := Nat.lt_of_lt_of_le hbl hB.size
      have h0 : (0 : Int) ≤ (k : Int) := by omega
      have h1 : (k : Int) < (l.length : Int) := by omega
      have hB2 : Below w.heap.size w (wr.alloc (.cells #[.slice U1 l[k].1.length cu1, .slice U2 l[k].2.length cu2] 47)) := hB.trans (Below.mono (by (repeat (first | exact Below.refl _ _ | with_reducible assumption | refine Below.drew ?_ | (refine Below.alloc ?_ (by simp) _) | (refine Below.alloc ?_ (by simp; omega) _)))) hB.size)
      have q1 := run_conv (P := Tryd.prog) 45 9 5 Tryd.underlying45 Tryd.underlying5 Tryd.underlying9 (hu.move goodByte (Moves.below hB2))
      have q2 := run_conv (P := Tryd.prog) 45 9 5 Tryd.underlying45 Tryd.underlying5 Tryd.underlying9 (hv.move goodByte (Moves.below hB2))
      have HOWN := Lib.hid (hown.move goodSp (Moves.below (Below.alloc (Below.refl wr.heap.size wr) (Nat.le_refl _) (.cells #[.slice U1 l[k].1.length cu1, .slice U2 l[k].2.length cu2] 47))))
      have HBB := Lib.hid hB2
      clear hu hv hown c0 c1 hB2
      go_wp2_with (at_builtin; go_loud (refine wp_app1 goodSp rfl (.tmp 12) (.tmp 20) 28 rfl w.heap.size 76 i0 _ 32 Tryd.underlying28 HI.out HZ0.out HZ1.out HZ2.out rfl (by decide) _ (l.take k) rfl HOWN.out l[k] #[str l[k].1, str l[k].2] 76 (by go_simp) spK_mk (fun k hk => Nat.le_trans HBB.out.size hk) (by have := HL.out; simp; omega) (by decide) HBB.out.size ?_; intro v3 w3 hown3 hb3 hat3 hg3))
      exact ⟨⟨k + 1, hlt, int_succ hlt HL.out, by rw [take_succ_snoc hlt]; exact hown3, HBB.out.trans hb3⟩, less_succ hlt HL.out⟩
    · obtain rfl : k = l.length := by omega
      have HOWN := Lib.hid hown
      clear hown
      go_wp2
      go_ret
      have hO := HOWN.out
      rw [List.take_length] at hO
      exact ⟨_, rfl, hO.row goodSp, hB⟩
end Go.Proofs.YtkblhilaeecdlaaDoor
