/- law17.Shaped: where a node has just the document's shape. -/
import Derived.Test.YtehkjnmnbplcoaaDoorShapeR
import Derived.Test.YtehkjnmnbplcoaaDoorLSame
import Derived.BigQuiet
import Derived.Deep.QuietTactic
namespace Go.Proofs.YtehkjnmnbplcoaaDoor
open Go.RowKit Go.Bw

def ShapedRel (n : Nat) (w : World) (i : Value) (wr : World) : Prop := ∃ j : Nat, j ≤ n ∧ i = .int .i64 (j : Nat) ∧ Below w.heap.size w wr

set_option maxRecDepth 100000 in
set_option maxHeartbeats 1000000 in
theorem shaped_any {ok ok' : Nat → Prop} {nv q : Value} {o : Option Bw.N} {w : World} (hn : ONodeAt nt ok w nv o) (hS : ∀ n, o = some n → Slim n) (hT : Tab w) (hq : SpotsAt ok' w q (Bw.spotsOf (Bw.visitsO 0 o))) :
    Calls Tryd.prog 32 #[nv, q] w fun e w' => e = .returned (.bool true) ∧ Below w.heap.size w w' := by
  have CS := Lib.hid (shape_any hn hS hT)
  have hl := (slim_len hS).1
  generalize Bw.spotsOf (Bw.visitsO 0 o) = s at *
  obtain ⟨Q, cq, rfl⟩ := hq.form
  have HQ := Lib.hid hq
  have HL := Lib.hid hl
  rcases onodeL_form hn with rfl | ⟨ta, ba, rfl⟩ <;> clear hn hS hT hq hl
  all_goals go_enter Tryd.func32, Tryd.ntmps32
  all_goals go_wp2_with fail
  all_goals refine CS.out.mono ?_
  all_goals rintro e w1 ⟨q1, rfl, hq1, hb1⟩
  all_goals obtain ⟨Q1, c1, rfl⟩ := hq1.form
  all_goals have HQ1 := Lib.hid hq1
  all_goals have HB1 := Lib.hid hb1
  all_goals have H0 : Hid (ShapedRel s.length w1 (.int .i64 0) w1) := Lib.hid ⟨0, Nat.zero_le _, rfl, Below.refl _ _⟩
  all_goals clear hq1 hb1
  all_goals go_wp2_with fail
  all_goals go_loopw [17] (ShapedRel s.length w1) (fun i _ => s.length - (intOf i).toNat)
  case atStart => exact H0.out
  case atStart => exact H0.out
  all_goals obtain ⟨j, hj, rfl, hB⟩ := hrel
  all_goals by_cases hlt : j < s.length
  case pos | pos =>
    obtain ⟨b, o, rfl, c0, c1, c2, c3, c4⟩ := spot_get HQ1.out (List.getElem?_eq_getElem hlt)
    obtain ⟨b', o', rfl, y0, y1, y2, y3, y4⟩ := spot_get HQ.out (List.getElem?_eq_getElem hlt)
    generalize s[j] = x at *
    obtain ⟨xl, xk, xh, xm, xc⟩ := x
    dsimp only at *
    have hbl := World.block_lt_of_cell? _ _ c0
    have hbl' := World.block_lt_of_cell? _ _ y0
    dsimp only at hbl hbl'
    have hwr := HB1.out.trans (hB.mono HB1.out.size)
    have d0 := (hB.cell (p := ⟨b, o + j * 5, none⟩) hbl).trans c0
    have d1 := (hB.cell (p := ⟨b, o + j * 5 + 1, none⟩) hbl).trans c1
    have d2 := (hB.cell (p := ⟨b, o + j * 5 + 2, none⟩) hbl).trans c2
    have d3 := (hB.cell (p := ⟨b, o + j * 5 + 3, none⟩) hbl).trans c3
    have d4 := (hB.cell (p := ⟨b, o + j * 5 + 4, none⟩) hbl).trans c4
    have hb2 : b < wr.heap.size := Nat.lt_of_lt_of_le hbl hB.size
    have h0 : (0 : Int) ≤ (j : Int) := by omega
    have h1 : (j : Int) < (s.length : Int) := by omega
    obtain ⟨W2, hW2⟩ : ∃ W2, wr.alloc (.cells #[.int .i64 (xl : Nat), .int .i64 (xk : Nat), .int .u64 (xh : Nat), .int .u32 (xm : Nat), .int .i64 (xc : Nat)] 70) = W2 := ⟨_, rfl⟩
    have hb2' : Below wr.heap.size wr W2 := by rw [← hW2]; exact (Below.refl _ _).alloc (Nat.le_refl _) _
    have n0 : W2.cell? ⟨wr.heap.size, 0, none⟩ = some (.int .i64 (xl : Nat)) := by rw [← hW2]; exact cell_new wr 0 _ _ 0 _ rfl
    have n1 : W2.cell? ⟨wr.heap.size, 1, none⟩ = some (.int .i64 (xk : Nat)) := by rw [← hW2]; exact cell_new wr 0 _ _ 1 _ rfl
    have n2 : W2.cell? ⟨wr.heap.size, 2, none⟩ = some (.int .u64 (xh : Nat)) := by rw [← hW2]; exact cell_new wr 0 _ _ 2 _ rfl
    have n3 : W2.cell? ⟨wr.heap.size, 3, none⟩ = some (.int .u32 (xm : Nat)) := by rw [← hW2]; exact cell_new wr 0 _ _ 3 _ rfl
    have n4 : W2.cell? ⟨wr.heap.size, 4, none⟩ = some (.int .i64 (xc : Nat)) := by rw [← hW2]; exact cell_new wr 0 _ _ 4 _ rfl
    have hw2 := hwr.trans (hb2'.mono hwr.size)
    have z0 := (hw2.cell (p := ⟨b', o' + j * 5, none⟩) hbl').trans y0
    have z1 := (hw2.cell (p := ⟨b', o' + j * 5 + 1, none⟩) hbl').trans y1
    have z2 := (hw2.cell (p := ⟨b', o' + j * 5 + 2, none⟩) hbl').trans y2
    have z3 := (hw2.cell (p := ⟨b', o' + j * 5 + 3, none⟩) hbl').trans y3
    have z4 := (hw2.cell (p := ⟨b', o' + j * 5 + 4, none⟩) hbl').trans y4
    have HF := Lib.hid (hB.trans (hb2'.mono hB.size))
    have HW2 := Lib.hid hW2
    clear c0 c1 c2 c3 c4 y0 y1 y2 y3 y4 hbl hbl' hwr hw2 hB hb2' hW2
    go_wp2_with (rw [HW2.out])
    go_big_quiet (fail)
    go_wp2
    exact ⟨⟨j + 1, hlt, int_succ hlt HL.out, b_drewN HF.out _⟩, less_succ hlt HL.out⟩
  case neg | neg =>
    obtain rfl : j = s.length := by omega
    go_wp2
    go_ret
    exact ⟨rfl, HB1.out.trans (hB.mono HB1.out.size)⟩
end Go.Proofs.YtehkjnmnbplcoaaDoor
