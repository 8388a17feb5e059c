
import Derived.Test.YtehkjnmnbplcoaaDoorEach
import Derived.Deep.RegionLaw
import Derived.Deep.AppendLies
namespace Go.Proofs.YtehkjnmnbplcoaaDoor
open Go.RowKit Go.Bw

def rootOf : Bw.T → Bw.PV
  | .nil => ([], [])
  | .node _ p _ => p

/-- behind so many trees: the list so far, in a variable o of the call's own -/
def InvL (w0 : World) (o : Nat) (pre : List Bw.T) (w : World) : Prop :=
  ∃ vo, w.cell? ⟨o, 0, none⟩ = some vo ∧ w.frozen? ⟨o, 0, none⟩ = false ∧ OwnAt 31 2 pairK (fun k => w0.heap.size ≤ k ∧ k ≠ o) w w0.heap.size vo (pre.map rootOf) ∧ Below w0.heap.size w0 w ∧ o < w.heap.size

set_option maxRecDepth 100000 in
set_option maxHeartbeats 400000 in
theorem list1_any {ok : Nat → Prop} {w0 w : World} {o b : Nat} {pre : List Bw.T} {l r : Bw.T} {p : Bw.PV} (ho : w0.heap.size ≤ o) (hi : InvL w0 o pre w) (ht : TreeAt ok w (.pointer (some ⟨b, 0, none⟩)) (.node l p r)) (hp : p.1.length ≤ 1048576 ∧ p.2.length ≤ 1048576) (hn : pre.length < 1048576) :
    Calls Tryd.prog 85 #[.pointer (some ⟨b, 0, none⟩), .pointer (some ⟨o, 0, none⟩)] w fun e w' => e = .returned (.bool true) ∧ InvL w0 o (pre ++ [.node l p r]) w' := by
  simp only [TreeAt] at ht
  obtain ⟨b', u1, u2, lv, rv, hb', ⟨_, h0⟩, ⟨_, h1⟩, _, _, _, k1, k2, _⟩ := ht
  cases hb'
  obtain ⟨vo, c0, f0, hown, hB, hol⟩ := hi
  have hB1 : Below w.heap.size w (w.drew) := by (repeat (first | exact Below.refl _ _ | with_reducible assumption | refine Below.drew ?_ | (refine Below.alloc ?_ (by simp) _) | (refine Below.alloc ?_ (by simp; omega) _)))
  have CO := Lib.hid (fun W (hW : Below w.heap.size w W) => own_any u1 u2 p W (k1.move goodByte (Moves.below hW)) (k2.move goodByte (Moves.below hW)) hp.1 hp.2)
  have HB := Lib.hid hB
  obtain ⟨i0, hi, hz0, hz1, hz2⟩ := info_parts infoP
  have HI := Lib.hid hi; have HZ0 := Lib.hid hz0; have HZ1 := Lib.hid hz1; have HZ2 := Lib.hid hz2
  have HN := Lib.hid hn
  obtain ⟨AA, cc, rfl⟩ := (hown.row goodPair).form
  rw [List.length_map] at *
  have HOWN := Lib.hid hown
  clear hown hB k1 k2 hp hi hz0 hz1 hz2 hB1 hn
  go_enter Tryd.func85, Tryd.ntmps85
  go_wp2_with fail
  go_region_law
    ((first
      | (go_simp; go_at_call 86; (with_reducible refine (CO.out _ (by (repeat (first | exact Below.refl _ _ | with_reducible assumption | refine Below.drew ?_ | (refine Below.alloc ?_ (by simp) _) | (refine Below.alloc ?_ (by simp; omega) _))))).mono ?_); rintro e w1 ⟨q1, rfl, ⟨x1, y1, rfl, hx1, hy1⟩, hb1⟩; obtain ⟨X1, cx1, rfl⟩ := hx1.form; obtain ⟨Y1, cy1, rfl⟩ := hy1.form; have k0 : w1.cell? ⟨o, 0, none⟩ = some (.slice AA pre.length cc) := (hb1.cell (p := ⟨o, 0, none⟩) (by simp; omega)).trans (by simpa using c0); have kf : w1.frozen? ⟨o, 0, none⟩ = false := (hb1.frozen (p := ⟨o, 0, none⟩) (by simp; omega)).trans (by simpa using f0); have hw1 : Below w.heap.size w w1 := Below.trans (b := w.drew) (by (repeat (first | exact Below.refl _ _ | with_reducible assumption | refine Below.drew ?_ | (refine Below.alloc ?_ (by simp) _) | (refine Below.alloc ?_ (by simp; omega) _)))) (hb1.mono (by simp)); have hol1 : o < w1.heap.size := Nat.lt_of_lt_of_le hol hw1.size; have hne0 : ¬ (o = w1.heap.size) := Nat.ne_of_lt hol1; have hnw := World.new_ne w1 ⟨o, 0, none⟩ k0)
      | (refine st_app1 goodPair rfl (.tmp 4) (.tmp 10) 23 rfl w0.heap.size 31 i0 _ 48 Tryd.underlying23 HI.out HZ0.out HZ1.out HZ2.out rfl (by decide) _ (pre.map rootOf) rfl (HOWN.out.move goodPair (Moves.below hw1)) p #[.slice X1 p.1.length cx1, .slice Y1 p.2.length cy1] 31 rfl (pairK_mk (hx1.move goodByte (HOWN.out.aside (by simp) (fun k hk => by simp at hk; omega) (Below.refl _ _))) (hy1.move goodByte (HOWN.out.aside (by simp) (fun k hk => by simp at hk; omega) (Below.refl _ _)))) (fun k hk => ⟨Nat.le_trans (Nat.le_trans HB.out.size hw1.size) hk, fun e => by omega⟩) (by have := HN.out; simp; omega) (by decide) (Nat.le_trans HB.out.size hw1.size) ?_; intro v3 w3 hown3 hb3 hat3 hg3; obtain ⟨A3, c3, rfl⟩ := (hown3.row goodPair).form; have hne : some o ≠ (Value.slice AA pre.length cc).ownBlock := (fun e => (HOWN.out.1 o e.symm).2 rfl); have k0 : w3.cell? ⟨o, 0, none⟩ = some (.slice AA pre.length cc) := hg3.cell k0 hne; have kf : w3.frozen? ⟨o, 0, none⟩ = false := (hg3.frozen_far ⟨o, 0, none⟩ (Nat.lt_of_lt_of_le hol hw1.size) hne).trans kf)))
  all_goals go_wp2
  all_goals go_ret
  all_goals refine ⟨rfl, .slice A3 (pre.length + 1) c3, by go_simp, by go_simp, ?_, ?_, ?_⟩
  all_goals first
    | (rw [List.map_append]; refine OwnAt.move goodPair (Moves.set (p := ⟨o, 0, none⟩) _ (fun k hk => hk.2)) ?_; simpa [rootOf] using hown3)
    | exact ((HB.out.trans (hw1.mono HB.out.size)).trans hb3).setCell ho _
    | exact Nat.lt_of_lt_of_le hol1 (by simpa using hb3.size)
end Go.Proofs.YtehkjnmnbplcoaaDoor
