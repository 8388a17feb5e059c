
import Derived.Test.YtehkjnmnbplcoaaDoorTree3
namespace Go.Proofs.YtehkjnmnbplcoaaDoor
open Go.RowKit Go.Bw

theorem from_eq (l : List Bw.PV) (hl : l ≠ []) : Bw.T.from l = .node (Bw.T.from (l.take (l.length / 2))) (l[l.length / 2]'(by have := List.length_pos_iff.2 hl; omega)) (Bw.T.from (l.drop (l.length / 2 + 1))) := by
  match l, hl with
  | p :: q, _ => rw [Bw.T.from]

set_option maxRecDepth 100000 in
set_option maxHeartbeats 2000000 in
theorem from_any : ∀ (n : Nat) (l : List Bw.PV) (v : Value) (ok : Nat → Prop) (w : World), l.length ≤ n → n ≤ 1048576 → (∀ p ∈ l, p.1.length ≤ 1048576 ∧ p.2.length ≤ 1048576) → PairsAt ok w v l →
    Calls Tryd.prog 79 #[v] w (Gives w fun q w' => TreeAt (fun k => w.heap.size ≤ k) w' q (Bw.T.from l)) := by
  intro n
  induction n with
  | zero =>
    intro l v ok w h0 _ _ hr
    obtain rfl : l = [] := List.eq_nil_of_length_eq_zero (by omega)
    obtain ⟨A, c, rfl⟩ := hr.form
    clear hr h0
    go_enter Tryd.func79, Tryd.ntmps79
    go_wp2
    go_ret
    exact ⟨_, rfl, by rw [Bw.T.from]; rfl, Below.refl _ _⟩
  | succ n ih =>
    intro l v ok w h0 hn hp hr
    obtain ⟨A, c, rfl⟩ := hr.form
    by_cases hl : l = []
    · subst hl
      clear hr h0 ih hp hn
      go_enter Tryd.func79, Tryd.ntmps79
      go_wp2
      go_ret
      exact ⟨_, rfl, by rw [Bw.T.from]; rfl, Below.refl _ _⟩
    · have hpos : 0 < l.length := List.length_pos_iff.2 hl
      obtain ⟨k, hk⟩ : ∃ k, k = l.length / 2 := ⟨_, rfl⟩
      have hkl : k < l.length := by omega
      have hlk : l[k]? = some l[k] := List.getElem?_eq_getElem hkl
      obtain ⟨b, o, u1, u2, rfl, hob, c0, c1, hu, hv⟩ := pair_get hr hlk
      obtain ⟨_, hc1, hc2⟩ := hr.cap
      unfold maxLen at hc2
      have hbl := World.block_lt_of_cell? w _ c0
      dsimp only at hbl
      have hT := hr.take (k := k) (by omega)
      have hD := hr.drop (k := k + 1) (by omega)
      have hmem := hp l[k] (List.getElem_mem hkl)
      have P1 : ∀ p ∈ l.take k, p.1.length ≤ 1048576 ∧ p.2.length ≤ 1048576 := fun p h => hp p (List.mem_of_mem_take h)
      have P2 : ∀ p ∈ l.drop (k + 1), p.1.length ≤ 1048576 ∧ p.2.length ≤ 1048576 := fun p h => hp p (List.mem_of_mem_drop h)
      have C1 := Lib.hid (fun (W : World) (hW : Below w.heap.size w W) => ih (l.take k) _ ok W (by rw [List.length_take]; omega) (by omega) P1 (hT.move goodPair (Moves.below hW)))
      have C2 := Lib.hid (fun (W : World) (hW : Below w.heap.size w W) => own_any u1 u2 l[k] W (hu.move goodByte (Moves.below hW)) (hv.move goodByte (Moves.below hW)) hmem.1 hmem.2)
      have hF : Bw.T.from l = .node (Bw.T.from (l.take k)) l[k] (Bw.T.from (l.drop (k + 1))) := by
        subst hk
        exact from_eq l hl
      have HF := Lib.hid hF
      have HK := Lib.hid hk
      have hkI : (l.length : Int) / 2 = (k : Int) := by omega
      have hk0 : (0 : Int) ≤ (k : Int) := by omega
      have hk1 : (k : Int) < (l.length : Int) := by omega
      have hz : ((l.length : Int) == 0) = false := beq_eq_false_iff_ne.2 (by omega)
      have hs : IntKind.i64.wrap ((k : Int) + 1) = (k : Int) + 1 := IntWalk.i64_in _ (by omega)
      have hk2 : (k : Int) ≤ (c : Int) := by omega
      have hk3 : (k : Int) + 1 ≤ (l.length : Int) := by omega
      have hk4 : (l.length : Int) ≤ (c : Int) := by omega
      have hk5 : (0 : Int) ≤ (k : Int) + 1 := by omega
      have hk6 : ((k : Int) + 1).toNat = k + 1 := by omega
      have hk7 : (k : Int) + 1 ≤ (c : Int) := by omega
      have kn2 : k ≤ c := by omega
      have kn3 : k + 1 ≤ l.length := by omega
      have kn7 : k + 1 ≤ c := by omega
      have HR := Lib.hid hr
      have HS := Lib.hid (show (Bw.T.from (l.take k)).size + (Bw.T.from (l.drop (k + 1))).size ≤ 1048576 by rw [Bw.T.size_from, Bw.T.size_from, List.length_take, List.length_drop]; omega)
      by_cases hc : c = k + 1
      · have hlen : l.length = k + 1 := by omega
        have e0 : l.length - (k + 1) = 0 := by omega
        have hdr : l.drop (k + 1) = [] := List.drop_eq_nil_of_le (by omega)
        have C3 := Lib.hid (fun (W : World) (hW : Below w.heap.size w W) => ih (l.drop (k + 1)) (.slice (some ⟨b, o, none⟩) (l.length - (k + 1)) 0) ok W (by rw [List.length_drop]; omega) (by omega) P2 (by rw [hdr, e0]; exact RowAt.empty (Nat.zero_le _)))
        have hcc : (k + 1 = c) = True := by simp [hc]
        have hc0 : c - (k + 1) = 0 := by omega
        have hc9 : (c = k + 1) = True := by simp [hc]
        clear hc
        clear hr hT hD hu hv hmem P1 P2 hF hk ih hp hlk hc2 hpos hdr hlen e0
        go_enter Tryd.func79, Tryd.ntmps79
        go_wp2_with fail
        go_region_held3 (fun w' => w'.cell? ⟨b, o + k * 2, none⟩ = some u1 ∧ w'.cell? ⟨b, o + k * 2 + 1, none⟩ = some u2)
          (first
            | with_reducible exact ⟨(hB4.cell (p := ⟨b, o + k * 2, none⟩) hbl).trans c0, (hB4.cell (p := ⟨b, o + k * 2 + 1, none⟩) hbl).trans c1⟩
            | with_reducible exact ⟨(hB3.cell (p := ⟨b, o + k * 2, none⟩) hbl).trans c0, (hB3.cell (p := ⟨b, o + k * 2 + 1, none⟩) hbl).trans c1⟩
            | with_reducible exact ⟨(hB2.cell (p := ⟨b, o + k * 2, none⟩) hbl).trans c0, (hB2.cell (p := ⟨b, o + k * 2 + 1, none⟩) hbl).trans c1⟩
            | with_reducible exact ⟨(hB1.cell (p := ⟨b, o + k * 2, none⟩) hbl).trans c0, (hB1.cell (p := ⟨b, o + k * 2 + 1, none⟩) hbl).trans c1⟩
            | with_reducible exact ⟨c0, c1⟩
            | go_keep)
          ((first
            | (go_at_call 79; first | ((with_reducible refine (C1.out _ (by (repeat (first | exact Below.refl _ _ | with_reducible assumption | refine Below.drew ?_ | (refine Below.alloc ?_ (by simp) _) | (refine Below.alloc ?_ (by simp; omega) _))))).mono ?_); rintro e w1 ⟨q1, rfl, hq1, hb1⟩; obtain ⟨A1, rfl⟩ := hq1.form; have hq1 : TreeAt (fun k => w.heap.size ≤ k) w1 (.pointer A1) (Bw.T.from (l.take k)) := hq1; have hB1 : Below w.heap.size w w1 := Below.trans (b := w.drew) (by (repeat (first | exact Below.refl _ _ | with_reducible assumption | refine Below.drew ?_ | (refine Below.alloc ?_ (by simp) _) | (refine Below.alloc ?_ (by simp; omega) _)))) (hb1.mono (by simp))) | ((with_reducible refine (C3.out _ (hB2)).mono ?_); rintro e w3 ⟨q3, rfl, hq3, hb3⟩; obtain ⟨A3, rfl⟩ := hq3.form; have hB3 : Below w.heap.size w w3 := hB2.trans (hb3.mono hB2.size)))
            | (go_at_call 86; (with_reducible refine (C2.out _ (hB1)).mono ?_); rintro e w2 ⟨q2, rfl, ⟨x2, y2, rfl, hx2, hy2⟩, hb2⟩; obtain ⟨X2, cx2, rfl⟩ := hx2.form; obtain ⟨Y2, cy2, rfl⟩ := hy2.form; have hB2 : Below w.heap.size w w2 := hB1.trans (hb2.mono hB1.size))
            | (go_at_call 108; (with_reducible refine (node_any (ok := fun k => w.heap.size ≤ k) (hq1.move (Moves.fresh (m := w.heap.size) (Nat.le_refl _) (hb2.trans (hb3.mono hb2.size)))) (hq3.move (Moves.fresh hB2.size (Below.refl _ _))) (hx2.move goodByte (Moves.fresh hB1.size hb3)) (hy2.move goodByte (Moves.fresh hB1.size hb3)) (fun k hk => Nat.le_trans hB3.size hk) (HS.out)).mono ?_); rintro e w4 ⟨q4, rfl, hq4, hb4⟩; obtain ⟨A4, rfl⟩ := hq4.form; have hB4 : Below w.heap.size w w4 := hB3.trans (hb4.mono hB3.size))))
        go_wp2
        go_ret
        exact ⟨_, rfl, by rw [HF.out]; exact hq4, hB4⟩
      · have C3 := Lib.hid (fun (W : World) (hW : Below w.heap.size w W) => ih (l.drop (k + 1)) _ ok W (by rw [List.length_drop]; omega) (by omega) P2 (hD.move goodPair (Moves.below hW)))
        clear hr hT hD hu hv hmem P1 P2 hF hk ih hp hlk hc2 hpos
        go_enter Tryd.func79, Tryd.ntmps79
        go_wp2_with fail
        go_region_held3 (fun w' => w'.cell? ⟨b, o + k * 2, none⟩ = some u1 ∧ w'.cell? ⟨b, o + k * 2 + 1, none⟩ = some u2)
          (first
            | with_reducible exact ⟨(hB4.cell (p := ⟨b, o + k * 2, none⟩) hbl).trans c0, (hB4.cell (p := ⟨b, o + k * 2 + 1, none⟩) hbl).trans c1⟩
            | with_reducible exact ⟨(hB3.cell (p := ⟨b, o + k * 2, none⟩) hbl).trans c0, (hB3.cell (p := ⟨b, o + k * 2 + 1, none⟩) hbl).trans c1⟩
            | with_reducible exact ⟨(hB2.cell (p := ⟨b, o + k * 2, none⟩) hbl).trans c0, (hB2.cell (p := ⟨b, o + k * 2 + 1, none⟩) hbl).trans c1⟩
            | with_reducible exact ⟨(hB1.cell (p := ⟨b, o + k * 2, none⟩) hbl).trans c0, (hB1.cell (p := ⟨b, o + k * 2 + 1, none⟩) hbl).trans c1⟩
            | with_reducible exact ⟨c0, c1⟩
            | go_keep)
          ((first
            | (go_at_call 79; first | ((with_reducible refine (C1.out _ (by (repeat (first | exact Below.refl _ _ | with_reducible assumption | refine Below.drew ?_ | (refine Below.alloc ?_ (by simp) _) | (refine Below.alloc ?_ (by simp; omega) _))))).mono ?_); rintro e w1 ⟨q1, rfl, hq1, hb1⟩; obtain ⟨A1, rfl⟩ := hq1.form; have hq1 : TreeAt (fun k => w.heap.size ≤ k) w1 (.pointer A1) (Bw.T.from (l.take k)) := hq1; have hB1 : Below w.heap.size w w1 := Below.trans (b := w.drew) (by (repeat (first | exact Below.refl _ _ | with_reducible assumption | refine Below.drew ?_ | (refine Below.alloc ?_ (by simp) _) | (refine Below.alloc ?_ (by simp; omega) _)))) (hb1.mono (by simp))) | ((with_reducible refine (C3.out _ (hB2)).mono ?_); rintro e w3 ⟨q3, rfl, hq3, hb3⟩; obtain ⟨A3, rfl⟩ := hq3.form; have hB3 : Below w.heap.size w w3 := hB2.trans (hb3.mono hB2.size)))
            | (go_at_call 86; (with_reducible refine (C2.out _ (hB1)).mono ?_); rintro e w2 ⟨q2, rfl, ⟨x2, y2, rfl, hx2, hy2⟩, hb2⟩; obtain ⟨X2, cx2, rfl⟩ := hx2.form; obtain ⟨Y2, cy2, rfl⟩ := hy2.form; have hB2 : Below w.heap.size w w2 := hB1.trans (hb2.mono hB1.size))
            | (go_at_call 108; (with_reducible refine (node_any (ok := fun k => w.heap.size ≤ k) (hq1.move (Moves.fresh (m := w.heap.size) (Nat.le_refl _) (hb2.trans (hb3.mono hb2.size)))) (hq3.move (Moves.fresh hB2.size (Below.refl _ _))) (hx2.move goodByte (Moves.fresh hB1.size hb3)) (hy2.move goodByte (Moves.fresh hB1.size hb3)) (fun k hk => Nat.le_trans hB3.size hk) (HS.out)).mono ?_); rintro e w4 ⟨q4, rfl, hq4, hb4⟩; obtain ⟨A4, rfl⟩ := hq4.form; have hB4 : Below w.heap.size w w4 := hB3.trans (hb4.mono hB3.size))))
        go_wp2
        go_ret
        exact ⟨_, rfl, by rw [HF.out]; exact hq4, hB4⟩
end Go.Proofs.YtehkjnmnbplcoaaDoor
