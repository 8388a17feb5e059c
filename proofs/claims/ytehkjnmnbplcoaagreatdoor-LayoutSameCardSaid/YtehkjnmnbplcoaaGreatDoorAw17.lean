
import Derived.Test.YtehkjnmnbplcoaaGreatDoorOf
namespace Go.Proofs.YtehkjnmnbplcoaaGreatDoor
open Go.RowKit Go.Bw

/-- a row of two elements, in one block -/
theorem row_two {α : Type} {sz g : Nat} {d : Knd α} {ok : Nat → Prop} {W : World} {x0 x1 : α} {c0 c1 : List Value} {t : TypeId} {fr : Nat × Nat} (h0 : d ok W x0 c0) (h1 : d ok W x1 c1) (l0 : c0.length = sz) (hb : ok g) (hh : W.heap[g]? = some (.cells (c0 ++ c1).toArray t fr)) :
    RowAt sz d ok W (.slice (some ⟨g, 0, none⟩) 2 2) [x0, x1] := by
  have hcell : ∀ i, W.cell? ⟨g, i, none⟩ = (c0 ++ c1)[i]? := fun i => by simp [World.cell?, hh]
  refine ⟨_, _, rfl, Nat.le_refl _, by decide, (fun h => by cases h), (fun ad h _ => by cases h; rfl), fun j x hj => ?_⟩
  match j, hj with
  | 0, hj =>
    cases hj
    refine ⟨_, c0, rfl, h0, fun i u hu => ⟨hb, ?_⟩⟩
    show W.cell? ⟨g, 0 + (0 * sz + i), none⟩ = some u
    rw [hcell, Nat.zero_mul, Nat.zero_add, Nat.zero_add, List.getElem?_append_left (List.getElem?_eq_some_iff.1 hu).1]
    exact hu
  | 1, hj =>
    cases hj
    refine ⟨_, c1, rfl, h1, fun i u hu => ⟨hb, ?_⟩⟩
    show W.cell? ⟨g, 0 + (1 * sz + i), none⟩ = some u
    rw [hcell, Nat.one_mul, Nat.zero_add, ← l0, List.getElem?_append_right (by omega), Nat.add_sub_cancel_left]
    exact hu
  | j + 2, hj => simp at hj

def exA : List Bw.En := [(1, ([97], [])), (33, ([98], []))]
def exN : Bw.N := .branch 2 [.branch 3 [.leaf 1 ([97], []), .leaf 33 ([98], [])]]
def exS : List Bw.Spot := [(0, 3, 0, 2, 2), (1, 3, 0, 3, 2), (2, 1, 1, 0, 1), (2, 1, 33, 0, 1)]

theorem bucketO_one (h : Nat) (p : Bw.PV) : Bw.bucketO h (Bw.T.from (Bw.come [p])) = some (.leaf h p) := by
  have : Bw.come [p] = [p] := rfl
  rw [this]
  simp [Bw.bucketO, Bw.T.size, Bw.T.from, Bw.T.root]

theorem exA_of : Bw.ofO exA = some exN := by
  have hla : Bw.lasts exA = exA := by decide
  have h1 : Bw.layO 11 2 (Bw.partOf 1 0 exA) = some (.leaf 1 ([97], [])) := by
    rw [show Bw.partOf 1 0 exA = [(1, ([97], []))] by decide, Bw.layO_same (g := 1) (by decide) rfl (by decide)]
    exact bucketO_one 1 _
  have h2 : Bw.layO 11 2 (Bw.partOf 1 1 exA) = some (.leaf 33 ([98], [])) := by
    rw [show Bw.partOf 1 1 exA = [(33, ([98], []))] by decide, Bw.layO_same (g := 33) (by decide) rfl (by decide)]
    exact bucketO_one 33 _
  have h3 : Bw.layO 12 1 exA = some (.branch 3 [.leaf 1 ([97], []), .leaf 33 ([98], [])]) := by
    rw [Bw.layO_split (g := 1) (by decide) rfl (by decide), show Bw.mapOf 1 exA = 3 by decide, show Bw.bitsOf 3 = [0, 1] by decide]
    simp only [List.map_cons, List.map_nil, h1, h2]
    rfl
  unfold Bw.ofO
  rw [hla, Bw.layO_split (g := 1) (by decide) rfl (by decide), show Bw.mapOf 0 exA = 2 by decide, show Bw.bitsOf 2 = [1] by decide]
  simp only [List.map_cons, List.map_nil, show Bw.partOf 0 1 exA = exA by decide, h3]
  rfl

theorem exA_ok : EnsOk exA where
  len := by decide
  bytes := by intro e he; simp only [exA, List.mem_cons, List.not_mem_nil, or_false] at he; rcases he with rfl | rfl <;> decide
  hash := by intro e he; simp only [exA, List.mem_cons, List.not_mem_nil, or_false] at he; rcases he with rfl | rfl <;> decide

theorem exN_spots : Bw.spotsOf (Bw.visitsO 0 (some exN)) = exS := by
  simp [exN, exS, Bw.visitsO, Bw.N.visits, Bw.N.visitsL, Bw.spotsOf, Bw.N.spot, Bw.N.countL, Bw.N.count]

set_option maxRecDepth 100000 in
set_option maxHeartbeats 400000 in
theorem awake17_any (w : World) (hT : Tab w) :
    Calls Tryz.prog 16 #[] w fun e w' => e = .returned (.bool true) ∧ Below w.heap.size w w' := by
  obtain ⟨W1, hW1⟩ : ∃ W1, w.alloc (.cells #[.int .u8 97] 5 (1, 2)) = W1 := ⟨_, rfl⟩
  have kc : (convert 29 29 (.slice (some ⟨w.heap.size, 0, none⟩) 1 1)).run Tryz.prog (w.alloc (.cells #[.int .u8 97] 5)) = .ok (.slice (some ⟨w.heap.size, 0, none⟩) 1 1) W1 := by
    rw [← hW1]; exact Lib.run_convert_bytes_const (P := Tryz.prog) w 29 5 #[.int .u8 97] 1 1 Tryz.underlying29 Tryz.underlying5
  have hB1 : Below w.heap.size w W1 := by rw [← hW1]; exact (Below.refl _ _).alloc (Nat.le_refl _) _
  have hrow1 : BytesAt AllB W1 (.slice (some ⟨w.heap.size, 0, none⟩) 1 1) [97] := by
    rw [← hW1]
    exact RowAt.single goodByte (cs := #[.int .u8 97]) (t := 5) (fr := (1, 2)) rfl trivial (heap_alloc_new w _)
  obtain ⟨W2, hW2⟩ : ∃ W2, W1.alloc (.cells #[.int .u8 98] 5 (1, 2)) = W2 := ⟨_, rfl⟩
  have kd : (convert 29 29 (.slice (some ⟨W1.heap.size, 0, none⟩) 1 1)).run Tryz.prog (W1.alloc (.cells #[.int .u8 98] 5)) = .ok (.slice (some ⟨W1.heap.size, 0, none⟩) 1 1) W2 := by
    rw [← hW2]; exact Lib.run_convert_bytes_const (P := Tryz.prog) W1 29 5 #[.int .u8 98] 1 1 Tryz.underlying29 Tryz.underlying5
  have hB2 : Below W1.heap.size W1 W2 := by rw [← hW2]; exact (Below.refl _ _).alloc (Nat.le_refl _) _
  have hrow2 : BytesAt AllB W2 (.slice (some ⟨W1.heap.size, 0, none⟩) 1 1) [98] := by
    rw [← hW2]
    exact RowAt.single goodByte (cs := #[.int .u8 98]) (t := 5) (fr := (1, 2)) rfl trivial (heap_alloc_new W1 _)
  obtain ⟨W3, hW3⟩ : ∃ W3, W2.alloc (.cells #[.int .u64 1, .slice (some ⟨w.heap.size, 0, none⟩) 1 1, .slice none 0 0, .int .u64 33, .slice (some ⟨W1.heap.size, 0, none⟩) 1 1, .slice none 0 0] 83) = W3 := ⟨_, rfl⟩
  have hB3 : Below W2.heap.size W2 W3 := by rw [← hW3]; exact (Below.refl _ _).alloc (Nat.le_refl _) _
  have hE : EntsAt AllB W3 (.slice (some ⟨W2.heap.size, 0, none⟩) 2 2) exA := by
    refine row_two (d := entK) (c0 := [.int .u64 1, .slice (some ⟨w.heap.size, 0, none⟩) 1 1, .slice none 0 0]) (c1 := [.int .u64 33, .slice (some ⟨W1.heap.size, 0, none⟩) 1 1, .slice none 0 0]) (t := 83) (fr := (0, 0))
      (entK_mk (e := (1, ([97], []))) ((hrow1.move (ok' := AllB) goodByte (Moves.below hB2)).move (ok' := AllB) goodByte (Moves.below hB3)) RowAt.nil)
      (entK_mk (e := (33, ([98], []))) (hrow2.move (ok' := AllB) goodByte (Moves.below hB3)) RowAt.nil) rfl trivial ?_
    rw [← hW3]
    exact heap_alloc_new W2 _
  have hB : Below w.heap.size w W3 := (hB1.trans (hB2.mono hB1.size)).trans (hB3.mono (Nat.le_trans hB1.size hB2.size))
  have CO := Lib.hid (lof_any exA_ok hE (hT.below hT.pos hB))
  rw [exA_of] at CO
  have CS := Lib.hid (fun (W : World) (q : Value) (hW : Below w.heap.size w W) (h : ONodeAt nt (fun k => W3.heap.size ≤ k) W q (some exN)) => shape_any h (fun n e => exA_ok.slim n (exA_of.trans e)) (hT.below hT.pos hW))
  rw [exN_spots] at CS
  have HB := Lib.hid hB; have HW3 := Lib.hid hW3
  clear hT hB1 hB2 hB3 hE hB hrow1 hrow2 hW1 hW2 hW3
  go_enter Tryz.func16, Tryz.ntmps16
  go_wp2_with (rw [HW3.out])
  refine CO.out.mono ?_
  rintro e w4 ⟨q, rfl, hq, hb4⟩
  obtain ⟨tq, bq, rfl⟩ := NodeAt.form hq
  have hB4 := HB.out.trans (hb4.mono HB.out.size)
  have CT := Lib.hid (CS.out w4 _ hB4 hq)
  have HB4 := Lib.hid hB4
  clear hq hb4 hB4
  go_wp2_with fail
  refine CT.out.mono ?_
  rintro e w5 ⟨q5, rfl, hq5, hb5⟩
  obtain ⟨A5, c5, rfl⟩ := hq5.form
  obtain ⟨b, o, rfl, -, -, -, k03, -⟩ := spot_get hq5 (j := 0) rfl
  obtain ⟨_, _, e1, k10, -, -, k13, -⟩ := spot_get hq5 (j := 1) rfl
  cases e1
  obtain ⟨_, _, e2, -, k21, -, -, -⟩ := spot_get hq5 (j := 2) rfl
  cases e2
  obtain ⟨_, _, e3, -, -, k32, -, -⟩ := spot_get hq5 (j := 3) rfl
  cases e3
  have HB5 := Lib.hid (HB4.out.trans (hb5.mono HB4.out.size))
  clear hq5 hb5
  have hlen : exS.length = 4 := rfl
  rw [hlen]
  simp only [Nat.zero_mul, Nat.one_mul, Nat.reduceMul, Nat.add_zero] at k03 k10 k13 k21 k32
  go_wp2_with fail
  go_ret
  exact ⟨rfl, HB5.out⟩
end Go.Proofs.YtehkjnmnbplcoaaGreatDoor
