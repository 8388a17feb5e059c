
import Derived.Test.YtkblhilaeecdlaaDoorLaw1
import Derived.Lib.SlBytesConst
namespace Go.Proofs.YtkblhilaeecdlaaDoor
open Go.RowKit Go.Bw

set_option maxRecDepth 100000 in
set_option maxHeartbeats 400000 in
theorem awake_any (w : World) :
    Calls Tryd.prog 5 #[] w fun e w' => e = .returned (.bool true) ∧ Below w.heap.size w w' := by
  obtain ⟨W1, hW1⟩ : ∃ W1, w.alloc (.cells #[.int .u8 107] 5 (1, 2)) = W1 := ⟨_, rfl⟩
  have kc : (convert 45 45 (.slice (some ⟨w.heap.size, 0, none⟩) 1 1)).run Tryd.prog (w.alloc (.cells #[.int .u8 107] 5)) = .ok (.slice (some ⟨w.heap.size, 0, none⟩) 1 1) W1 := by
    rw [← hW1]; exact Lib.run_convert_bytes_const (P := Tryd.prog) w 45 5 #[.int .u8 107] 1 1 Tryd.underlying45 Tryd.underlying5
  have hB1 : Below w.heap.size w W1 := by rw [← hW1]; exact (Below.refl _ _).alloc (Nat.le_refl _) _
  have hrow : BytesAt AllB W1 (.slice (some ⟨w.heap.size, 0, none⟩) 1 1) [107] := by
    rw [← hW1]
    exact RowAt.single goodByte (cs := #[.int .u8 107]) (t := 5) (fr := (1, 2)) rfl trivial (heap_alloc_new w _)
  have CL : Hid (Calls Tryd.prog 10 #[.int .u64 5, .agg #[.slice (some ⟨w.heap.size, 0, none⟩) 1 1, .slice none 0 0]] W1 (Gives W1 fun r w' => NodeAt nt (fun k => W1.heap.size ≤ k) w' r (.leaf 5 ([107], [])))) := Lib.hid
    (leaf_any (h := 5) (p := ([107], [])) W1 hrow RowAt.nil (by simp) (by simp))
  have HB1 := Lib.hid hB1
  clear hrow hW1 hB1
  go_enter Tryd.func5, Tryd.ntmps5
  go_wp2_with fail
  refine CL.out.mono ?_
  rintro e w1 ⟨q, rfl, hq, hb1⟩
  have hqq := hq
  simp only [NodeAt] at hqq
  obtain ⟨b, u1, u2, rfl, _⟩ := hqq
  have CI2 := Lib.hid (fun W (hW : Below w1.heap.size w1 W) => is_any (n := some (.leaf 5 ([107], []))) 2 (NodeAt.move (Moves.below hW) _ _ hq))
  have CI1 := Lib.hid (fun W (hW : Below w1.heap.size w1 W) => is_any (n := some (.leaf 5 ([107], []))) 1 (NodeAt.move (Moves.below hW) _ _ hq))
  have HB2 := Lib.hid (HB1.out.trans (hb1.mono HB1.out.size))
  have hm := kindm_leaf
  clear hq hb1
  go_wp2_with fail
  refine (kind_leaf _ _).mono ?_
  rintro e w2 ⟨rfl, rfl⟩
  go_wp2_with fail
  refine (CI2.out _ (Below.refl _ _)).mono ?_
  rintro e w3 ⟨rfl, hb3⟩
  rw [if_neg (by simp [kindO])]
  go_wp2_with fail
  refine (CI1.out _ hb3).mono ?_
  rintro e w4 ⟨rfl, hb4⟩
  rw [if_pos (by simp [kindO])]
  have HB4 := Lib.hid (HB2.out.trans ((hb3.trans (hb4.mono hb3.size)).mono HB2.out.size))
  clear hb3 hb4
  go_wp2
  go_ret
  exact ⟨rfl, HB4.out⟩

mutual
def _root_.Bw.X.count : Bw.X → Nat
  | .mk _ _ ps _ kids => ps.length + Bw.X.countL kids
def _root_.Bw.X.countL : List Bw.X → Nat
  | [] => 0
  | k :: r => k.count + Bw.X.countL r
end
theorem _root_.Bw.X.countL_append (a b : List Bw.X) : Bw.X.countL (a ++ b) = Bw.X.countL a + Bw.X.countL b := by
  induction a with
  | nil => simp [Bw.X.countL]
  | cons k r ih => simp [Bw.X.countL, ih]; omega

def CountRel (n0 : Nat) (kids : List Bw.X) (w : World) (n i : Value) (wr : World) : Prop :=
  ∃ k : Nat, k ≤ kids.length ∧ i = .int .i64 k ∧ n = .int .i64 (n0 + Bw.X.countL (kids.take k) : Nat) ∧ Below w.heap.size w wr

theorem _root_.Bw.X.countL_take (l : List Bw.X) (k : Nat) : Bw.X.countL (l.take k) ≤ Bw.X.countL l := by
  conv => rhs; rw [← List.take_append_drop k l, Bw.X.countL_append]
  omega
theorem _root_.Bw.X.countL_mem {l : List Bw.X} {x : Bw.X} (h : x ∈ l) : x.count ≤ Bw.X.countL l := by
  induction l with
  | nil => simp at h
  | cons k r ih =>
    simp only [Bw.X.countL]
    rcases List.mem_cons.1 h with rfl | h
    · omega
    · have := ih h; omega

theorem int_succM {k n : Nat} (h : k < n) (hn : n ≤ maxLen) : Value.int .i64 (wrap64 ((k : Int) + 1)) = .int .i64 ((k + 1 : Nat) : Int) := by
  unfold maxLen at hn
  rw [show wrap64 ((k : Int) + 1) = ((k + 1 : Nat) : Int) by unfold wrap64; omega]
theorem less_succM {k n : Nat} (h : k < n) (hn : n ≤ maxLen) : n - (intOf (.int .i64 (wrap64 ((k : Int) + 1)))).toNat < n - (intOf (.int .i64 (k : Int))).toNat := by
  unfold maxLen at hn
  rw [show wrap64 ((k : Int) + 1) = ((k + 1 : Nat) : Int) by unfold wrap64; omega]; simp only [intOf, Int.toNat_natCast]; omega

end Go.Proofs.YtkblhilaeecdlaaDoor
