
import Derived.Test.YtehkjnmnbplcoaaDoorList
import Derived.Test.YtehkjnmnbplcoaaDoorBwAll
namespace Go.Proofs.YtehkjnmnbplcoaaDoor
open Go.RowKit Go.Bw

theorem enters_list1 : ∀ args w, (callFunc 85 args).run Tryd.prog w = .ok (.enter 85 args) w := Go.Proofs.enters_of Tryd.func85 (by kernel_rfl) rfl

theorem nodes_list : ∀ t : Bw.T, (nodes t).map rootOf = t.list
  | .nil => rfl
  | .node l p r => by simp [nodes, Bw.T.list, nodes_list l, nodes_list r, rootOf]

set_option maxRecDepth 100000 in
set_option maxHeartbeats 400000 in
theorem list_any {ok : Nat → Prop} {t : Bw.T} {v : Value} {w : World} (ht : TreeAt ok w v t) (hp : ∀ p ∈ t.list, p.1.length ≤ 1048576 ∧ p.2.length ≤ 1048576) (hn : t.size ≤ 1048576) :
    Calls Tryd.prog 49 #[v] w (Gives w fun q w' => PairsAt (fun k => w.heap.size ≤ k) w' q t.list) := by
  obtain ⟨A, rfl⟩ := ht.form
  have CS := Lib.hid (fun W (hW : Below w.heap.size w W) => size_any (ht.move (Moves.below hW)))
  have hmf : ∀ (fn : Fn) (first cap : Array Value) (w : World), (Instr.makeFunc fn first cap).run Tryd.prog w = .ok (.func fn first cap) w := fun _ _ _ _ => rfl
  obtain ⟨i0, hi, hz0, hz1, hz2⟩ := info_parts infoP
  obtain ⟨W1, hmk, hW1, hg1⟩ := run_make_own (P := Tryd.prog) w w.heap.size 23 31 i0 _ 2 Tryd.underlying23 hi hz0 hz1 .i64 .i64 t.size (by rw [hz2]; omega) (by unfold maxLen; omega) (Nat.le_refl _)
  have HW1 := Lib.hid hW1; have HG1 := Lib.hid hg1
  clear hi hz0 hz1 hz2 hW1 hg1
  have HT := Lib.hid ht; have HP := Lib.hid hp; have HN := Lib.hid hn
  clear ht hp hn
  go_enter Tryd.func49, Tryd.ntmps49
  go_wp2_with fail
  refine (CS.out _ (Below.refl _ _)).mono ?_
  rintro e w1 ⟨rfl, rfl⟩
  go_wp2_with fail
  have hB1 : Below w.heap.size w W1 := (Below.refl _ _).grown HG1.out (Nat.le_refl _) (fun k h => by cases h)
  have hB2 : Below w.heap.size w (W1.alloc (.cells #[.slice (some ⟨w.heap.size, 0, none⟩) 0 t.size] 23)) := hB1.alloc hB1.size _
  have hlt1 : w.heap.size < W1.heap.size := by
    have := (HW1.out.lt w.heap.size rfl).2
    exact this
  have hI : InvL w W1.heap.size [] (W1.alloc (.cells #[.slice (some ⟨w.heap.size, 0, none⟩) 0 t.size] 23)) := by
    refine ⟨.slice (some ⟨w.heap.size, 0, none⟩) 0 t.size, cell_new W1 0 _ _ 0 _ rfl, by go_simp, ?_, hB2, by simp⟩
    refine OwnAt.move goodPair (Moves.below ((Below.refl W1.heap.size W1).alloc (Nat.le_refl _) _)) ⟨fun k hk => ?_, [], HW1.out, Reps.nil _ _⟩
    cases hk
    exact ⟨Nat.le_refl _, Nat.ne_of_lt hlt1⟩
  have CE := Lib.hid (each_any (ok := ok) (w0 := w) 85 enters_list1 (.pointer (some ⟨W1.heap.size, 0, none⟩)) (InvL w W1.heap.size) (fun pre W h => by
      obtain ⟨vo, _, _, _, hb, _⟩ := h
      exact ⟨Moves.below hb, hb.size⟩) (nodes t) (fun pre l p r post b W he hi ht => by
      have hl := nodes_list t
      rw [he] at hl
      have hlen : pre.length < 1048576 := by
        have h1 := congrArg List.length hl
        rw [Bw.T.length_list] at h1
        simp at h1
        have := HN.out
        omega
      exact list1_any hB1.size hi ht (HP.out p (by rw [← hl]; simp [rootOf])) hlen) t (.pointer A) [] [] _ (by simp) hI HT.out)
  clear hI
  refine CE.out.mono ?_
  rintro e w2 ⟨rfl, vo, c0, f0, hown, hb, hol⟩
  rw [List.nil_append, nodes_list] at hown
  obtain ⟨A9, c9, rfl⟩ := (hown.row goodPair).form
  have HROW := Lib.hid ((hown.row goodPair).weaken goodPair (ok' := fun k => w.heap.size ≤ k) (fun k hk => hk.1))
  have HBF := Lib.hid hb
  clear hown hb
  go_wp2
  refine bodyPost_ret (v := .slice A9 t.list.length c9) (by simp [results, Tryd.results49, go_sem]) rfl ⟨_, rfl, HROW.out, HBF.out⟩
end Go.Proofs.YtehkjnmnbplcoaaDoor
