
import Derived.Test.YtehkjnmnbplcoaaDoorSound
import Derived.Test.YtehkjnmnbplcoaaDoorList2
namespace Go.Proofs.YtehkjnmnbplcoaaDoor
open Go.RowKit Go.Bw

theorem enters_sound1 : ∀ args w, (callFunc 83 args).run Tryd.prog w = .ok (.enter 83 args) w := Go.Proofs.enters_of Tryd.func83 (by kernel_rfl) rfl

theorem nodes_even : ∀ t : Bw.T, t.even → ∀ x ∈ nodes t, x.even
  | .nil, _, x, hx => by simp [nodes] at hx
  | .node l p r, h, x, hx => by
    simp only [nodes, List.mem_append, List.mem_cons] at hx
    rcases hx with hx | rfl | hx
    · exact nodes_even l h.1 x hx
    · exact h
    · exact nodes_even r h.2.1 x hx

theorem nodes_size : ∀ t : Bw.T, ∀ x ∈ nodes t, x.size ≤ t.size
  | .nil, x, hx => by simp [nodes] at hx
  | .node l p r, x, hx => by
    simp only [nodes, List.mem_append, List.mem_cons] at hx
    rcases hx with hx | rfl | hx
    · have := nodes_size l x hx; simp only [Bw.T.size]; omega
    · exact Nat.le_refl _
    · have := nodes_size r x hx; simp only [Bw.T.size]; omega

theorem nodes_node : ∀ t : Bw.T, ∀ x ∈ nodes t, ∃ l p r, x = .node l p r
  | .nil, x, hx => by simp [nodes] at hx
  | .node l p r, x, hx => by
    simp only [nodes, List.mem_append, List.mem_cons] at hx
    rcases hx with hx | rfl | hx
    · exact nodes_node l x hx
    · exact ⟨_, _, _, rfl⟩
    · exact nodes_node r x hx

theorem sound1_any {ok : Nat → Prop} {w0 w : World} {o b : Nat} {pre : List Bw.T} {l r : Bw.T} {p : Bw.PV} (ho : w0.heap.size ≤ o) (hoo : ∀ k, ok k → k ≠ o) (hi : InvS ok w0 o pre w) (hpre : ∀ x ∈ pre, ∃ l p r, x = Bw.T.node l p r) (ht : TreeAt ok w (.pointer (some ⟨b, 0, none⟩)) (.node l p r)) (hn : l.size + r.size ≤ 1048575)
    (he : l.size + 1 ≤ 3 * (r.size + 1) ∧ r.size + 1 ≤ 3 * (l.size + 1)) (hlt : ∀ l0 p0 r0, pre.getLast? = some (.node l0 p0 r0) → Lib.compareBytes p0.1 p.1 < 0) :
    Calls Tryd.prog 83 #[.pointer (some ⟨b, 0, none⟩), .pointer (some ⟨o, 0, none⟩)] w fun e w' => e = .returned (.bool true) ∧ InvS ok w0 o (pre ++ [.node l p r]) w' := by
  obtain ⟨A, c0, f0, hB, hol, hlast⟩ := hi
  have hfin : ∀ n m, InvS ok w0 o (pre ++ [.node l p r]) (((w.drewN n).setCell ⟨o, 0, none⟩ (.pointer (some ⟨b, 0, none⟩))).drewN m) := fun n m => by
    have mv : Moves ok ok w (((w.drewN n).setCell ⟨o, 0, none⟩ (.pointer (some ⟨b, 0, none⟩))).drewN m) := ((Moves.drewN w n).trans (by simp) (Moves.set (p := ⟨o, 0, none⟩) _ hoo)).trans (by simp) (Moves.drewN _ m)
    refine ⟨some ⟨b, 0, none⟩, by go_simp, by go_simp, b_drewN ((b_drewN hB n).setCell ho _) m, by simpa using hol, ?_⟩
    rw [List.getLast?_append]
    exact ht.move mv
  cases hp : pre.getLast? with
  | none =>
    simp only [hp] at hlast
    subst hlast
    refine (sound1_first c0 f0 hoo ht hn he).mono ?_
    rintro e w' ⟨rfl, n, m, rfl⟩
    exact ⟨rfl, hfin n m⟩
  | some x =>
    simp only [hp] at hlast
    obtain ⟨l0, p0, r0, rfl⟩ := hpre x (List.mem_of_getLast? hp)
    have hlast' := hlast
    simp only [TreeAt] at hlast'
    obtain ⟨b0, _, _, _, _, hA, _⟩ := hlast'
    cases hA
    refine (sound1_next c0 hlast (hlt l0 p0 r0 hp) f0 hoo ht hn he).mono ?_
    rintro e w' ⟨rfl, n, m, rfl⟩
    exact ⟨rfl, hfin n m⟩

set_option maxRecDepth 100000 in
set_option maxHeartbeats 400000 in
theorem sound_any {ok : Nat → Prop} {t : Bw.T} {v : Value} {w : World} (ht : TreeAt ok w v t) (he : t.even) (hr : Bw.Rises t.list) (hn : t.size ≤ 1048576) :
    Calls Tryd.prog 47 #[v] w fun e w' => e = .returned (.bool true) ∧ Below w.heap.size w w' := by
  obtain ⟨A, rfl⟩ := ht.form
  have hmf : ∀ (fn : Fn) (first cap : Array Value) (w : World), (Instr.makeFunc fn first cap).run Tryd.prog w = .ok (.func fn first cap) w := fun _ _ _ _ => rfl
  have hB : Below w.heap.size w (w.alloc (.cells #[.pointer none] 98)) := by (repeat (first | exact Below.refl _ _ | with_reducible assumption | refine Below.drew ?_ | (refine Below.alloc ?_ (by simp) _) | (refine Below.alloc ?_ (by simp; omega) _)))
  have ht2 : TreeAt (fun k => ok k ∧ k < w.heap.size) w (.pointer A) t := ht.move (Moves.weaken fun k h hl => ⟨h, hl⟩)
  have hI : InvS (fun k => ok k ∧ k < w.heap.size) w w.heap.size [] (w.alloc (.cells #[.pointer none] 98)) :=
    ⟨none, cell_new w 0 _ _ 0 _ rfl, by go_simp, hB, by simp, rfl⟩
  have CE := Lib.hid (each_any (ok := fun k => ok k ∧ k < w.heap.size) (w0 := w) 83 enters_sound1 (.pointer (some ⟨w.heap.size, 0, none⟩)) (InvS (fun k => ok k ∧ k < w.heap.size) w w.heap.size) (fun pre W h => by
      obtain ⟨_, _, _, hb, _⟩ := h
      exact ⟨Moves.below hb, hb.size⟩) (nodes t) (fun pre l p r post b W ha hi htx => by
      have hmem : Bw.T.node l p r ∈ nodes t := by rw [ha]; simp
      have hev := nodes_even t he _ hmem
      have hsz := nodes_size t _ hmem
      simp only [Bw.T.size] at hsz
      refine sound1_any (Nat.le_refl _) (fun k hk => Nat.ne_of_lt hk.2) hi (fun x hx => nodes_node t x (by rw [ha]; simp [hx])) htx (by omega) hev.2.2 (fun l0 p0 r0 hl => ?_)
      obtain ⟨ys, hl2⟩ := List.getLast?_eq_some_iff.1 hl
      rw [← nodes_list, ha, hl2] at hr
      simp only [Bw.Rises, List.map_append, List.map_cons, List.append_assoc, List.singleton_append, List.pairwise_append, List.pairwise_cons, rootOf] at hr
      have := hr.2.1.1 p (by simp)
      have h2 : Lib.compareBytes p0.1 p.1 = -1 := this
      omega) t (.pointer A) [] [] _ (by simp) hI ht2)
  have HB := Lib.hid hB
  clear hI ht ht2 he hr hn hB
  go_enter Tryd.func47, Tryd.ntmps47
  go_wp2_with fail
  refine CE.out.mono ?_
  rintro e w1 ⟨rfl, _, _, _, hb, _⟩
  have HBF := Lib.hid hb
  clear hb
  go_wp2
  go_ret
  exact ⟨rfl, HBF.out⟩
end Go.Proofs.YtehkjnmnbplcoaaDoor
