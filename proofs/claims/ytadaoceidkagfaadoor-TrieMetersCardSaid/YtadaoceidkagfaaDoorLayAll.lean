
import Derived.Test.YtadaoceidkagfaaDoorRef19
import Derived.Test.YtadaoceidkagfaaDoorWay
import Derived.Test.YtadaoceidkagfaaDoorRefA
import Derived.Deep.AppendLies
namespace Go.Proofs.YtadaoceidkagfaaDoor
open Go.RowKit Go.Bw

/-- the first loop of Lay: have all so far one hash; what they come to -/
def LayRel1 (l : List Bw.En) (g0 : Nat) (W0 : World) (s m i : Value) (wr : World) : Prop :=
  ∃ k : Nat, k ≤ l.length ∧ i = .int .i64 k ∧ s = .bool ((l.take k).all fun x => x.1 == g0) ∧ SPairsAt (fun k => W0.heap.size ≤ k) wr m (Bw.come ((l.take k).map (·.2))) ∧ Below W0.heap.size W0 wr

/-- what Lay tells -/
def LayTold (w : World) (x : Bw.X) (r : Value) (w' : World) : Prop := ∃ cs, r = .agg cs.toArray ∧ xK (fun k => w.heap.size ≤ k) w' x cs

theorem xK_flat {ok : Nat → Prop} {w : World} {k h : Nat} {ps : List Bw.PV} {vp : Value} (hp : SPairsAt ok w vp ps) : xK ok w (.mk k h ps [] []) [.int .i64 (k : Nat), .int .u64 (h : Nat), vp, .slice none 0 0, .slice none 0 0] :=
  xK_iff.2 ⟨_, _, _, rfl, hp, RowAt.nil, RowAt.nil⟩

theorem moves_set5' {n : Nat} {W : World} (a b c d e : Value) : Moves (fun k => n < k) (fun k => n ≤ k) W (((((W.setCell ⟨n, 0, none⟩ a).setCell ⟨n, 1, none⟩ b).setCell ⟨n, 2, none⟩ c).setCell ⟨n, 3, none⟩ d).setCell ⟨n, 4, none⟩ e) := by
  intro k hk hl
  refine ⟨Nat.le_of_lt hk, ?_⟩
  have hne : k ≠ n := by omega
  rw [Below.heap_setCell _ _ _ _ hne, Below.heap_setCell _ _ _ _ hne, Below.heap_setCell _ _ _ _ hne, Below.heap_setCell _ _ _ _ hne, Below.heap_setCell _ _ _ _ hne]

theorem below_set5' {n : Nat} {w W : World} (h : Below n w W) (a b c d e : Value) : Below n w (((((W.setCell ⟨n, 0, none⟩ a).setCell ⟨n, 1, none⟩ b).setCell ⟨n, 2, none⟩ c).setCell ⟨n, 3, none⟩ d).setCell ⟨n, 4, none⟩ e) :=
  ((((h.setCell (Nat.le_refl _) a).setCell (Nat.le_refl _) b).setCell (Nat.le_refl _) c).setCell (Nat.le_refl _) d).setCell (Nat.le_refl _) e

theorem five_cells' {W : World} {b : Nat} {t : TypeId} {a0 a1 a2 a3 a4 : Value} (h : W.heap[b]? = some (.cells #[a0, a1, a2, a3, a4] t (0, 0))) :
    (W.cell? ⟨b, 0, none⟩ = some a0 ∧ W.cell? ⟨b, 1, none⟩ = some a1 ∧ W.cell? ⟨b, 2, none⟩ = some a2 ∧ W.cell? ⟨b, 3, none⟩ = some a3 ∧ W.cell? ⟨b, 4, none⟩ = some a4) ∧
    (W.frozen? ⟨b, 0, none⟩ = false ∧ W.frozen? ⟨b, 1, none⟩ = false ∧ W.frozen? ⟨b, 2, none⟩ = false ∧ W.frozen? ⟨b, 3, none⟩ = false ∧ W.frozen? ⟨b, 4, none⟩ = false) := by
  simp [World.cell?, World.frozen?, h]

theorem set5_block {W : World} {n : Nat} {t : TypeId} {b0 b1 b2 b3 b4 : Value} (h : W.heap[n]? = some (.cells #[b0, b1, b2, b3, b4] t (0, 0))) (u0 u1 u2 u3 u4 : Value) :
    (((((W.setCell ⟨n, 0, none⟩ u0).setCell ⟨n, 1, none⟩ u1).setCell ⟨n, 2, none⟩ u2).setCell ⟨n, 3, none⟩ u3).setCell ⟨n, 4, none⟩ u4).heap[n]? = some (.cells #[u0, u1, u2, u3, u4] t (0, 0)) := by
  have := Joins.block_setCell (Joins.block_setCell (Joins.block_setCell (Joins.block_setCell (Joins.block_setCell h (i := 0) u0) (i := 1) u1) (i := 2) u2) (i := 3) u3) (i := 4) u4
  simpa using this

end Go.Proofs.YtadaoceidkagfaaDoor

namespace Go.Proofs.YtadaoceidkagfaaDoor
open Go.RowKit Go.Bw

def csOf (level : Nat) (l : List Bw.En) (c : Nat) : List Nat := (List.range c).filter fun c => l.any fun x => Bw.chunkAt x.1 level == c
theorem csOf_yes {level c : Nat} {l : List Bw.En} (h : Bw.partOf level c l ≠ []) : csOf level l (c + 1) = csOf level l c ++ [c] := by
  unfold csOf
  rw [List.range_succ, List.filter_append]
  congr 1
  obtain ⟨e, he⟩ := List.exists_mem_of_ne_nil _ h
  obtain ⟨h1, h2⟩ := Bw.mem_partOf.1 he
  have hb : (l.any fun x => Bw.chunkAt x.1 level == c) = true := List.any_eq_true.2 ⟨e, h1, beq_iff_eq.2 h2⟩
  rw [List.filter_cons, if_pos hb]
  rfl
theorem csOf_no {level c : Nat} {l : List Bw.En} (h : Bw.partOf level c l = []) : csOf level l (c + 1) = csOf level l c := by
  unfold csOf
  rw [List.range_succ, List.filter_append]
  have : ([c].filter fun c => l.any fun x => Bw.chunkAt x.1 level == c) = [] := by
    rw [List.filter_cons, if_neg]
    · rfl
    · rw [Bool.not_eq_true, List.any_eq_false]
      intro e he hx
      have hm := Bw.mem_partOf.2 ⟨he, beq_iff_eq.1 hx⟩
      rw [h] at hm
      simp at hm
  rw [this, List.append_nil]
theorem length_csOf (level : Nat) (l : List Bw.En) (c : Nat) : (csOf level l c).length ≤ c := by
  have := List.length_filter_le (fun c => l.any fun x => Bw.chunkAt x.1 level == c) (List.range c)
  rw [List.length_range] at this
  exact this

abbrev SetAt (ob : Nat) (W : World) (kv sv : Value) (cs : List Nat) : Prop := OwnAt 3 1 natK (fun k => ob < k ∧ some k ≠ kv.ownBlock) W (ob + 1) sv cs
/-- A row, where another row is grown. -/
theorem row_aside' {α : Type} {e sz : Nat} {d : Knd α} (hd : _root_.Go.Bw.Good sz d) {n b0 : Nat} {vA vA' vB : Value} {ys : List α} {w w' : World}
    (hB : OwnAt e sz d (fun k => n < k ∧ some k ≠ vA.ownBlock) w b0 vB ys) (hg : w.grownBy w' vA.ownBlock) (hat : vA'.ownBlock = vA.ownBlock ∨ ∃ b, vA'.ownBlock = some b ∧ w.heap.size ≤ b) :
    OwnAt e sz d (fun k => n < k ∧ some k ≠ vA'.ownBlock) w' b0 vB ys := by
  refine hB.move hd fun k hk hl => ⟨⟨hk.1, fun e => ?_⟩, hg.block k hl hk.2⟩
  rcases hat with h | ⟨b, h, hb⟩
  · exact hk.2 (e.trans h)
  · have := e.trans h
    injection this with this
    omega

section
variable {a : Act} {Q : Exit → Act → World → Prop} {o : Oper} {ops : Array Oper} {w : World} {ok : Nat → Prop}
end

theorem xK_five {ok : Nat → Prop} {w : World} {x : Bw.X} {cs : List Value} (h : xK ok w x cs) : ∃ k hh A1 n1 c1 A2 n2 c2 A3 n3 c3, cs = [.int .i64 (k : Nat), .int .u64 (hh : Nat), .slice A1 n1 c1, .slice A2 n2 c2, .slice A3 n3 c3] := by
  obtain ⟨k, hh, ps, s, kids⟩ := x
  rw [xK_iff] at h
  obtain ⟨vp, vs, vk, rfl, h1, h2, h3⟩ := h
  obtain ⟨A1, c1, rfl⟩ := h1.form
  obtain ⟨A2, c2, rfl⟩ := h2.form
  obtain ⟨A3, c3, rfl⟩ := h3.form
  exact ⟨_, _, _, _, _, _, _, _, _, _, _, rfl⟩
end Go.Proofs.YtadaoceidkagfaaDoor

namespace Go.Proofs.YtadaoceidkagfaaDoor
open Go.RowKit Go.Bw

end Go.Proofs.YtadaoceidkagfaaDoor

namespace Go.Proofs.YtadaoceidkagfaaDoor
open Go.RowKit Go.Bw

theorem _root_.Bw.layX_nil (f level : Nat) : Bw.layX f level [] = .zero := by cases f <;> rfl

end Go.Proofs.YtadaoceidkagfaaDoor
