
import Derived.Test.YtehkjnmnbplcoaaDoorNode7
namespace Go.Proofs.YtehkjnmnbplcoaaDoor
open Go.RowKit Go.Bw

/-- what Pair tells of a node -/
def PairTold (ok : Nat → Prop) (w : World) (v : Value) : Option Bw.N → Prop
  | some (.leaf _ p) => ∃ u1 u2, v = .tuple #[.agg #[u1, u2], .bool true] ∧ BytesAt ok w u1 p.1 ∧ BytesAt ok w u2 p.2
  | _ => v = .tuple #[.agg #[.slice none 0 0, .slice none 0 0], .bool false]

set_option maxRecDepth 100000 in
set_option maxHeartbeats 400000 in
theorem pair_none (w : World) :
    Calls Tryd.prog 44 #[.nilIface] w fun e w' => e = .returned (.tuple #[.agg #[.slice none 0 0, .slice none 0 0], .bool false]) ∧ Below w.heap.size w w' := by
  have t1 := @ta_nl; have t2 := @ta_nb; have t3 := @ta_nr
  go_enter Tryd.func44, Tryd.ntmps44
  go_wp2
  have k0 := cell_new w 0 #[.slice none 0 0, .slice none 0 0] 31 0 _ rfl
  have k1 := cell_new w 0 #[.slice none 0 0, .slice none 0 0] 31 1 _ rfl
  have k0 : (w.alloc (.cells #[.slice none 0 0, .slice none 0 0] 31)).cell? ⟨w.heap.size, 0, none⟩ = some (.slice none 0 0) := k0
  have k1 : (w.alloc (.cells #[.slice none 0 0, .slice none 0 0] 31)).cell? ⟨w.heap.size, 1, none⟩ = some (.slice none 0 0) := k1
  exact bodyPost_ret (v := .tuple #[.agg #[.slice none 0 0, .slice none 0 0], .bool false]) (by simp [results, Tryd.results44, go_sem, k0, k1]) rfl ⟨rfl, by (repeat (first | exact Below.refl _ _ | with_reducible assumption | refine Below.drew ?_ | (refine Below.alloc ?_ (by simp) _) | (refine Below.alloc ?_ (by simp; omega) _)))⟩

set_option maxRecDepth 100000 in
set_option maxHeartbeats 400000 in
theorem pair_other (b : Nat) (q : Nat) (hq : q = 144 ∨ q = 124) (w : World) :
    Calls Tryd.prog 44 #[.iface q (.pointer (some ⟨b, 0, none⟩))] w fun e w' => e = .returned (.tuple #[.agg #[.slice none 0 0, .slice none 0 0], .bool false]) ∧ Below w.heap.size w w' := by
  have k0 : (w.alloc (.cells #[.slice none 0 0, .slice none 0 0] 31)).cell? ⟨w.heap.size, 0, none⟩ = some (.slice none 0 0) := cell_new w 0 #[.slice none 0 0, .slice none 0 0] 31 0 _ rfl
  have k1 : (w.alloc (.cells #[.slice none 0 0, .slice none 0 0] 31)).cell? ⟨w.heap.size, 1, none⟩ = some (.slice none 0 0) := cell_new w 0 #[.slice none 0 0, .slice none 0 0] 31 1 _ rfl
  have t1 := @ta_ll; have t2 := @ta_lb; have t3 := @ta_lr; have t4 := @ta_bl; have t5 := @ta_bb; have t6 := @ta_br; have t7 := @ta_rl; have t8 := @ta_rb; have t9 := @ta_rr
  rcases hq with rfl | rfl
  · go_enter Tryd.func44, Tryd.ntmps44
    go_wp2
    exact bodyPost_ret (v := .tuple #[.agg #[.slice none 0 0, .slice none 0 0], .bool false]) (by simp [results, Tryd.results44, go_sem, k0, k1]) rfl ⟨rfl, by (repeat (first | exact Below.refl _ _ | with_reducible assumption | refine Below.drew ?_ | (refine Below.alloc ?_ (by simp) _) | (refine Below.alloc ?_ (by simp; omega) _)))⟩
  · go_enter Tryd.func44, Tryd.ntmps44
    go_wp2
    exact bodyPost_ret (v := .tuple #[.agg #[.slice none 0 0, .slice none 0 0], .bool false]) (by simp [results, Tryd.results44, go_sem, k0, k1]) rfl ⟨rfl, by (repeat (first | exact Below.refl _ _ | with_reducible assumption | refine Below.drew ?_ | (refine Below.alloc ?_ (by simp) _) | (refine Below.alloc ?_ (by simp; omega) _)))⟩

set_option maxRecDepth 100000 in
set_option maxHeartbeats 400000 in
theorem pair_leaf {ok : Nat → Prop} {v : Value} {h : Nat} {p : Bw.PV} {w : World} (hn : NodeAt nt ok w v (.leaf h p)) (h1 : p.1.length ≤ 1048576) (h2 : p.2.length ≤ 1048576) :
    Calls Tryd.prog 44 #[v] w (Gives w fun r w' => PairTold (fun k => w.heap.size < k) w' r (some (.leaf h p))) := by
  simp only [NodeAt] at hn
  obtain ⟨b, u1, u2, rfl, ⟨_, c0⟩, ⟨_, c1⟩, ⟨_, c2⟩, hu1, hu2⟩ := hn
  obtain ⟨U1, q1, rfl⟩ := hu1.form
  obtain ⟨U2, q2, rfl⟩ := hu2.form
  have hbl := World.block_lt_of_cell? w _ c0
  dsimp only at hbl
  have hB : Below w.heap.size w ((w.alloc (.cells #[.slice none 0 0, .slice none 0 0] 31)).alloc (.cells #[.slice U1 p.1.length q1, .slice U2 p.2.length q2] 31)) := by (repeat (first | exact Below.refl _ _ | with_reducible assumption | refine Below.drew ?_ | (refine Below.alloc ?_ (by simp) _) | (refine Below.alloc ?_ (by simp; omega) _)))
  have CO := Lib.hid (pown_any (ok := fun k => ok k ∨ w.heap.size ≤ k) (l := [p]) (w := (w.alloc (.cells #[.slice none 0 0, .slice none 0 0] 31)).alloc (.cells #[.slice U1 p.1.length q1, .slice U2 p.2.length q2] 31)) (v := .slice (some ⟨w.heap.size + 1, 0, none⟩) 1 1) (by simp) (by intro q hq; simp only [List.mem_singleton] at hq; subst hq; exact ⟨h1, h2⟩)
    (RowAt.single goodPair (cs := #[.slice U1 p.1.length q1, .slice U2 p.2.length q2]) (t := 31) (fr := (0, 0)) (pairK_mk (hu1.move goodByte ((Moves.weaken fun k hk _ => .inl hk).trans (Nat.le_refl _) (Moves.below hB))) (hu2.move goodByte ((Moves.weaken fun k hk _ => .inl hk).trans (Nat.le_refl _) (Moves.below hB)))) (.inr (by omega)) (by rw [← World.size_alloc w (.cells #[.slice none 0 0, .slice none 0 0] 31)]; exact heap_alloc_new _ _)))
  have HB := Lib.hid hB
  clear hu1 hu2 h1 h2 hB
  have t1 := @ta_ll; have t2 := @ta_lb; have t3 := @ta_lr; have t4 := @ta_bl; have t5 := @ta_bb; have t6 := @ta_br; have t7 := @ta_rl; have t8 := @ta_rb; have t9 := @ta_rr
  go_enter Tryd.func44, Tryd.ntmps44
  go_wp2_with fail
  refine CO.out.mono ?_
  rintro e w1 ⟨q, rfl, ⟨g, c, rfl, hqo⟩, hb1⟩
  have hq := hqo.row goodPair
  clear hqo
  obtain ⟨b', o', u', v', hbo, hob, d0, d1, hu', hv'⟩ := pair_get hq (j := 0) (p := p) rfl
  cases hbo
  obtain ⟨A1, r1, rfl⟩ := hu'.form
  obtain ⟨A2, r2, rfl⟩ := hv'.form
  simp only [Nat.zero_mul, Nat.add_zero, Nat.zero_add] at d0 d1
  have k0 : w1.cell? ⟨w.heap.size, 0, none⟩ = some (.slice none 0 0) := (hb1.cell (p := ⟨w.heap.size, 0, none⟩) (by simp; omega)).trans (by go_simp)
  have k1 : w1.cell? ⟨w.heap.size, 1, none⟩ = some (.slice none 0 0) := (hb1.cell (p := ⟨w.heap.size, 1, none⟩) (by simp; omega)).trans (by go_simp)
  have f0 : w1.frozen? ⟨w.heap.size, 0, none⟩ = false := (hb1.frozen (p := ⟨w.heap.size, 0, none⟩) (by simp; omega)).trans (by go_simp)
  have f1 : w1.frozen? ⟨w.heap.size, 1, none⟩ = false := (hb1.frozen (p := ⟨w.heap.size, 1, none⟩) (by simp; omega)).trans (by go_simp)
  have HB1 := Lib.hid (HB.out.trans (hb1.mono (by simp; omega))); have HU := Lib.hid hu'; have HV := Lib.hid hv'
  clear hu' hv' hq
  have hlen : (0 : Int) < ([p].length : Int) := by simp
  go_wp2
  refine bodyPost_ret (v := .tuple #[.agg #[.slice A1 p.1.length r1, .slice A2 p.2.length r2], .bool true]) (by simp [results, Tryd.results44, go_sem, k0, k1]) rfl ⟨_, rfl, ⟨_, _, rfl, ?_, ?_⟩, ?_⟩
  · refine HU.out.move goodByte ((Moves.set (p := ⟨w.heap.size, 0, none⟩) _ ?_).trans (by simp) ((Moves.set (p := ⟨w.heap.size, 1, none⟩) _ ?_).trans (by simp) (Moves.weaken ?_))) <;> (intro k hk; simp at hk; simp; omega)
  · refine HV.out.move goodByte ((Moves.set (p := ⟨w.heap.size, 0, none⟩) _ ?_).trans (by simp) ((Moves.set (p := ⟨w.heap.size, 1, none⟩) _ ?_).trans (by simp) (Moves.weaken ?_))) <;> (intro k hk; simp at hk; simp; omega)
  · exact (HB1.out.setCell (by simp) _).setCell (by simp) _

/-- what Pair tells of any node -/
theorem pair_any {ok : Nat → Prop} {v : Value} {n : Option Bw.N} {w : World} (h : ONodeAt nt ok w v n) (hp : ∀ hh p, n = some (.leaf hh p) → p.1.length ≤ 1048576 ∧ p.2.length ≤ 1048576) :
    Calls Tryd.prog 44 #[v] w (Gives w fun r w' => PairTold (fun k => w.heap.size < k) w' r n) := by
  cases n with
  | none =>
    simp only [ONodeAt] at h
    subst h
    exact (pair_none w).mono fun e w' h => ⟨_, h.1, rfl, h.2⟩
  | some n =>
    cases n with
    | leaf hh p => exact pair_leaf h (hp hh p rfl).1 (hp hh p rfl).2
    | bucket hh t =>
      simp only [ONodeAt, NodeAt] at h
      obtain ⟨b, tv, rfl, _⟩ := h
      exact (pair_other b _ (.inl rfl) w).mono fun e w' h => ⟨_, h.1, rfl, h.2⟩
    | branch m kids =>
      simp only [ONodeAt, NodeAt] at h
      obtain ⟨b, _, _, _, rfl, _⟩ := h
      exact (pair_other b _ (.inr rfl) w).mono fun e w' h => ⟨_, h.1, rfl, h.2⟩
end Go.Proofs.YtehkjnmnbplcoaaDoor
