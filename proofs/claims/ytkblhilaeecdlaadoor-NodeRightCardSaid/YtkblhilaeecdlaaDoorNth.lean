
import Derived.RangeFuncFrom
import Derived.Deep.RegionHeld
import Derived.Test.YtkblhilaeecdlaaDoorAll
namespace Go.Proofs.YtkblhilaeecdlaaDoor
open Go.RowKit Go.Bw Go.Shelf
attribute [local go_sem] Oper.semAt_some

theorem cell_boxL {W : World} {B : Nat} {v : Value} {t : TypeId} (h : W.heap[B]? = some (.cells #[v] t (0, 0))) : W.cell? ⟨B, 0, none⟩ = some v ∧ W.frozen? ⟨B, 0, none⟩ = false := by
  constructor <;> simp [World.cell?, World.frozen?, h]
theorem cell_newL (W : World) (v : Value) (t : TypeId) : (W.alloc (.cells #[v] t)).cell? ⟨W.heap.size, 0, none⟩ = some v ∧ (W.alloc (.cells #[v] t)).frozen? ⟨W.heap.size, 0, none⟩ = false :=
  cell_boxL (World.alloc_heap_new W _)
theorem cell_allocL {W : World} {a : Addr} {v : Value} (o : Obj) (h : W.cell? a = some v) : (W.alloc o).cell? a = some v := cell_kept h (World.grownBy_alloc W o none) (fun r e => by cases e)
theorem frozen_allocL {W : World} {a : Addr} {v : Value} (o : Obj) (h : W.cell? a = some v) (hf : W.frozen? a = false) : (W.alloc o).frozen? a = false := (frozen_kept h (World.grownBy_alloc W o none) (fun r e => by cases e)).trans hf

/-- what the loop of Nth keeps: k in its cell, less what has come -/
def NthI (w : World) (k : Nat) (pre : List Nat) (W : World) : Prop :=
  pre.length ≤ k ∧ W.cell? ⟨w.heap.size, 0, none⟩ = some (.int .i64 ((k - pre.length : Nat) : Int)) ∧ W.frozen? ⟨w.heap.size, 0, none⟩ = false ∧
  W.cell? ⟨w.heap.size + 1, 0, none⟩ = some (.int .i64 0) ∧ W.frozen? ⟨w.heap.size + 1, 0, none⟩ = false ∧ W.cell? ⟨w.heap.size + 2, 0, none⟩ = some (.bool false) ∧ W.frozen? ⟨w.heap.size + 2, 0, none⟩ = false
def NthX (w : World) (k : Nat) (c : Code) (pre : List Nat) (W : World) : Prop :=
  c = .ret ∧ ∃ pre' x, pre = pre' ++ [x] ∧ pre'.length = k ∧ W.cell? ⟨w.heap.size + 1, 0, none⟩ = some (.int .i64 (x : Nat)) ∧ W.cell? ⟨w.heap.size + 2, 0, none⟩ = some (.bool true)

set_option maxRecDepth 100000 in
set_option maxHeartbeats 2000000 in
theorem nth_any (m k x : Nat) (hm : m < 4294967296) (hx : (Bw.bitsOf m)[k]? = some x) (w : World) (hT : Tab w) :
    Calls Tryd.prog 21 #[.int .u32 (m : Nat), .int .i64 (k : Nat)] w fun e w' => e = .returned (.tuple #[.int .i64 (x : Nat), .bool true]) ∧ Below w.heap.size w w' := by
  refine (callsIn_wide (n := 3)).1 ?_
  have hk : k < (Bw.bitsOf m).length := (List.getElem?_eq_some_iff.1 hx).1
  have hk32 : k < 32 := by have h1 := Bw.length_bitsOf m; have h2 := Bw.ones_le 32 m; omega
  have hpos := hT.pos
  refine callsIn_of_wp_marks Tryd.func21 rfl trivial ?_ rfl
  simp only [Tryd.ntmps21, List.size_toArray, List.length_cons, List.length_nil, Nat.reduceAdd, Nat.reduceSub, Array.replicate_succ, Array.replicate_zero, List.push_toArray, List.append_toArray, List.nil_append, List.cons_append]
  gi_wp2_with (refine ⟨trivial, ?_⟩; gi_at_call 37; refine (all_in _ m _).mono ?_; rintro e w' ⟨rfl, rfl⟩)
  have c0 := cell_newL w (.int .i64 (k : Nat)) 3
  have c1 := cell_newL (w.alloc (.cells #[.int .i64 (k : Nat)] 3)) (.int .i64 0) 3
  have c2 := cell_newL ((w.alloc (.cells #[.int .i64 (k : Nat)] 3)).alloc (.cells #[.int .i64 0] 3)) (.bool false) 4
  have c3 := cell_newL (((w.alloc (.cells #[.int .i64 (k : Nat)] 3)).alloc (.cells #[.int .i64 0] 3)).alloc (.cells #[.bool false] 4)) (.int .u32 (m : Nat)) 40
  simp only [World.size_alloc] at c1 c2 c3
  have hB0 : Below w.heap.size w ((((w.alloc (.cells #[.int .i64 (k : Nat)] 3)).alloc (.cells #[.int .i64 0] 3)).alloc (.cells #[.bool false] 4)).alloc (.cells #[.int .u32 (m : Nat)] 40)) :=
    ((((Below.refl _ w).alloc (Nat.le_refl _) _).alloc (by simp) _).alloc (by simp; omega) _).alloc (by simp; omega) _
  refine wpIn_rangeFunc_ownF (w := ((((w.alloc (.cells #[.int .i64 (k : Nat)] 3)).alloc (.cells #[.int .i64 0] 3)).alloc (.cells #[.bool false] 4)).alloc (.cells #[.int .u32 (m : Nat)] 40))) rfl (by omega) (gf := 45) (lb := #[.pointer (some ⟨w.heap.size + 1 + 1 + 1, 0, none⟩)]) rfl trivial (enters_of Tryd.func45 (by kernel_rfl) rfl)
    (all_stops _ (by omega) (w.heap.size + 1 + 1 + 1) w.heap.size m hm hpos _ (by simp) c3.1 (hT.below hpos hB0)) belowK_t (belowK_b (by simp; omega)) (Below.refl _ _) (fun _ => rfl)
    (fun pre W => NthI w k pre W ∧ Below w.heap.size w W)
    (fun c pre W => NthX w k c pre W ∧ Below w.heap.size w W)
    (OwnFrom.and (Own.from (fun s A B row hs hg hr => ⟨hs.1, cell_kept hs.2.1 hg hr, (frozen_kept hs.2.1 hg hr).trans hs.2.2.1, cell_kept hs.2.2.2.1 hg hr, (frozen_kept hs.2.2.2.1 hg hr).trans hs.2.2.2.2.1, cell_kept hs.2.2.2.2.2.1 hg hr, (frozen_kept hs.2.2.2.2.2.1 hg hr).trans hs.2.2.2.2.2.2⟩) _) (ownFrom_below (Nat.le_refl _) (by simp; omega)))
    (fun c => OwnFrom.and (Own.from (fun s A B row hs hg hr => by
      obtain ⟨h1, p, y, h2, h3, h4, h5⟩ := hs
      exact ⟨h1, p, y, h2, h3, cell_kept h4 hg hr, cell_kept h5 hg hr⟩) _) (ownFrom_below (Nat.le_refl _) (by simp; omega)))
    ⟨⟨Nat.zero_le _, cell_allocL _ (cell_allocL _ (cell_allocL _ c0.1)), frozen_allocL _ (cell_allocL _ (cell_allocL _ c0.1)) (frozen_allocL _ (cell_allocL _ c0.1) (frozen_allocL _ c0.1 c0.2)), cell_allocL _ (cell_allocL _ c1.1), frozen_allocL _ (cell_allocL _ c1.1) (frozen_allocL _ c1.1 c1.2), cell_allocL _ c2.1, frozen_allocL _ c2.1 c2.2⟩, hB0⟩
    (fun y => { tmps := #[.int .u32 (m : Nat), .int .i64 (k : Nat), undef, .pointer (some ⟨w.heap.size, 0, none⟩), .pointer (some ⟨w.heap.size + 1, 0, none⟩), .pointer (some ⟨w.heap.size + 1 + 1, 0, none⟩), .int .i64 (y : Nat), .int .u32 (m : Nat), .func (.func 45) #[] #[.pointer (some ⟨w.heap.size + 1 + 1 + 1, 0, none⟩)], .int .i64 (y : Nat), undef, undef, undef, undef, undef], defers := [] }) ?assign ?body ?done ?stop
  case assign =>
    intro l x W K hK
    gi_wp2
    exact hK
  case body =>
    rintro l pre y W ⟨⟨hle, hck, hfk, hcr, hfr, hcb, hfb⟩, hB⟩ _
    by_cases hz : pre.length = k
    · have h0 : k - pre.length = 0 := by omega
      rw [h0] at hck
      have hck : W.cell? ⟨w.heap.size, 0, none⟩ = some (.int .i64 0) := hck
      gi_wp2
      exact ⟨(KeepsOthers.setCell _ _ _).trans (KeepsOthers.setCell _ _ _), ⟨rfl, pre, y, rfl, hz,
        (World.cell?_setCell_far _ _ _ _ (by simp)).trans (World.cell?_setCell_same' _ _ _ (by rw [hcr]; rfl)),
        World.cell?_setCell_same' _ _ _ (by rw [World.cell?_setCell_far _ _ _ _ (by simp), hcb]; rfl)⟩,
        (hB.setCell (p := ⟨w.heap.size + 1, 0, none⟩) (by simp) _).setCell (p := ⟨w.heap.size + 1 + 1, 0, none⟩) (by simp; omega) _⟩
    · have hne : (((k - pre.length : Nat) : Int) == 0) = false := by rw [beq_eq_false_iff_ne]; omega
      gi_wp2
      have hs : ((k - pre.length : Nat) : Int) - 1 = ((k - (pre ++ [y]).length : Nat) : Int) := by simp; omega
      rw [hs]
      exact ⟨KeepsOthers.setCell _ _ _, (Below.refl w.heap.size W).setCell (p := ⟨w.heap.size, 0, none⟩) (Nat.le_refl _) _,
        ⟨by simp; omega, World.cell?_setCell_same' _ _ _ (by rw [hck]; rfl), by rw [World.frozen?_setCell]; exact hfk,
         (World.cell?_setCell_far _ _ _ _ (by simp)).trans hcr, by rw [World.frozen?_setCell]; exact hfr,
         (World.cell?_setCell_far _ _ _ _ (by simp)).trans hcb, by rw [World.frozen?_setCell]; exact hfb⟩,
        hB.setCell (p := ⟨w.heap.size, 0, none⟩) (Nat.le_refl _) _⟩
  case done =>
    rintro D ys W hD rfl ⟨⟨hle, _⟩, _⟩ _
    omega
  case stop =>
    rintro D c pre W hD hpre ⟨⟨rfl, pre', y, rfl, hlen, hcr, hcb⟩, hB⟩ hK
    gi_wp2
    refine ⟨by simp, .inl ⟨_, _, rfl, run_takeDeferred hK, ?_⟩⟩
    have k1 := cell_kept hcr (grownBy_putObj' _ D (.deferred none)) (fun r e => by cases e; exact ⟨_, hK, rfl⟩)
    have k2 := cell_kept hcb (grownBy_putObj' _ D (.deferred none)) (fun r e => by cases e; exact ⟨_, hK, rfl⟩)
    have hy : y = x := by
      have h1 := hpre.getElem (i := k) (by simp; omega)
      obtain ⟨h2, h3⟩ := List.getElem?_eq_some_iff.1 hx
      rw [← h3, ← h1, List.getElem_append_right (by omega)]
      simp
    subst hy
    refine ⟨.tuple #[.int .i64 (y : Nat), .bool true], ?_, rfl, hB.trans (belowK_b (w := w) (Nat.le_refl _) W D _ _ (by simp at hD; omega) hK rfl rfl)⟩
    simp [results, Tryd.results21, go_sem, k1, k2]
end Go.Proofs.YtkblhilaeecdlaaDoor
