
import Derived.Test.YtadaoceidkagfaaGreatDoorBits1
import Derived.Shelf.Abstract
import Derived.RangeFuncNested
import Derived.Laws.NewBlocks
import Derived.Lib.SmallJoins
namespace Go.Proofs.YtadaoceidkagfaaGreatDoor
open Go.RowKit Go.Bw
def wayA (h k : Nat) : Array Value := ((List.range 13).map fun j => if j < k then Value.int .i64 (Bw.chunkAt h j : Nat) else Value.int .i64 0).toArray
def wayV (h : Nat) : Value := .agg (wayA h 13)
theorem wayA_succ (h k : Nat) : (wayA h k).setIfInBounds k (.int .i64 (Bw.chunkAt h k : Nat)) = wayA h (k + 1) := by
  apply Array.ext
  · simp [wayA]
  · intro i h1 h2
    simp only [wayA, List.setIfInBounds_toArray, List.getElem_toArray, List.getElem_set, List.getElem_map, List.getElem_range]
    by_cases hi : k = i
    · subst hi; simp
    · by_cases hlt : i < k
      · simp [hi, hlt, show i < k + 1 by omega]
      · simp [hi, hlt, show ¬ i < k + 1 by omega]
def WayRel (h : Nat) (w : World) (hv i : Value) (wr : World) : Prop :=
  ∃ k : Nat, k <= 13 /\ i = .int .i64 (k : Nat) /\ hv = .int .u64 ((h / 32 ^ k : Nat) : Int) /\ wr = (w.alloc (.cells (wayA h 0) 142)).alloc (.cells (wayA h k) 142)
set_option maxRecDepth 100000 in
set_option maxHeartbeats 400000 in
theorem way_any (h : Nat) (hh : h < 18446744073709551616) (w : World) :
    Calls Tryz.prog 67 #[.int .u64 (h : Nat)] w fun e w' => e = .returned (wayV h) /\ Below w.heap.size w w' := by
  have H0 : Hid (WayRel h w (.int .u64 (h : Nat)) (.int .i64 0) ((w.alloc (.cells (wayA h 0) 142)).alloc (.cells (wayA h 0) 142))) := Lib.hid ⟨0, Nat.zero_le _, rfl, by simp, rfl⟩
  go_enter Tryz.func67, Tryz.ntmps67
  go_wp2_with fail
  go_loopw [0, 4] (WayRel h w) (fun _ i _ => 13 - (intOf i).toNat)
  case atStart => exact H0.out
  case round =>
    obtain ⟨k, hk, rfl, rfl, hwr⟩ := hrel
    have hsz : wr.heap.size = w.heap.size + 2 := by rw [hwr]; simp
    have hblk : wr.heap[w.heap.size + 1]? = some (.cells (wayA h k) 142 (0, 0)) := by rw [hwr]; have := World.alloc_heap_new (w.alloc (.cells (wayA h 0) 142)) (.cells (wayA h k) 142); rwa [World.size_alloc] at this
    by_cases hlt : k < 13
    · have h0 : (0 : Int) <= (k : Int) := by omega
      have h1 : (k : Int) < 13 := by omega
      have hc : wr.cell? ⟨w.heap.size + 1, k, none⟩ = some (.int .i64 0) := by
        simp only [World.cell?, hblk]
        simp [wayA, hlt]
      have hf : wr.frozen? ⟨w.heap.size + 1, k, none⟩ = false := by simp [World.frozen?, hblk]
      have hz : h / 32 ^ k < 18446744073709551616 := Nat.lt_of_le_of_lt (Nat.div_le_self _ _) hh
      have e1 : h / 32 ^ k % 32 = Bw.chunkAt h k := rfl
      have e2 : h / 32 ^ (k + 1) = h / 32 ^ k / 32 := by rw [Nat.pow_succ, Nat.div_div_eq_div_mul]
      have hws := wayA_succ h k
      have HW := Lib.hid hwr
      clear hblk hwr
      have E1 := Lib.hid e1
      have E2 := Lib.hid e2
      have HWS := Lib.hid hws
      clear e1 e2 hws
      generalize h / 32 ^ k = z at *
      go_wp2
      refine ⟨⟨k + 1, hlt, rfl, by rw [E2.out]; rfl, ?_⟩, by simp only [intOf]; omega⟩
      have e3 : ((z : Int) % 32) = ((Bw.chunkAt h k : Nat) : Int) := by rw [<- E1.out]; rfl
      rw [HW.out, e3, <- HWS.out]
      have := World.setCell_alloc_new (w := w.alloc (.cells (wayA h 0) 142)) (wayA h k) 142 k (.int .i64 (Bw.chunkAt h k : Nat))
      rw [World.size_alloc] at this
      rw [this]
    · obtain rfl : k = 13 := by omega
      have hblk2 : wr.heap[w.heap.size]? = some (.cells (wayA h 0) 142 (0, 0)) := by
        rw [hwr]
        exact (Below.heap_alloc _ _ _ (by simp)).trans (World.alloc_heap_new w _)
      have c0 : wr.cell? ⟨w.heap.size + 1, 0, none⟩ = some (.int .i64 (Bw.chunkAt h 0 : Nat)) := by simp only [World.cell?, hblk]; rfl
      have c1 : wr.cell? ⟨w.heap.size + 1, 1, none⟩ = some (.int .i64 (Bw.chunkAt h 1 : Nat)) := by simp only [World.cell?, hblk]; rfl
      have c2 : wr.cell? ⟨w.heap.size + 1, 2, none⟩ = some (.int .i64 (Bw.chunkAt h 2 : Nat)) := by simp only [World.cell?, hblk]; rfl
      have c3 : wr.cell? ⟨w.heap.size + 1, 3, none⟩ = some (.int .i64 (Bw.chunkAt h 3 : Nat)) := by simp only [World.cell?, hblk]; rfl
      have c4 : wr.cell? ⟨w.heap.size + 1, 4, none⟩ = some (.int .i64 (Bw.chunkAt h 4 : Nat)) := by simp only [World.cell?, hblk]; rfl
      have c5 : wr.cell? ⟨w.heap.size + 1, 5, none⟩ = some (.int .i64 (Bw.chunkAt h 5 : Nat)) := by simp only [World.cell?, hblk]; rfl
      have c6 : wr.cell? ⟨w.heap.size + 1, 6, none⟩ = some (.int .i64 (Bw.chunkAt h 6 : Nat)) := by simp only [World.cell?, hblk]; rfl
      have c7 : wr.cell? ⟨w.heap.size + 1, 7, none⟩ = some (.int .i64 (Bw.chunkAt h 7 : Nat)) := by simp only [World.cell?, hblk]; rfl
      have c8 : wr.cell? ⟨w.heap.size + 1, 8, none⟩ = some (.int .i64 (Bw.chunkAt h 8 : Nat)) := by simp only [World.cell?, hblk]; rfl
      have c9 : wr.cell? ⟨w.heap.size + 1, 9, none⟩ = some (.int .i64 (Bw.chunkAt h 9 : Nat)) := by simp only [World.cell?, hblk]; rfl
      have c10 : wr.cell? ⟨w.heap.size + 1, 10, none⟩ = some (.int .i64 (Bw.chunkAt h 10 : Nat)) := by simp only [World.cell?, hblk]; rfl
      have c11 : wr.cell? ⟨w.heap.size + 1, 11, none⟩ = some (.int .i64 (Bw.chunkAt h 11 : Nat)) := by simp only [World.cell?, hblk]; rfl
      have c12 : wr.cell? ⟨w.heap.size + 1, 12, none⟩ = some (.int .i64 (Bw.chunkAt h 12 : Nat)) := by simp only [World.cell?, hblk]; rfl
      have d0 : wr.cell? ⟨w.heap.size, 0, none⟩ = some (.int .i64 0) := by simp only [World.cell?, hblk2]; rfl
      have d1 : wr.cell? ⟨w.heap.size, 1, none⟩ = some (.int .i64 0) := by simp only [World.cell?, hblk2]; rfl
      have d2 : wr.cell? ⟨w.heap.size, 2, none⟩ = some (.int .i64 0) := by simp only [World.cell?, hblk2]; rfl
      have d3 : wr.cell? ⟨w.heap.size, 3, none⟩ = some (.int .i64 0) := by simp only [World.cell?, hblk2]; rfl
      have d4 : wr.cell? ⟨w.heap.size, 4, none⟩ = some (.int .i64 0) := by simp only [World.cell?, hblk2]; rfl
      have d5 : wr.cell? ⟨w.heap.size, 5, none⟩ = some (.int .i64 0) := by simp only [World.cell?, hblk2]; rfl
      have d6 : wr.cell? ⟨w.heap.size, 6, none⟩ = some (.int .i64 0) := by simp only [World.cell?, hblk2]; rfl
      have d7 : wr.cell? ⟨w.heap.size, 7, none⟩ = some (.int .i64 0) := by simp only [World.cell?, hblk2]; rfl
      have d8 : wr.cell? ⟨w.heap.size, 8, none⟩ = some (.int .i64 0) := by simp only [World.cell?, hblk2]; rfl
      have d9 : wr.cell? ⟨w.heap.size, 9, none⟩ = some (.int .i64 0) := by simp only [World.cell?, hblk2]; rfl
      have d10 : wr.cell? ⟨w.heap.size, 10, none⟩ = some (.int .i64 0) := by simp only [World.cell?, hblk2]; rfl
      have d11 : wr.cell? ⟨w.heap.size, 11, none⟩ = some (.int .i64 0) := by simp only [World.cell?, hblk2]; rfl
      have d12 : wr.cell? ⟨w.heap.size, 12, none⟩ = some (.int .i64 0) := by simp only [World.cell?, hblk2]; rfl
      have hf : ∀ j, wr.frozen? ⟨w.heap.size, j, none⟩ = false := fun j => by simp [World.frozen?, hblk2]
      have hB : Below w.heap.size w wr := by rw [hwr]; exact gB2
      have HBL := Lib.hid hblk2
      have HB := Lib.hid hB
      clear hblk hblk2 hwr H0 hB
      go_wp2
      have b13 := Joins.block_setCell (Joins.block_setCell (Joins.block_setCell (Joins.block_setCell (Joins.block_setCell (Joins.block_setCell (Joins.block_setCell (Joins.block_setCell (Joins.block_setCell (Joins.block_setCell (Joins.block_setCell (Joins.block_setCell (Joins.block_setCell (HBL.out) (i := 0) (Value.int .i64 (Bw.chunkAt h 0 : Nat))) (i := 1) (Value.int .i64 (Bw.chunkAt h 1 : Nat))) (i := 2) (Value.int .i64 (Bw.chunkAt h 2 : Nat))) (i := 3) (Value.int .i64 (Bw.chunkAt h 3 : Nat))) (i := 4) (Value.int .i64 (Bw.chunkAt h 4 : Nat))) (i := 5) (Value.int .i64 (Bw.chunkAt h 5 : Nat))) (i := 6) (Value.int .i64 (Bw.chunkAt h 6 : Nat))) (i := 7) (Value.int .i64 (Bw.chunkAt h 7 : Nat))) (i := 8) (Value.int .i64 (Bw.chunkAt h 8 : Nat))) (i := 9) (Value.int .i64 (Bw.chunkAt h 9 : Nat))) (i := 10) (Value.int .i64 (Bw.chunkAt h 10 : Nat))) (i := 11) (Value.int .i64 (Bw.chunkAt h 11 : Nat))) (i := 12) (Value.int .i64 (Bw.chunkAt h 12 : Nat))
      rw [wayA_succ h 0, wayA_succ h 1, wayA_succ h 2, wayA_succ h 3, wayA_succ h 4, wayA_succ h 5, wayA_succ h 6, wayA_succ h 7, wayA_succ h 8, wayA_succ h 9, wayA_succ h 10, wayA_succ h 11, wayA_succ h 12] at b13
      have hB13 := (Below.setCell (Below.setCell (Below.setCell (Below.setCell (Below.setCell (Below.setCell (Below.setCell (Below.setCell (Below.setCell (Below.setCell (Below.setCell (Below.setCell (Below.setCell HB.out (p := ⟨w.heap.size, 0, none⟩) (Nat.le_refl _) (Value.int .i64 (Bw.chunkAt h 0 : Nat))) (p := ⟨w.heap.size, 1, none⟩) (Nat.le_refl _) (Value.int .i64 (Bw.chunkAt h 1 : Nat))) (p := ⟨w.heap.size, 2, none⟩) (Nat.le_refl _) (Value.int .i64 (Bw.chunkAt h 2 : Nat))) (p := ⟨w.heap.size, 3, none⟩) (Nat.le_refl _) (Value.int .i64 (Bw.chunkAt h 3 : Nat))) (p := ⟨w.heap.size, 4, none⟩) (Nat.le_refl _) (Value.int .i64 (Bw.chunkAt h 4 : Nat))) (p := ⟨w.heap.size, 5, none⟩) (Nat.le_refl _) (Value.int .i64 (Bw.chunkAt h 5 : Nat))) (p := ⟨w.heap.size, 6, none⟩) (Nat.le_refl _) (Value.int .i64 (Bw.chunkAt h 6 : Nat))) (p := ⟨w.heap.size, 7, none⟩) (Nat.le_refl _) (Value.int .i64 (Bw.chunkAt h 7 : Nat))) (p := ⟨w.heap.size, 8, none⟩) (Nat.le_refl _) (Value.int .i64 (Bw.chunkAt h 8 : Nat))) (p := ⟨w.heap.size, 9, none⟩) (Nat.le_refl _) (Value.int .i64 (Bw.chunkAt h 9 : Nat))) (p := ⟨w.heap.size, 10, none⟩) (Nat.le_refl _) (Value.int .i64 (Bw.chunkAt h 10 : Nat))) (p := ⟨w.heap.size, 11, none⟩) (Nat.le_refl _) (Value.int .i64 (Bw.chunkAt h 11 : Nat))) (p := ⟨w.heap.size, 12, none⟩) (Nat.le_refl _) (Value.int .i64 (Bw.chunkAt h 12 : Nat)))
      generalize (((((((((((((wr.setCell ⟨w.heap.size, 0, none⟩ (Value.int .i64 (Bw.chunkAt h 0 : Nat))).setCell ⟨w.heap.size, 1, none⟩ (Value.int .i64 (Bw.chunkAt h 1 : Nat))).setCell ⟨w.heap.size, 2, none⟩ (Value.int .i64 (Bw.chunkAt h 2 : Nat))).setCell ⟨w.heap.size, 3, none⟩ (Value.int .i64 (Bw.chunkAt h 3 : Nat))).setCell ⟨w.heap.size, 4, none⟩ (Value.int .i64 (Bw.chunkAt h 4 : Nat))).setCell ⟨w.heap.size, 5, none⟩ (Value.int .i64 (Bw.chunkAt h 5 : Nat))).setCell ⟨w.heap.size, 6, none⟩ (Value.int .i64 (Bw.chunkAt h 6 : Nat))).setCell ⟨w.heap.size, 7, none⟩ (Value.int .i64 (Bw.chunkAt h 7 : Nat))).setCell ⟨w.heap.size, 8, none⟩ (Value.int .i64 (Bw.chunkAt h 8 : Nat))).setCell ⟨w.heap.size, 9, none⟩ (Value.int .i64 (Bw.chunkAt h 9 : Nat))).setCell ⟨w.heap.size, 10, none⟩ (Value.int .i64 (Bw.chunkAt h 10 : Nat))).setCell ⟨w.heap.size, 11, none⟩ (Value.int .i64 (Bw.chunkAt h 11 : Nat))).setCell ⟨w.heap.size, 12, none⟩ (Value.int .i64 (Bw.chunkAt h 12 : Nat))) = WF at b13 hB13 ⊢
      have k0 : WF.cell? ⟨w.heap.size, 0, none⟩ = some (.int .i64 (Bw.chunkAt h 0 : Nat)) := by simp only [World.cell?, b13]; rfl
      have k1 : WF.cell? ⟨w.heap.size, 1, none⟩ = some (.int .i64 (Bw.chunkAt h 1 : Nat)) := by simp only [World.cell?, b13]; rfl
      have k2 : WF.cell? ⟨w.heap.size, 2, none⟩ = some (.int .i64 (Bw.chunkAt h 2 : Nat)) := by simp only [World.cell?, b13]; rfl
      have k3 : WF.cell? ⟨w.heap.size, 3, none⟩ = some (.int .i64 (Bw.chunkAt h 3 : Nat)) := by simp only [World.cell?, b13]; rfl
      have k4 : WF.cell? ⟨w.heap.size, 4, none⟩ = some (.int .i64 (Bw.chunkAt h 4 : Nat)) := by simp only [World.cell?, b13]; rfl
      have k5 : WF.cell? ⟨w.heap.size, 5, none⟩ = some (.int .i64 (Bw.chunkAt h 5 : Nat)) := by simp only [World.cell?, b13]; rfl
      have k6 : WF.cell? ⟨w.heap.size, 6, none⟩ = some (.int .i64 (Bw.chunkAt h 6 : Nat)) := by simp only [World.cell?, b13]; rfl
      have k7 : WF.cell? ⟨w.heap.size, 7, none⟩ = some (.int .i64 (Bw.chunkAt h 7 : Nat)) := by simp only [World.cell?, b13]; rfl
      have k8 : WF.cell? ⟨w.heap.size, 8, none⟩ = some (.int .i64 (Bw.chunkAt h 8 : Nat)) := by simp only [World.cell?, b13]; rfl
      have k9 : WF.cell? ⟨w.heap.size, 9, none⟩ = some (.int .i64 (Bw.chunkAt h 9 : Nat)) := by simp only [World.cell?, b13]; rfl
      have k10 : WF.cell? ⟨w.heap.size, 10, none⟩ = some (.int .i64 (Bw.chunkAt h 10 : Nat)) := by simp only [World.cell?, b13]; rfl
      have k11 : WF.cell? ⟨w.heap.size, 11, none⟩ = some (.int .i64 (Bw.chunkAt h 11 : Nat)) := by simp only [World.cell?, b13]; rfl
      have k12 : WF.cell? ⟨w.heap.size, 12, none⟩ = some (.int .i64 (Bw.chunkAt h 12 : Nat)) := by simp only [World.cell?, b13]; rfl
      exact bodyPost_ret (v := wayV h) (by simp [results, Tryz.results67, go_sem, k0, k1, k2, k3, k4, k5, k6, k7, k8, k9, k10, k11, k12, wayV, wayA]) rfl ⟨rfl, hB13⟩
end Go.Proofs.YtadaoceidkagfaaGreatDoor
