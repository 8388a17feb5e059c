
import Derived.Test.YtadaoceidkagfaaGreatDoorTreeA
namespace Go.Proofs.YtadaoceidkagfaaGreatDoor
open Go.RowKit Go.Bw
theorem infoP : (Tryz.prog.info? 62).map (fun i => (i.zero, i.size, i.bytes)) = some (some (.agg #[.slice none 0 0, .slice none 0 0]), 2, 48) := by kernel_rfl
def OwnRel (l : List Bw.PV) (w : World) (v i : Value) (wr : World) : Prop :=
  ∃ k : Nat, k <= l.length /\ i = .int .i64 k /\ OwnAt 62 2 pairO (fun k => w.heap.size <= k) wr w.heap.size v (l.take k) /\ Below w.heap.size w wr /\ (k = 0 -> v = .slice (some ⟨w.heap.size, 0, none⟩) 0 l.length)
set_option maxRecDepth 100000 in
set_option maxHeartbeats 1000000 in
theorem pownO_any {ok : Nat -> Prop} {l : List Bw.PV} {v : Value} {w : World} (hl : l.length <= 1048576) (hp : ∀ p ∈ l, p.1.length <= 1048576 /\ p.2.length <= 1048576) (hr : PairsAt ok w v l) :
    Calls Tryz.prog 49 #[v] w (Gives w fun q w' => ∃ g cap, q = .slice (some ⟨g, 0, none⟩) l.length cap /\ OwnAt 62 2 pairO (fun k => w.heap.size <= k) w' w.heap.size q l) := by
  obtain ⟨A, c, rfl⟩ := hr.form
  obtain ⟨i0, hi, hz0, hz1, hz2⟩ := info_parts infoP
  obtain ⟨W1, hmk, hW1, hg1⟩ := run_make_own (P := Tryz.prog) w w.heap.size 40 62 i0 _ 2 Tryz.underlying40 hi hz0 hz1 .i64 .i64 l.length (by rw [hz2]; omega) (by unfold maxLen; omega) (Nat.le_refl _)
  have H0 : Hid (OwnRel l w (.slice (some ⟨w.heap.size, 0, none⟩) 0 l.length) (.int .i64 0) W1) :=
    Lib.hid ⟨0, Nat.zero_le _, rfl, ⟨fun k hk => by cases hk; exact Nat.le_refl _, [], hW1, Reps.nil _ _⟩, (Below.refl _ _).grown hg1 (Nat.le_refl _) (fun k h => by cases h), fun _ => rfl⟩
  have HR := Lib.hid hr; have HL := Lib.hid hl; have HP := Lib.hid hp
  have HI := Lib.hid hi; have HZ0 := Lib.hid hz0; have HZ1 := Lib.hid hz1; have HZ2 := Lib.hid hz2
  clear hr hl hp hi hz0 hz1 hz2 hW1 hg1
  go_enter Tryz.func49, Tryz.ntmps49
  go_wp2_with fail
  go_loopw [3, 11] (OwnRel l w) (fun _ i _ => l.length - (intOf i).toNat)
  case atStart => exact H0.out
  case round =>
    obtain ⟨k, hk, rfl, hown, hB, hz⟩ := hrel
    rename_i u3 _
    have HZ := Lib.hid hz
    clear hz
    by_cases hlt : k < l.length
    · obtain ⟨b, o, u1, u2, rfl, hob, c0, c1, hu, hv⟩ := pair_get HR.out (List.getElem?_eq_getElem hlt)
      obtain ⟨U1, cu1, rfl⟩ := hu.form
      obtain ⟨U2, cu2, rfl⟩ := hv.form
      have hbl := World.block_lt_of_cell? w _ c0
      dsimp only at hbl
      have d0 := (hB.cell (p := ⟨b, o + k * 2, none⟩) hbl).trans c0
      have d1 := (hB.cell (p := ⟨b, o + k * 2 + 1, none⟩) hbl).trans c1
      have hbl2 : b < wr.heap.size := Nat.lt_of_lt_of_le hbl hB.size
      have h0 : (0 : Int) <= (k : Int) := by omega
      have h1 : (k : Int) < (l.length : Int) := by omega
      have hmem := HP.out l[k] (List.getElem_mem hlt)
      have CU := Lib.hid (cloneO_at (wr.heap.size + 1) hu hmem.1)
      have CV := Lib.hid (cloneO_at (wr.heap.size + 1) hv hmem.2)
      have HOWN := Lib.hid hown
      clear hu hv hmem hown
      go_wp2_with fail
      go_region_held3 (fun w' => w'.cell? ⟨wr.heap.size, 0, none⟩ = some (.slice U1 l[k].1.length cu1) /\ w'.cell? ⟨wr.heap.size, 1, none⟩ = some (.slice U2 l[k].2.length cu2))
        (first
          | (exact ⟨hS3a, hS3b⟩)
          | (exact ⟨hS2a, hS2b⟩)
          | (exact ⟨hS1a, hS1b⟩)
          | go_keep)
        ((first
          | (go_at_call 84; first
              | ((with_reducible refine (CU.out _ (by exact hB.trans (Below.mono (by exact gB1) hB.size)) (by simp)).mono ?_); rintro e w1 ⟨r1, rfl, hr1, hb1⟩; obtain ⟨A1, c1', rfl⟩ := (hr1.row goodByte).form; have hS1a : w1.cell? ⟨wr.heap.size, 0, none⟩ = some (.slice U1 l[k].1.length cu1) := (hb1.cell (p := ⟨wr.heap.size, 0, none⟩) (by simp)).trans (by go_simp); have hS1b : w1.cell? ⟨wr.heap.size, 1, none⟩ = some (.slice U2 l[k].2.length cu2) := (hb1.cell (p := ⟨wr.heap.size, 1, none⟩) (by simp)).trans (by go_simp); have hw1 : Below wr.heap.size wr w1 := Below.trans (b := (wr.alloc (.cells #[.slice U1 l[k].1.length cu1, .slice U2 l[k].2.length cu2] 62)).drew) (by exact gB1) (hb1.mono (by simp)); have hB1 : Below w.heap.size w w1 := hB.trans (hw1.mono hB.size); have hz1 : wr.heap.size + 1 <= w1.heap.size := (by have := hb1.size; simp at this; omega))
              | ((with_reducible refine (CV.out _ hB1 hz1).mono ?_); rintro e w2 ⟨r2, rfl, hr2, hb2⟩; obtain ⟨A2, c2', rfl⟩ := (hr2.row goodByte).form; have hS2a : w2.cell? ⟨wr.heap.size, 0, none⟩ = some (.slice U1 l[k].1.length cu1) := (hb2.cell (p := ⟨wr.heap.size, 0, none⟩) hz1).trans hS1a; have hS2b : w2.cell? ⟨wr.heap.size, 1, none⟩ = some (.slice U2 l[k].2.length cu2) := (hb2.cell (p := ⟨wr.heap.size, 1, none⟩) hz1).trans hS1b; have hw2 : Below wr.heap.size wr w2 := hw1.trans (hb2.mono hw1.size); have hB2 : Below w.heap.size w w2 := hB.trans (hw2.mono hB.size)))
          | (refine st_app1 goodPairO rfl (.tmp 15) (.tmp 23) 40 rfl w.heap.size 62 i0 _ 48 Tryz.underlying40 HI.out HZ0.out HZ1.out HZ2.out rfl (by decide) _ (l.take k) rfl (HOWN.out.move goodPairO (Moves.below hw2)) l[k] #[.slice A1 l[k].1.length c1', .slice A2 l[k].2.length c2'] 62 rfl (pairO_mk (hr1.move goodByte (HOWN.out.aside (Nat.le_succ _) (fun k hk => by have := hB.size; omega) hb2)) (hr2.move goodByte (HOWN.out.aside (Nat.le_succ _) (fun k hk => by have := hB.size; omega) (Below.refl _ _)))) (fun k hk => Nat.le_trans hB2.size hk) (by have := HL.out; simp; omega) (by decide) hB2.size ?_; intro v3 w3 hown3 hb3 hat3 hg3; have hne : some wr.heap.size ≠ u3.ownBlock := (fun e => Nat.lt_irrefl _ (HOWN.out.lt _ e.symm).2); have hS3a : w3.cell? ⟨wr.heap.size, 0, none⟩ = some (.slice U1 l[k].1.length cu1) := hg3.cell hS2a hne; have hS3b : w3.cell? ⟨wr.heap.size, 1, none⟩ = some (.slice U2 l[k].2.length cu2) := hg3.cell hS2b hne)
          ))
      go_wp2
      exact ⟨⟨k + 1, hlt, int_succ hlt HL.out, by rw [take_succ_snoc hlt]; exact hown3, hB2.trans hb3, fun h => by omega⟩, less_succ hlt HL.out⟩
    · obtain rfl : k = l.length := by omega
      have HOWN := Lib.hid hown
      clear hown
      go_wp2
      go_ret
      have hO := HOWN.out
      rw [List.take_length] at hO
      refine ⟨_, rfl, ?_, hB⟩
      by_cases hl0 : l = []
      · subst hl0
        exact ⟨_, _, HZ.out rfl, hO⟩
      · obtain ⟨g, cap, hv⟩ := hO.block hl0
        exact ⟨g, cap, hv, hO⟩
theorem pown_any {ok : Nat -> Prop} {l : List Bw.PV} {v : Value} {w : World} (hl : l.length <= 1048576) (hp : ∀ p ∈ l, p.1.length <= 1048576 /\ p.2.length <= 1048576) (hr : PairsAt ok w v l) :
    Calls Tryz.prog 49 #[v] w (Gives w fun q w' => ∃ g cap, q = .slice (some ⟨g, 0, none⟩) l.length cap /\ OwnAt 62 2 pairK (fun k => w.heap.size <= k) w' w.heap.size q l) :=
  (pownO_any hl hp hr).mono fun _ _ ⟨q, he, ⟨g, cap, hq, hown⟩, hb⟩ => ⟨q, he, ⟨g, cap, hq, hown.kind fun _ _ _ _ => pairO_plain⟩, hb⟩
end Go.Proofs.YtadaoceidkagfaaGreatDoor
