
import Derived.Test.YtehkjnmnbplcoaaDoorFind
import Derived.Test.YtehkjnmnbplcoaaDoorAw17
import Derived.Laws.StructEq
import Derived.KernelRfl
namespace Go.Proofs.YtehkjnmnbplcoaaDoor
open Go.RowKit Go.Bw

theorem stoodMeter : Tryd.prog.stoodInHeld 84 = false := by kernel_rfl
theorem fieldsMeter : Tryd.prog.underlying 84 = some (.struct (Tryd.prog.fieldsOf 84)) := by kernel_rfl

set_option maxRecDepth 100000 in
/-- a meter is itself -/
theorem eqMeter (a b : Int) (w : World) : (Op.equalIn 10000 84 (.agg #[.int .i64 a, .int .i64 b]) (.agg #[.int .i64 a, .int .i64 b])).run Tryd.prog w = .ok true w := by
  have u3 := Tryd.underlying3
  have a3' := Tryd.isAgg3
  have z3 := Tryd.sizeOf3
  rw [show (10000 : Nat) = 9999 + 1 from rfl, run_equalIn_agg w 9999 84 _ _ fieldsMeter stoodMeter]
  simp only [Program.fieldsOf, Tryd.underlying84]
  go_simp

def exB : List Bw.En := [(5, ([107], [118]))]
theorem exB_of : Bw.ofO exB = some (.leaf 5 ([107], [118])) := by
  unfold Bw.ofO
  rw [show Bw.lasts exB = exB by decide, Bw.layO_same (g := 5) (by decide) rfl (by decide)]
  exact bucketO_one 5 _
theorem exB_ok : EnsOk exB where
  len := by decide
  bytes := by intro e he; simp only [exB, List.mem_singleton] at he; subst he; decide
  hash := by intro e he; simp only [exB, List.mem_singleton] at he; subst he; decide

set_option maxRecDepth 100000 in
set_option maxHeartbeats 1000000 in
theorem awake18_any (w : World) (hT : Tab w) :
    Calls Tryd.prog 35 #[] w fun e w' => e = .returned (.bool true) ∧ Below w.heap.size w w' := by
  have conv : ∀ (W : World) (x : Int), (convert 29 29 (.slice (some ⟨W.heap.size, 0, none⟩) 1 1)).run Tryd.prog (W.alloc (.cells #[.int .u8 x] 5)) = .ok (.slice (some ⟨W.heap.size, 0, none⟩) 1 1) (W.alloc (.cells #[.int .u8 x] 5 (1, 2))) := fun W x =>
    Lib.run_convert_bytes_const (P := Tryd.prog) W 29 5 #[.int .u8 x] 1 1 Tryd.underlying29 Tryd.underlying5
  have brow : ∀ (W : World) (x : UInt8), BytesAt (fun k => k = W.heap.size) (W.alloc (.cells #[.int .u8 (x.toNat : Nat)] 5 (1, 2))) (.slice (some ⟨W.heap.size, 0, none⟩) 1 1) [x] := fun W x =>
    RowAt.single goodByte (cs := #[.int .u8 (x.toNat : Nat)]) (t := 5) (fr := (1, 2)) rfl rfl (heap_alloc_new W _)
  obtain ⟨W1, hW1⟩ : ∃ W1, w.alloc (.cells #[.int .u8 107] 5 (1, 2)) = W1 := ⟨_, rfl⟩
  have kc := conv w 107
  rw [hW1] at kc
  have hr1 := brow w 107
  rw [show ((107 : UInt8).toNat : Int) = 107 from rfl, hW1] at hr1
  have hB1 : Below w.heap.size w W1 := by rw [← hW1]; exact (Below.refl _ _).alloc (Nat.le_refl _) _
  obtain ⟨W2, hW2⟩ : ∃ W2, W1.alloc (.cells #[.int .u8 118] 5 (1, 2)) = W2 := ⟨_, rfl⟩
  have kd := conv W1 118
  rw [hW2] at kd
  have hr2 := brow W1 118
  rw [show ((118 : UInt8).toNat : Int) = 118 from rfl, hW2] at hr2
  have hB2 : Below W1.heap.size W1 W2 := by rw [← hW2]; exact (Below.refl _ _).alloc (Nat.le_refl _) _
  obtain ⟨W3, hW3⟩ : ∃ W3, W2.alloc (.cells #[.int .u64 5, .slice (some ⟨w.heap.size, 0, none⟩) 1 1, .slice (some ⟨W1.heap.size, 0, none⟩) 1 1] 62) = W3 := ⟨_, rfl⟩
  have hB3 : Below W2.heap.size W2 W3 := by rw [← hW3]; exact (Below.refl _ _).alloc (Nat.le_refl _) _
  have hE : EntsAt AllB W3 (.slice (some ⟨W2.heap.size, 0, none⟩) 1 1) exB := by
    refine RowAt.single goodEnt (cs := #[.int .u64 5, .slice (some ⟨w.heap.size, 0, none⟩) 1 1, .slice (some ⟨W1.heap.size, 0, none⟩) 1 1]) (t := 62) (fr := (0, 0))
      (entK_mk (e := (5, ([107], [118]))) (((hr1.move (ok' := AllB) goodByte (Moves.weaken fun _ _ _ => trivial)).move (ok' := AllB) goodByte (Moves.below hB2)).move (ok' := AllB) goodByte (Moves.below hB3)) ((hr2.move (ok' := AllB) goodByte (Moves.weaken fun _ _ _ => trivial)).move (ok' := AllB) goodByte (Moves.below hB3))) trivial ?_
    rw [← hW3]
    exact heap_alloc_new W2 _
  have hB : Below w.heap.size w W3 := (hB1.trans (hB2.mono hB1.size)).trans (hB3.mono (Nat.le_trans hB1.size hB2.size))
  have CO := Lib.hid (lof_any exB_ok hE (hT.below hT.pos hB))
  rw [exB_of] at CO
  have hO := exB_ok.lays
  rw [exB_of] at hO
  have CG := Lib.hid (fun (ok ok' : Nat → Prop) (W : World) (u kv mv : Value) (c : Nat × Nat) (mb : Option Nat) (h : Nat) (h1 : NodeAt nt ok W u (.leaf 5 ([107], [118]))) (h2 : BytesAt ok' W kv [107]) (h3 : MeterAt W mv c mb) (h4 : ∀ k, ok k → some k ≠ mb) (h5 : ∀ k, ok' k → some k ≠ mb) (h6 : c.1 < 1000000000 ∧ c.2 < 1000000000) =>
    fget_any (h := h) exB_ok.lay hO h1 h2 h3 h4 h5 h6)
  simp only [Bw.wayO_leaf] at CG
  have HB := Lib.hid hB; have HW3 := Lib.hid hW3
  have HBR := Lib.hid brow; have CONV := Lib.hid conv
  clear conv
  clear hT hB1 hB2 hB3 hE hB hr1 hr2 hW1 hW2 hW3 hO brow
  go_enter Tryd.func35, Tryd.ntmps35
  go_wp2_with (rw [HW3.out])
  refine CO.out.mono ?_
  rintro e w4 ⟨q, rfl, hq, hb4⟩
  obtain ⟨tq, bq, rfl⟩ := NodeAt.form hq
  obtain ⟨W5, hW5⟩ : ∃ W5, w4.alloc (.cells #[.int .i64 0, .int .i64 0] 84) = W5 := ⟨_, rfl⟩
  have hb5 : Below w4.heap.size w4 W5 := by rw [← hW5]; exact (Below.refl _ _).alloc (Nat.le_refl _) _
  have hh5 : W5.heap[w4.heap.size]? = some (.cells #[.int .i64 0, .int .i64 0] 84 (0, 0)) := by rw [← hW5]; exact heap_alloc_new w4 _
  have hm5 : MeterAt W5 (.pointer (some ⟨w4.heap.size, 0, none⟩)) (0, 0) (some w4.heap.size) := ⟨rfl, by simp [World.cell?, hh5], by simp [World.cell?, hh5], by simp [World.frozen?, hh5], by simp [World.frozen?, hh5]⟩
  obtain ⟨W6, hW6⟩ : ∃ W6, W5.alloc (.cells #[.int .u8 107] 5 (1, 2)) = W6 := ⟨_, rfl⟩
  have ke := CONV.out W5 107
  rw [hW6] at ke
  have hr6 := HBR.out W5 107
  rw [show ((107 : UInt8).toNat : Int) = 107 from rfl, hW6] at hr6
  have hb6 : Below W5.heap.size W5 W6 := by rw [← hW6]; exact (Below.refl _ _).alloc (Nat.le_refl _) _
  have hs5 : w4.heap.size < W5.heap.size := by rw [← hW5]; simp
  have C6 := Lib.hid (CG.out (fun k => k < w4.heap.size) _ W6 _ _ _ (0, 0) (some w4.heap.size) 6 (NodeAt.move (fun k hk hl => ⟨hk, (hb5.trans (hb6.mono hb5.size)).block k hk⟩) _ _ (NodeAt.move (ok' := fun k => k < w4.heap.size) (Moves.weaken fun k _ hl => hl) _ _ hq)) hr6 (hm5.below hb6) (fun k hk e => by cases e; omega) (fun k hk e => by cases e; omega) ⟨by decide, by decide⟩)
  have HQ := Lib.hid (NodeAt.move (ok' := fun k => k < w4.heap.size) (Moves.weaken fun k _ hl => hl) _ _ hq)
  have HB4 := Lib.hid (HB.out.trans (hb4.mono HB.out.size))
  have HB5 := Lib.hid hb5; have HB6 := Lib.hid hb6
  have HW5 := Lib.hid hW5
  clear hq hb4 hb5 hb6 hr6 hW6 hW5 hm5 hh5
  go_wp2_with (rw [HW5.out])
  refine C6.out.mono ?_
  rintro e w7 ⟨u7, b7, rfl, hl7, hm7, hT7⟩
  obtain ⟨rfl, rfl⟩ : u7 = .slice none 0 0 ∧ b7 = false := by simpa [LookTold, Bw.lookEnd] using hl7
  have hm7' : MeterAt w7 (.pointer (some ⟨w4.heap.size, 0, none⟩)) (1, 0) (some w4.heap.size) := by simpa [Bw.costEnd] using hm7
  obtain ⟨W8, hW8⟩ : ∃ W8, w7.alloc (.cells #[.int .u8 107] 5 (1, 2)) = W8 := ⟨_, rfl⟩
  have kf := CONV.out w7 107
  rw [hW8] at kf
  have hr8 := HBR.out w7 107
  rw [show ((107 : UInt8).toNat : Int) = 107 from rfl, hW8] at hr8
  have hb8 : Below w7.heap.size w7 W8 := by rw [← hW8]; exact (Below.refl _ _).alloc (Nat.le_refl _) _
  have hb46 : Below w4.heap.size w4 W6 := HB5.out.trans (HB6.out.mono HB5.out.size)
  have hb48 : ∀ k, k < w4.heap.size → W8.heap[k]? = w4.heap[k]? := fun k hk => (hb8.block k (Nat.lt_of_lt_of_le hk (Nat.le_trans hb46.size hT7.size))).trans ((hT7.block k (Nat.lt_of_lt_of_le hk hb46.size) (fun e => by cases e; omega)).trans (hb46.block k hk))
  have C8 := Lib.hid (CG.out (fun k => k < w4.heap.size) _ W8 _ _ (.pointer none) (0, 0) none 5 (NodeAt.move (fun k hk _ => ⟨hk, hb48 k hk⟩) _ _ HQ.out) hr8 rfl (fun k _ e => by cases e) (fun k _ e => by cases e) ⟨by decide, by decide⟩)
  have hlo : Bw.lookEnd (some (.leaf 5 ([107], [118]))) 5 [107] = some [118] := by simp [Bw.lookEnd]
  rw [hlo] at C8
  have HM8 := Lib.hid (hm7'.below hb8)
  have hBw8 : Below w.heap.size w W8 := by
    have h1 := HB4.out.trans (hb46.mono HB4.out.size)
    have h2 : Below w.heap.size W6 w7 := ⟨hT7.os, hT7.tape, hT7.output, hT7.size, fun k hk => hT7.block k (Nat.lt_of_lt_of_le hk h1.size) (fun e => by cases e; have := HB4.out.size; omega)⟩
    exact (h1.trans h2).trans (hb8.mono (Nat.le_trans h1.size hT7.size))
  have HBW8 := Lib.hid hBw8
  clear hl7 hm7 hm7' hT7 hb8 hb46 hb48 hr8 hW8 hBw8 hlo
  go_wp2_with fail
  refine C8.out.mono ?_
  rintro e w9 ⟨u9, b9, rfl, ⟨rfl, hu9⟩, _, hT9⟩
  obtain ⟨U9, cu9, rfl⟩ := hu9.form
  obtain ⟨_, m0, m1, _, _⟩ := HM8.out.below hT9.below
  have q1 : (convert 29 9 (.slice U9 1 cu9)).run Tryd.prog w9 = .ok (.string ⟨#[118]⟩) w9 := run_conv (P := Tryd.prog) 29 9 5 Tryd.underlying29 Tryd.underlying5 Tryd.underlying9 hu9
  have heq := fun w => eqMeter 1 0 w
  have HBF := Lib.hid (HBW8.out.trans (hT9.below.mono HBW8.out.size))
  clear hu9 hT9
  go_wp2_with fail
  go_ret
  exact ⟨rfl, HBF.out⟩
end Go.Proofs.YtehkjnmnbplcoaaDoor
