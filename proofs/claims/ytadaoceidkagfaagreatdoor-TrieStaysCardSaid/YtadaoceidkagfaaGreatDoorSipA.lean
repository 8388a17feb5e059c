
import Derived.Test.YtadaoceidkagfaaGreatDoorNodeC
import Derived.Test.YtadaoceidkagfaaGreatDoorBwT
import Derived.Laws.Bits64
import Derived.Laws.Bits64b
import Derived.Deep.RegionHeld3
import Derived.Test.YtadaoceidkagfaaGreatDoorFineT
/- What sip's rounds tell. -/
namespace Go.Proofs.YtadaoceidkagfaaGreatDoor
open Go.RowKit Go.Bw
def LowRel (l : List UInt8) (n i : Value) : Prop := ∃ k : Nat, k <= l.length /\ i = .int .i64 ((k : Int) - 1) /\ n = .int .u64 (Bw.lowOf (l.drop k) : Nat)
theorem low_drop (l : List UInt8) (j : Nat) (hj : j < l.length) : Bw.lowOf (l.drop j) = (l[j]).toNat + 256 * Bw.lowOf (l.drop (j + 1)) := by
  rw [List.drop_eq_getElem_cons hj]; rfl
theorem low_small (l : List UInt8) (h8 : l.length <= 8) (j : Nat) : Bw.lowOf (l.drop (j + 1)) < 72057594037927936 := by
  refine Nat.lt_of_lt_of_le (Bw.lowOf_lt _) ?_
  have h : (l.drop (j + 1)).length <= 7 := by
    rw [List.length_drop]; omega
  exact Nat.le_trans (Nat.pow_le_pow_right (by decide) h) (by decide)
theorem low_step (n b : Nat) (hn : n < 72057594037927936) (hb : b < 256) : IntKind.u64.wrap (IntKind.u64.wrap ((n : Int) * 256) + IntKind.u64.wrap (b : Int)) = ((b + 256 * n : Nat) : Int) := by
  rw [IntKind.wrap_u64, IntKind.wrap_u64, IntKind.wrap_u64]; omega
set_option maxRecDepth 100000 in
set_option maxHeartbeats 400000 in
theorem wlow_any {ok : Nat -> Prop} {l : List UInt8} {v : Value} {w : World} (h : BytesAt ok w v l) (hl : l.length <= 1048576) :
    Calls Tryz.prog 71 #[v] w fun e w' => e = .returned (.int .u64 (Bw.low8 l : Nat)) /\ w = w' := by
  obtain ⟨A, c, rfl⟩ := h.form
  unfold Bw.low8
  obtain ⟨l8, hl8⟩ : ∃ l8, l.take 8 = l8 := ⟨_, rfl⟩
  have h8 : l8.length <= 8 := by rw [<- hl8]; exact List.length_take_le 8 l
  have hm : min (l.length : Int) 8 = (l8.length : Int) := by rw [<- hl8, List.length_take]; omega
  have hat : ∀ j, j < l8.length -> l[j]? = l8[j]? := fun j hj => by rw [<- hl8] at hj ⊢; rw [List.getElem?_take, if_pos (by rw [List.length_take] at hj; omega)]
  have hw : wrap64 ((l8.length : Int) - 1) = (l8.length : Int) - 1 := by unfold wrap64; omega
  have H0 : Hid (LowRel l8 (.int .u64 0) (.int .i64 ((l8.length : Int) - 1))) := Lib.hid ⟨l8.length, Nat.le_refl _, rfl, by rw [List.drop_of_length_le (Nat.le_refl _)]; rfl⟩
  have HR := Lib.hid h
  have HL := Lib.hid hl; have H8 := Lib.hid h8; have HAT := Lib.hid hat
  rw [hl8]
  clear h hl hl8 h8 hat
  go_enter Tryz.func71, Tryz.ntmps71
  go_wp2_with fail
  go_loop [3, 4] (LowRel l8) (fun _ i => (intOf i + 1).toNat)
  case atStart => exact H0.out
  case round =>
    obtain ⟨k, hk, rfl, rfl⟩ := hrel
    cases k with
    | zero =>
      have e0 : (((0 : Nat) : Int) - 1) = -1 := by omega
      rw [e0, List.drop_zero]
      go_wp2
      go_ret
      exact ⟨rfl, rfl⟩
    | succ j =>
      have hj : j < l8.length := by omega
      have hg := HAT.out j hj
      rw [List.getElem?_eq_getElem hj] at hg
      have hjl : j < l.length := (List.getElem?_eq_some_iff.1 hg).1
      obtain ⟨b, o, cs, rfl, hd, hc⟩ := HR.out.get hg
      obtain rfl := hd
      have c0 := (hc 0 _ rfl).2
      simp only [Nat.mul_one, Nat.add_zero, encB] at c0
      have hsm := low_small l8 H8.out j
      have hd2 := low_drop l8 j hj
      have hb := (l8[j]).toNat_lt
      have hst := low_step _ _ hsm hb
      rw [<- hd2] at hst
      have e1 : (((j + 1 : Nat) : Int) - 1) = (j : Int) := by omega
      rw [e1]
      have h0 : (0 : Int) <= (j : Int) := by omega
      have h1 : (j : Int) < (l.length : Int) := by omega
      have HST := Lib.hid hst
      have HKJ : Hid (j <= l8.length) := Lib.hid (by omega)
      have HL8 : Hid (wrap64 ((j : Int) - 1) = (j : Int) - 1) := Lib.hid (by have := HL.out; unfold wrap64; omega)
      obtain ⟨n', hn'⟩ : ∃ n', Bw.lowOf (l8.drop j) = n' := ⟨_, rfl⟩
      rw [hn'] at HST
      have HN := Lib.hid hn'
      generalize Bw.lowOf (l8.drop (j + 1)) = n at *
      generalize (l8[j]).toNat = y at *
      clear hj hjl hd2 hb hst hsm hc hk hg hn'
      go_wp2
      rw [HST.out, HL8.out]
      exact ⟨⟨j, HKJ.out, rfl, by rw [HN.out]⟩, by simp only [intOf]; omega⟩
theorem rot_eq (x s : Nat) (hx : x < 18446744073709551616) : bits .or .u64 (IntKind.u64.wrap ((x : Int) * 2 ^ s)) ((x : Int) / 2 ^ (64 - s)) = ((Bw.turn64 x s : Nat) : Int) := by
  have e1 : IntKind.u64.wrap ((x : Int) * 2 ^ s) = ((x * 2 ^ s % 18446744073709551616 : Nat) : Int) := by
    rw [IntKind.wrap_u64, Int.natCast_emod, Int.natCast_mul, Int.natCast_pow]; rfl
  have e2 : (x : Int) / 2 ^ (64 - s) = ((x / 2 ^ (64 - s) : Nat) : Int) := by rw [Int.natCast_ediv, Int.natCast_pow]; rfl
  rw [e1, e2, bits_or_u64_nat _ _ (Nat.mod_lt _ (by decide)) (Nat.lt_of_le_of_lt (Nat.div_le_self _ _) hx)]
  rfl
set_option maxRecDepth 100000 in
set_option maxHeartbeats 400000 in
theorem rot_any (x k : Nat) (hx : x < 18446744073709551616) (hk : k = 13 \/ k = 16 \/ k = 17 \/ k = 21 \/ k = 32) (w : World) :
    Calls Tryz.prog 152 #[.int .u64 (x : Nat), .int .i64 (k : Nat)] w fun e w' => e = .returned (.int .u64 (Bw.turn64 x k : Nat)) /\ w = w' := by
  have hr := rot_eq x k hx
  rw [<- hr]
  clear hr hx
  have a13 : bits .and .u64 13 63 = 13 := by decide
  have a16 : bits .and .u64 16 63 = 16 := by decide
  have a17 : bits .and .u64 17 63 = 17 := by decide
  have a21 : bits .and .u64 21 63 = 21 := by decide
  have a32 : bits .and .u64 32 63 = 32 := by decide
  rcases hk with rfl | rfl | rfl | rfl | rfl
  all_goals go_enter Tryz.func152, Tryz.ntmps152
  all_goals go_wp2
  all_goals go_ret
  all_goals exact ⟨rfl, rfl⟩
set_option maxRecDepth 100000 in
set_option maxHeartbeats 400000 in
theorem turn_any (x k : Nat) (hx : x < 18446744073709551616) (hk : k = 13 \/ k = 16 \/ k = 17 \/ k = 21 \/ k = 32) (w : World) :
    Calls Tryz.prog 126 #[.int .u64 (x : Nat), .int .i64 (k : Nat)] w fun e w' => e = .returned (.int .u64 (Bw.turn64 x k : Nat)) /\ w = w' := by
  have C := Lib.hid (fun w => rot_any x k hx hk w)
  have h0 : (0 : Int) <= (k : Int) := by omega
  have hm : Int.tmod (k : Int) 64 = (k : Int) := by rw [Int.tmod_eq_emod_of_nonneg h0]; omega
  clear hx hk
  generalize Bw.turn64 x k = y at *
  go_enter Tryz.func126, Tryz.ntmps126
  go_wp2_with (go_at_call 152; (with_reducible refine (C.out _).mono ?_); rintro e w' ⟨rfl, rfl⟩)
  go_ret
  exact ⟨rfl, rfl⟩
set_option maxRecDepth 100000 in
set_option maxHeartbeats 400000 in
theorem mix_any (a b k : Nat) (hb : b < 18446744073709551616) (hk : k = 13 \/ k = 16 \/ k = 17 \/ k = 21 \/ k = 32) (w : World) :
    Calls Tryz.prog 125 #[.int .u64 (a : Nat), .int .u64 (b : Nat), .int .i64 (k : Nat)] w fun e w' => e = .returned (.tuple #[.int .u64 (Bw.mixA a b : Nat), .int .u64 (Bw.mixB a b k : Nat)]) /\ w = w' := by
  have C := Lib.hid (fun w => turn_any b k hb hk w)
  have hs : IntKind.u64.wrap ((a : Int) + (b : Int)) = ((Bw.mixA a b : Nat) : Int) := by rw [IntKind.wrap_u64]; unfold Bw.mixA Bw.W64; omega
  have hx : bits .xor .u64 ((Bw.turn64 b k : Nat) : Int) ((Bw.mixA a b : Nat) : Int) = ((Bw.mixB a b k : Nat) : Int) := bits_xor_u64_nat _ _ (Bw.turn64_lt k hb) (Bw.mixA_lt a b)
  clear hb hk
  generalize Bw.turn64 b k = y at *
  generalize Bw.mixA a b = z at *
  generalize Bw.mixB a b k = u at *
  go_enter Tryz.func125, Tryz.ntmps125
  go_wp2_with (go_at_call 126; (with_reducible refine (C.out _).mono ?_); rintro e w' ⟨rfl, rfl⟩)
  go_ret2
  exact ⟨rfl, rfl⟩
def sipV (x : Bw.Sip) : Value := .agg #[.int .u64 (x.1 : Nat), .int .u64 (x.2.1 : Nat), .int .u64 (x.2.2.1 : Nat), .int .u64 (x.2.2.2 : Nat)]
set_option maxRecDepth 100000 in
set_option maxHeartbeats 1000000 in
theorem sround_any {x : Bw.Sip} (hx : x.ok) (w : World) :
    Calls Tryz.prog 97 #[sipV x] w fun e w' => e = .returned (sipV (Bw.sipRound x)) /\ Below w.heap.size w w' := by
  obtain ⟨p, q, r, s⟩ := x
  obtain ⟨h0, h1, h2, h3⟩ := hx
  simp only [sipV, Bw.sipRound]
  have C1 := Lib.hid (fun w => mix_any p q 13 h1 (by decide) w)
  have C2 := Lib.hid (fun w => mix_any r s 16 h3 (by decide) w)
  have C3 := Lib.hid (fun w => turn_any (Bw.mixA p q) 32 (Bw.mixA_lt _ _) (by decide) w)
  have C4 := Lib.hid (fun w => mix_any (Bw.turn64 (Bw.mixA p q) 32) (Bw.mixB r s 16) 21 (Bw.mixB_lt r 16 h3) (by decide) w)
  have C5 := Lib.hid (fun w => mix_any (Bw.mixA r s) (Bw.mixB p q 13) 17 (Bw.mixB_lt p 13 h1) (by decide) w)
  have C6 := Lib.hid (fun w => turn_any (Bw.mixA (Bw.mixA r s) (Bw.mixB p q 13)) 32 (Bw.mixA_lt _ _) (by decide) w)
  simp only [Int.cast_ofNat_Int] at C1 C2 C3 C4 C5 C6
  clear h0 h1 h2 h3
  generalize Bw.mixA p q = p1 at *
  generalize Bw.mixB p q 13 = q1 at *
  generalize Bw.mixA r s = r1 at *
  generalize Bw.mixB r s 16 = s1 at *
  generalize Bw.turn64 p1 32 = p2 at *
  generalize Bw.mixA p2 s1 = p3 at *
  generalize Bw.mixB p2 s1 21 = s3 at *
  generalize Bw.mixA r1 q1 = r3 at *
  generalize Bw.mixB r1 q1 17 = q3 at *
  generalize Bw.turn64 r3 32 = r4 at *
  go_enter Tryz.func97, Tryz.ntmps97
  go_wp2_with (first
    | (go_at_call 125; first | ((with_reducible refine (C1.out _).mono ?_); rintro e w' ⟨rfl, rfl⟩) | ((with_reducible refine (C2.out _).mono ?_); rintro e w' ⟨rfl, rfl⟩) | ((with_reducible refine (C4.out _).mono ?_); rintro e w' ⟨rfl, rfl⟩) | ((with_reducible refine (C5.out _).mono ?_); rintro e w' ⟨rfl, rfl⟩))
    | (go_at_call 126; first | ((with_reducible refine (C3.out _).mono ?_); rintro e w' ⟨rfl, rfl⟩) | ((with_reducible refine (C6.out _).mono ?_); rintro e w' ⟨rfl, rfl⟩)))
  refine bodyPost_ret (v := .agg #[.int .u64 (p3 : Nat), .int .u64 (q3 : Nat), .int .u64 (r4 : Nat), .int .u64 (s3 : Nat)]) (by simp [results, Tryz.results97, go_sem]) rfl ⟨rfl, by exact gB3⟩
theorem cells4 {W : World} {b : Nat} {a0 a1 a2 a3 : Value} {t : TypeId} (h : W.heap[b]? = some (.cells #[a0, a1, a2, a3] t (0, 0))) :
    (W.cell? ⟨b, 0, none⟩ = some a0 /\ W.cell? ⟨b, 1, none⟩ = some a1 /\ W.cell? ⟨b, 2, none⟩ = some a2 /\ W.cell? ⟨b, 3, none⟩ = some a3) /\ (W.frozen? ⟨b, 0, none⟩ = false /\ W.frozen? ⟨b, 1, none⟩ = false /\ W.frozen? ⟨b, 2, none⟩ = false /\ W.frozen? ⟨b, 3, none⟩ = false) := by
  refine ⟨⟨?_, ?_, ?_, ?_⟩, ?_, ?_, ?_, ?_⟩ <;> simp [World.cell?, World.frozen?, h]
theorem set4 {W : World} {b : Nat} {a0 a1 a2 a3 x0 x1 x2 x3 : Value} {t : TypeId} (h : W.heap[b]? = some (.cells #[a0, a1, a2, a3] t (0, 0))) :
    ((((W.setCell ⟨b, 0, none⟩ x0).setCell ⟨b, 1, none⟩ x1).setCell ⟨b, 2, none⟩ x2).setCell ⟨b, 3, none⟩ x3).heap[b]? = some (.cells #[x0, x1, x2, x3] t (0, 0)) := by
  simp [World.setCell, Array.getElem?_modify, h]
theorem set4_other {W : World} {b k : Nat} {x0 x1 x2 x3 : Value} (h : k ≠ b) :
    ((((W.setCell ⟨b, 0, none⟩ x0).setCell ⟨b, 1, none⟩ x1).setCell ⟨b, 2, none⟩ x2).setCell ⟨b, 3, none⟩ x3).heap[k]? = W.heap[k]? := by
  have h' : ¬ b = k := fun e => h e.symm
  simp [World.setCell, Array.getElem?_modify, h']
theorem set1_4 {W : World} {b i : Nat} {a0 a1 a2 a3 x : Value} {t : TypeId} (h : W.heap[b]? = some (.cells #[a0, a1, a2, a3] t (0, 0))) (_ : i < 4) :
    (W.setCell ⟨b, i, none⟩ x).heap[b]? = some (.cells (#[a0, a1, a2, a3].setIfInBounds i x) t (0, 0)) := by
  simp [World.setCell, Array.getElem?_modify, h]
set_option maxRecDepth 100000 in
set_option maxHeartbeats 1000000 in
theorem stake_any {x : Bw.Sip} {m : Nat} (hx : x.ok) (hm : m < 18446744073709551616) (w : World) :
    Calls Tryz.prog 70 #[sipV x, .int .u64 (m : Nat)] w fun e w' => e = .returned (sipV (Bw.sipTake x m)) /\ Below w.heap.size w w' := by
  obtain ⟨p, q, r, s⟩ := x
  obtain ⟨h0, h1, h2, h3⟩ := hx
  simp only [sipV]
  have x3 : bits .xor .u64 (s : Int) (m : Int) = ((s ^^^ m : Nat) : Int) := bits_xor_u64_nat _ _ h3 hm
  have hok1 : Bw.Sip.ok (p, q, r, s ^^^ m) := ⟨h0, h1, h2, Bw.xor_lt64 h3 hm⟩
  have hok2 := Bw.sipRound_ok hok1
  have hok3 := Bw.sipRound_ok hok2
  have C1 := Lib.hid (fun w => sround_any hok1 w)
  have C2 := Lib.hid (fun w => sround_any hok2 w)
  have x0 : bits .xor .u64 (((Bw.sipRound (Bw.sipRound (p, q, r, s ^^^ m))).1 : Nat) : Int) (m : Int) = (((Bw.sipRound (Bw.sipRound (p, q, r, s ^^^ m))).1 ^^^ m : Nat) : Int) := bits_xor_u64_nat _ _ hok3.1 hm
  have ht : Bw.sipTake (p, q, r, s) m = ((Bw.sipRound (Bw.sipRound (p, q, r, s ^^^ m))).1 ^^^ m, (Bw.sipRound (Bw.sipRound (p, q, r, s ^^^ m))).2.1, (Bw.sipRound (Bw.sipRound (p, q, r, s ^^^ m))).2.2.1, (Bw.sipRound (Bw.sipRound (p, q, r, s ^^^ m))).2.2.2) := rfl
  rw [ht]
  simp only [sipV] at C1 C2
  generalize s ^^^ m = s' at *
  generalize Bw.sipRound (Bw.sipRound (p, q, r, s')) = y at *
  generalize Bw.sipRound (p, q, r, s') = z at *
  obtain ⟨y0, y1, y2, y3⟩ := y
  obtain ⟨z0, z1, z2, z3⟩ := z
  dsimp only at *
  clear h0 h1 h2 h3 hm hok1 hok2 hok3 ht
  go_enter Tryz.func70, Tryz.ntmps70
  go_wp2_with fail
  obtain ⟨W0, hW0⟩ : ∃ W0, (w.alloc (.cells #[.int .u64 (p : Nat), .int .u64 (q : Nat), .int .u64 (r : Nat), .int .u64 (s' : Nat)] 146)).alloc (.cells #[.int .u64 0, .int .u64 0, .int .u64 0, .int .u64 0] 146) = W0 := ⟨_, rfl⟩
  have hr0 : Below w.heap.size w W0 := by rw [<- hW0]; exact gB3
  have b1 : W0.heap[w.heap.size]? = some (.cells #[.int .u64 (p : Nat), .int .u64 (q : Nat), .int .u64 (r : Nat), .int .u64 (s' : Nat)] 146 (0, 0)) := by rw [<- hW0]; exact (heap_alloc_old _ _ (by simp)).trans (heap_alloc_new w _)
  have b2 : W0.heap[w.heap.size + 1]? = some (.cells #[.int .u64 0, .int .u64 0, .int .u64 0, .int .u64 0] 146 (0, 0)) := by rw [<- hW0]; have := heap_alloc_new (w.alloc (.cells #[.int .u64 (p : Nat), .int .u64 (q : Nat), .int .u64 (r : Nat), .int .u64 (s' : Nat)] 146)) (.cells #[.int .u64 0, .int .u64 0, .int .u64 0, .int .u64 0] 146); simpa using this
  rw [hW0]
  have hs0 : W0.heap.size = w.heap.size + 2 := by rw [<- hW0]; simp
  have HR0 := Lib.hid hr0
  clear hW0 hr0
  refine (C1.out _).mono ?_
  rintro e w1 ⟨rfl, hb1⟩
  have hc1 := C2.out w1
  go_wp2_with fail
  refine hc1.mono ?_
  rintro e w2 ⟨rfl, hb2⟩
  have hb12 := hb1.trans (hb2.mono hb1.size)
  have d1 := (hb12.block w.heap.size (by omega)).trans b1
  have d2 := (hb12.block (w.heap.size + 1) (by omega)).trans b2
  have HB2 := Lib.hid (HR0.out.trans (hb12.mono HR0.out.size))
  have hn : w.heap.size < w2.heap.size := by have := hb12.size; omega
  have hn2 : w.heap.size + 1 < w2.heap.size := by have := hb12.size; omega
  clear hb1 hb2 hb12 b1 b2 hc1 C1 C2 HR0 hs0
  obtain ⟨⟨k0, k1, k2, k3⟩, f0, f1, f2, f3⟩ := cells4 d1
  obtain ⟨⟨l0, l1, l2, l3⟩, g0, g1, g2, g3⟩ := cells4 d2
  go_wp2
  have e1 := set4 (x0 := .int .u64 (y0 : Nat)) (x1 := .int .u64 (y1 : Nat)) (x2 := .int .u64 (y2 : Nat)) (x3 := .int .u64 (y3 : Nat)) d1
  have e2 := (set4_other (W := w2) (b := w.heap.size) (k := w.heap.size + 1) (x0 := .int .u64 (y0 : Nat)) (x1 := .int .u64 (y1 : Nat)) (x2 := .int .u64 (y2 : Nat)) (x3 := .int .u64 (y3 : Nat)) (by omega)).trans d2
  have e3 := set4 (x0 := .int .u64 ((y0 ^^^ m : Nat) : Int)) (x1 := .int .u64 (y1 : Nat)) (x2 := .int .u64 (y2 : Nat)) (x3 := .int .u64 (y3 : Nat)) ((Below.heap_setCell _ ⟨w.heap.size, 0, none⟩ (.int .u64 ((y0 ^^^ m : Nat) : Int)) (w.heap.size + 1) (by simp)).trans e2)
  obtain ⟨⟨n0, n1, n2, n3⟩, _⟩ := cells4 e3
  have hbb := HB2.out
  refine bodyPost_ret (v := .agg #[.int .u64 ((y0 ^^^ m : Nat) : Int), .int .u64 (y1 : Nat), .int .u64 (y2 : Nat), .int .u64 (y3 : Nat)]) ?_ rfl ?_
  · clear hbb d1 d2 e1 e2 e3 k0 k1 k2 k3 l0 l1 l2 l3 f0 f1 f2 f3 g0 g1 g2 g3
    simp [results, Tryz.results70, go_sem, n0, n1, n2, n3]
  · clear d1 d2 e1 e2 e3 k0 k1 k2 k3 l0 l1 l2 l3 f0 f1 f2 f3 g0 g1 g2 g3 n0 n1 n2 n3 HB2
    refine ⟨rfl, ?_⟩
    exact gB5
def _root_.Bw.sipN : Nat -> Bw.Sip -> Bw.Sip
  | 0, x => x
  | n + 1, x => Bw.sipRound (Bw.sipN n x)
theorem _root_.Bw.sipN_ok {x : Bw.Sip} (h : x.ok) : ∀ n, (Bw.sipN n x).ok
  | 0 => h
  | n + 1 => Bw.sipRound_ok (Bw.sipN_ok h n)
def SipEndR (x : Bw.Sip) (w : World) (i : Value) (wr : World) : Prop :=
  ∃ k : Nat, k <= 4 /\ i = .int .i64 k /\ wr.heap[w.heap.size]? = some (.cells #[.int .u64 ((Bw.sipN k x).1 : Nat), .int .u64 ((Bw.sipN k x).2.1 : Nat), .int .u64 ((Bw.sipN k x).2.2.1 : Nat), .int .u64 ((Bw.sipN k x).2.2.2 : Nat)] 146 (0, 0)) /\ Below w.heap.size w wr
set_option maxRecDepth 100000 in
set_option maxHeartbeats 1000000 in
theorem send_any {x : Bw.Sip} (hx : x.ok) (w : World) :
    Calls Tryz.prog 72 #[sipV x] w fun e w' => e = .returned (.int .u64 (Bw.sipEnd x : Nat)) /\ Below w.heap.size w w' := by
  obtain ⟨p, q, r, s⟩ := x
  obtain ⟨h0, h1, h2, h3⟩ := hx
  simp only [sipV]
  have x2 : bits .xor .u64 (r : Int) 255 = ((r ^^^ 255 : Nat) : Int) := bits_xor_u64_nat r 255 h2 (by decide)
  have hok : Bw.Sip.ok (p, q, r ^^^ 255, s) := ⟨h0, h1, Bw.xor_lt64 h2 (by decide), h3⟩
  have hend : Bw.sipEnd (p, q, r, s) = (Bw.sipN 4 (p, q, r ^^^ 255, s)).1 ^^^ (Bw.sipN 4 (p, q, r ^^^ 255, s)).2.1 ^^^ (Bw.sipN 4 (p, q, r ^^^ 255, s)).2.2.1 ^^^ (Bw.sipN 4 (p, q, r ^^^ 255, s)).2.2.2 := rfl
  have HEND := Lib.hid hend
  generalize r ^^^ 255 = r' at *
  have HOK := Lib.hid hok
  have H0 : Hid (SipEndR (p, q, r', s) w (.int .i64 0) (w.alloc (.cells #[.int .u64 (p : Nat), .int .u64 (q : Nat), .int .u64 (r' : Nat), .int .u64 (s : Nat)] 146))) := Lib.hid ⟨0, by decide, rfl, heap_alloc_new w _, by exact gB3⟩
  clear h0 h1 h2 h3 hok hend
  go_enter Tryz.func72, Tryz.ntmps72
  go_wp2_with fail
  go_loopw [7] (SipEndR (p, q, r', s) w) (fun i _ => 4 - (intOf i).toNat)
  case atStart => exact H0.out
  case round =>
    obtain ⟨k, hk, rfl, hblk, hB⟩ := hrel
    have hy := Bw.sipN_ok HOK.out k
    by_cases hlt : k < 4
    · have C := Lib.hid (sround_any hy wr)
      have hl1 : (k : Int) < 4 := by omega
      have hw : IntKind.i64.wrap ((k : Int) + 1) = ((k + 1 : Nat) : Int) := by rw [IntKind.wrap_i64]; omega
      have hw2 : wrap64 ((k : Int) + 1) = ((k + 1 : Nat) : Int) := by unfold wrap64; omega
      have hn : Bw.sipRound (Bw.sipN k (p, q, r', s)) = Bw.sipN (k + 1) (p, q, r', s) := rfl
      rw [hn] at C
      obtain ⟨⟨k0, k1, k2, k3⟩, f0, f1, f2, f3⟩ := cells4 hblk
      have HB := Lib.hid hB
      have hwl := World.block_lt_of_cell? wr _ k0
      dsimp only at hwl
      clear hB hn hy
      generalize Bw.sipN k (p, q, r', s) = y at *
      obtain ⟨yy, hyy⟩ : ∃ yy, Bw.sipN (k + 1) (p, q, r', s) = yy := ⟨_, rfl⟩
      have HYY := Lib.hid hyy
      rw [hyy] at C
      clear hyy
      obtain ⟨y0, y1, y2, y3⟩ := y
      obtain ⟨z0, z1, z2, z3⟩ := yy
      simp only [sipV] at C
      dsimp only at *
      go_wp2_with fail
      refine C.out.mono ?_
      rintro e w1 ⟨rfl, hb1⟩
      have d1 := (hb1.block w.heap.size hwl).trans hblk
      clear hblk k0 k1 k2 k3 f0 f1 f2 f3 C
      obtain ⟨⟨k0, k1, k2, k3⟩, f0, f1, f2, f3⟩ := cells4 d1
      have hbb := HB.out.trans (hb1.mono HB.out.size)
      have hn1 : w.heap.size < w1.heap.size := Nat.lt_of_lt_of_le hwl hb1.size
      have HBB := Lib.hid hbb
      have HE := Lib.hid (set4 (x0 := .int .u64 (z0 : Nat)) (x1 := .int .u64 (z1 : Nat)) (x2 := .int .u64 (z2 : Nat)) (x3 := .int .u64 (z3 : Nat)) d1)
      clear hb1 hbb d1
      go_wp2
      have hbb := HBB.out
      refine ⟨⟨k + 1, hlt, rfl, by rw [HYY.out]; exact HE.out, by exact gB5⟩, by simp only [intOf]; omega⟩
    · obtain rfl : k = 4 := by omega
      obtain ⟨⟨k0, k1, k2, k3⟩, f0, f1, f2, f3⟩ := cells4 hblk
      have HB := Lib.hid hB
      have hE := HEND.out
      generalize Bw.sipN 4 (p, q, r', s) = y at *
      obtain ⟨y0, y1, y2, y3⟩ := y
      obtain ⟨g0, g1, g2, g3⟩ := hy
      dsimp only at *
      have e1 : bits .xor .u64 (y0 : Int) (y1 : Int) = ((y0 ^^^ y1 : Nat) : Int) := bits_xor_u64_nat _ _ g0 g1
      have e2 : bits .xor .u64 ((y0 ^^^ y1 : Nat) : Int) (y2 : Int) = ((y0 ^^^ y1 ^^^ y2 : Nat) : Int) := bits_xor_u64_nat _ _ (Bw.xor_lt64 g0 g1) g2
      have e3 : bits .xor .u64 ((y0 ^^^ y1 ^^^ y2 : Nat) : Int) (y3 : Int) = ((y0 ^^^ y1 ^^^ y2 ^^^ y3 : Nat) : Int) := bits_xor_u64_nat _ _ (Bw.xor_lt64 (Bw.xor_lt64 g0 g1) g2) g3
      generalize y0 ^^^ y1 ^^^ y2 ^^^ y3 = n3 at *
      generalize y0 ^^^ y1 ^^^ y2 = n2 at *
      generalize y0 ^^^ y1 = n1 at *
      have HE := Lib.hid hE
      clear hB hblk g0 g1 g2 g3 hE
      go_wp2
      go_ret
      exact ⟨by rw [HE.out]; rfl, HB.out⟩
end Go.Proofs.YtadaoceidkagfaaGreatDoor
/- sip.Begin, Hash. -/
namespace Go.Proofs.YtadaoceidkagfaaGreatDoor
open Go.RowKit Go.Bw
def Sta (w : World) : Prop := w.cell? ⟨0, 0, none⟩ = some (.int .u64 8317987319222330741) /\ w.cell? ⟨0, 1, none⟩ = some (.int .u64 7237128888997146477) /\ w.cell? ⟨0, 2, none⟩ = some (.int .u64 7816392313619706465) /\ w.cell? ⟨0, 3, none⟩ = some (.int .u64 8387220255154660723)
theorem Sta.pos {w : World} (h : Sta w) : 0 < w.heap.size := World.block_lt_of_cell? w _ h.1
theorem Sta.below {n : Nat} {w w' : World} (h : Sta w) (h0 : 0 < n) (hB : Below n w w') : Sta w' :=
  ⟨(hB.cell (p := ⟨0, 0, none⟩) h0).trans h.1, (hB.cell (p := ⟨0, 1, none⟩) h0).trans h.2.1, (hB.cell (p := ⟨0, 2, none⟩) h0).trans h.2.2.1, (hB.cell (p := ⟨0, 3, none⟩) h0).trans h.2.2.2⟩
def SeedIn (w : World) (b : Nat) (s : List UInt8) : Prop := w.heap[b]? = some (.cells (s.map encB).toArray 23 (0, 0))
theorem SeedIn.row {w : World} {b : Nat} {s : List UInt8} (h : SeedIn w b s) (hs : s.length = 16) (k : Nat) (hk : k + 8 <= 16) : BytesAt (fun k => k = b) w (.slice (some ⟨b, k, none⟩) 8 (16 - k)) ((s.drop k).take 8) := by
  have hl : ((s.drop k).take 8).length = 8 := by rw [List.length_take, List.length_drop]; omega
  refine ⟨_, _, by rw [hl], by omega, by unfold maxLen; omega, (fun h => by cases h), (fun ad h _ => by cases h; rfl), fun j x hj => ?_⟩
  have hj8 : j < 8 := by have := (List.getElem?_eq_some_iff.1 hj).1; omega
  rw [List.getElem?_take, if_pos hj8, List.getElem?_drop] at hj
  refine ⟨_, _, rfl, rfl, fun i u hu => ?_⟩
  match i, hu with
  | 0, hu =>
    injection hu with hu
    subst hu
    refine ⟨rfl, ?_⟩
    unfold SeedIn at h
    simp only [World.cell?, h, Nat.mul_one, Nat.add_zero]
    simp [hj]
  | i + 1, hu => simp at hu
theorem mapE16 {s : List UInt8} (hs : s.length = 16) : ∃ a0 a1 a2 a3 a4 a5 a6 a7 a8 a9 aA aB aC aD aE aF, s = [a0, a1, a2, a3, a4, a5, a6, a7, a8, a9, aA, aB, aC, aD, aE, aF] := by
  match s, hs with
  | [a0, a1, a2, a3, a4, a5, a6, a7, a8, a9, aA, aB, aC, aD, aE, aF], _ => exact ⟨_, _, _, _, _, _, _, _, _, _, _, _, _, _, _, _, rfl⟩
def begN (s : List UInt8) (k : Nat) : Bw.Sip := (if 0 < k then (Bw.sipBegin s).1 else 0, if 1 < k then (Bw.sipBegin s).2.1 else 0, if 2 < k then (Bw.sipBegin s).2.2.1 else 0, if 3 < k then (Bw.sipBegin s).2.2.2 else 0)
def BegRel (s : List UInt8) (w : World) (i : Value) (wr : World) : Prop :=
  ∃ k : Nat, k <= 4 /\ i = .int .i64 k /\ wr.heap[w.heap.size + 2]? = some (.cells #[.int .u64 ((begN s k).1 : Nat), .int .u64 ((begN s k).2.1 : Nat), .int .u64 ((begN s k).2.2.1 : Nat), .int .u64 ((begN s k).2.2.2 : Nat)] 146 (0, 0)) /\
    wr.heap[w.heap.size + 1]? = some (.cells #[.int .u64 0, .int .u64 0, .int .u64 0, .int .u64 0] 146 (0, 0)) /\ SeedIn wr w.heap.size s /\ Below w.heap.size w wr
set_option maxRecDepth 100000 in
set_option maxHeartbeats 2000000 in
theorem sbegin_any {s : List UInt8} (hs : s.length = 16) (w : World) (hS : Sta w) :
    Calls Tryz.prog 69 #[seedV s] w fun e w' => e = .returned (sipV (Bw.sipBegin s)) /\ Below w.heap.size w w' := by
  have hpos := hS.pos
  obtain ⟨W0, hW0⟩ : ∃ W0, ((w.alloc (.cells (s.map encB).toArray 23)).alloc (.cells #[.int .u64 0, .int .u64 0, .int .u64 0, .int .u64 0] 146)).alloc (.cells #[.int .u64 0, .int .u64 0, .int .u64 0, .int .u64 0] 146) = W0 := ⟨_, rfl⟩
  have HW0 := Lib.hid hW0
  have HS := Lib.hid hS
  have HL := Lib.hid hs
  unfold seedV
  have h2 : W0.heap[w.heap.size + 2]? = some (.cells #[.int .u64 0, .int .u64 0, .int .u64 0, .int .u64 0] 146 (0, 0)) := by
    rw [<- hW0]
    have := heap_alloc_new ((w.alloc (.cells (s.map encB).toArray 23)).alloc (.cells #[.int .u64 0, .int .u64 0, .int .u64 0, .int .u64 0] 146)) (.cells #[.int .u64 0, .int .u64 0, .int .u64 0, .int .u64 0] 146)
    simpa using this
  have h1 : W0.heap[w.heap.size + 1]? = some (.cells #[.int .u64 0, .int .u64 0, .int .u64 0, .int .u64 0] 146 (0, 0)) := by
    rw [<- hW0]
    refine (heap_alloc_old _ _ (by simp)).trans ?_
    have := heap_alloc_new (w.alloc (.cells (s.map encB).toArray 23)) (.cells #[.int .u64 0, .int .u64 0, .int .u64 0, .int .u64 0] 146)
    simpa using this
  have h0 : SeedIn W0 w.heap.size s := by
    unfold SeedIn
    rw [<- hW0]
    exact (heap_alloc_old _ _ (by simp; omega)).trans ((heap_alloc_old _ _ (by simp)).trans (heap_alloc_new w _))
  have H0 : Hid (BegRel s w (.int .i64 0) W0) := Lib.hid ⟨0, by decide, rfl, h2, h1, h0, by rw [<- hW0]; exact gB3⟩
  clear hW0 h0 h1 h2 hS hs
  go_enter Tryz.func69, Tryz.ntmps69
  go_wp2_with fail
  rw [HW0.out]
  go_loopw [6] (BegRel s w) (fun i _ => 4 - (intOf i).toNat)
  case atStart => exact H0.out
  case round =>
    obtain ⟨k, hk, rfl, hx, hr, hsd, hB⟩ := hrel
    have hw2 : w.heap.size + 2 < wr.heap.size := World.block_lt_of_cell? wr ⟨w.heap.size + 2, 0, none⟩ (cells4 hx).1.1
    have hst := HS.out.below hpos hB
    by_cases hlt : k < 4
    · have hk4 : k = 0 \/ k = 1 \/ k = 2 \/ k = 3 := by omega
      rcases hk4 with rfl | rfl | rfl | rfl
      ·
        have hl8 : Bw.low8 ((s.drop 0).take 8) = Bw.low8 (s.drop 0) := by unfold Bw.low8; rw [List.take_take]; rfl
        have CL := Lib.hid (fun (W : World) (hW : Below wr.heap.size wr W) => wlow_any (w := W) ((show SeedIn W w.heap.size s from (hW.block w.heap.size (by omega)).trans hsd).row HL.out 0 (by decide)) (by rw [List.length_take]; omega))
        rw [hl8] at CL
        have hsn : begN s 1 = ((Bw.sipBegin s).1, 0, 0, 0) := rfl
        have hsb : (Bw.sipBegin s).1 = 8317987319222330741 ^^^ Bw.low8 (s.drop 0) := by show _ ^^^ Bw.low8 s = _; rw [List.drop_zero]
        have hxr : bits .xor .u64 8317987319222330741 ((Bw.low8 (s.drop 0) : Nat) : Int) = (((Bw.sipBegin s).1 : Nat) : Int) := by rw [hsb]; exact bits_xor_u64_nat 8317987319222330741 _ (by decide) (Bw.low8_lt _)
        have e0 : begN s 0 = (0, 0, 0, 0) := rfl
        rw [e0] at hx
        dsimp only at hx
        have hx' := set1_4 (x := .int .u64 (((Bw.sipBegin s).1 : Nat) : Int)) (i := 0) hx (by decide)
        have hr' := (Below.heap_setCell wr ⟨w.heap.size + 2, 0, none⟩ (.int .u64 (((Bw.sipBegin s).1 : Nat) : Int)) (w.heap.size + 1) (by simp)).trans hr
        have hsd' : SeedIn (wr.setCell ⟨w.heap.size + 2, 0, none⟩ (.int .u64 (((Bw.sipBegin s).1 : Nat) : Int))) w.heap.size s := (Below.heap_setCell wr ⟨w.heap.size + 2, 0, none⟩ (.int .u64 (((Bw.sipBegin s).1 : Nat) : Int)) w.heap.size (by simp)).trans hsd
        have hB' : Below w.heap.size w (wr.setCell ⟨w.heap.size + 2, 0, none⟩ (.int .u64 (((Bw.sipBegin s).1 : Nat) : Int))) := hB.setCell (by simp) _
        have HFIN : Hid (BegRel s w (.int .i64 1) ((wr.setCell ⟨w.heap.size + 2, 0, none⟩ (.int .u64 (((Bw.sipBegin s).1 : Nat) : Int))).drew)) := Lib.hid ⟨1, by decide, rfl, by rw [hsn]; exact hx', hr', hsd', hB'.drew⟩
        have w8 : IntKind.i64.wrap 8 = 8 := rfl
        have w16 : IntKind.i64.wrap 16 = 16 := rfl
        have hcell := hst.1
        have hcell2 : ∀ u, ((wr.setCell ⟨w.heap.size + 1 + 1, 0, none⟩ u).drew).cell? ⟨0, 0, none⟩ = some (.int .u64 8317987319222330741) := fun u => (World.cell?_setCell_far _ _ _ _ (by simp)).trans hcell
        obtain ⟨⟨k0, k1, k2, k3⟩, f0, f1, f2, f3⟩ := cells4 hx
        clear hx' hr' hsd' hB' hsn hx hr hsd hst hB e0 hsb hl8 H0
        generalize (Bw.sipBegin s).1 = yk at *
        generalize Bw.low8 (s.drop 0) = lk at *
        go_wp2_with fail
        go_region_held3 (fun W => W.cell? ⟨0, 0, none⟩ = some (.int .u64 8317987319222330741)) (first | exact hcell | exact hcell2 _)
          ((go_at_call 71; (with_reducible refine (CL.out _ (by exact gB3)).mono ?_); rintro e w' ⟨rfl, rfl⟩))
        go_wp2
        exact ⟨HFIN.out, by simp [intOf]⟩
      ·
        have hl8 : Bw.low8 ((s.drop 8).take 8) = Bw.low8 (s.drop 8) := by unfold Bw.low8; rw [List.take_take]; rfl
        have CL := Lib.hid (fun (W : World) (hW : Below wr.heap.size wr W) => wlow_any (w := W) ((show SeedIn W w.heap.size s from (hW.block w.heap.size (by omega)).trans hsd).row HL.out 8 (by decide)) (by rw [List.length_take]; omega))
        rw [hl8] at CL
        have hsn : begN s 2 = ((Bw.sipBegin s).1, (Bw.sipBegin s).2.1, 0, 0) := rfl
        have hsb : (Bw.sipBegin s).2.1 = 7237128888997146477 ^^^ Bw.low8 (s.drop 8) := rfl
        have hxr : bits .xor .u64 7237128888997146477 ((Bw.low8 (s.drop 8) : Nat) : Int) = (((Bw.sipBegin s).2.1 : Nat) : Int) := by rw [hsb]; exact bits_xor_u64_nat 7237128888997146477 _ (by decide) (Bw.low8_lt _)
        have e0 : begN s 1 = ((Bw.sipBegin s).1, 0, 0, 0) := rfl
        rw [e0] at hx
        dsimp only at hx
        have hx' := set1_4 (x := .int .u64 (((Bw.sipBegin s).2.1 : Nat) : Int)) (i := 1) hx (by decide)
        have hr' := (Below.heap_setCell wr ⟨w.heap.size + 2, 1, none⟩ (.int .u64 (((Bw.sipBegin s).2.1 : Nat) : Int)) (w.heap.size + 1) (by simp)).trans hr
        have hsd' : SeedIn (wr.setCell ⟨w.heap.size + 2, 1, none⟩ (.int .u64 (((Bw.sipBegin s).2.1 : Nat) : Int))) w.heap.size s := (Below.heap_setCell wr ⟨w.heap.size + 2, 1, none⟩ (.int .u64 (((Bw.sipBegin s).2.1 : Nat) : Int)) w.heap.size (by simp)).trans hsd
        have hB' : Below w.heap.size w (wr.setCell ⟨w.heap.size + 2, 1, none⟩ (.int .u64 (((Bw.sipBegin s).2.1 : Nat) : Int))) := hB.setCell (by simp) _
        have HFIN : Hid (BegRel s w (.int .i64 2) ((wr.setCell ⟨w.heap.size + 2, 1, none⟩ (.int .u64 (((Bw.sipBegin s).2.1 : Nat) : Int))).drew)) := Lib.hid ⟨2, by decide, rfl, by rw [hsn]; exact hx', hr', hsd', hB'.drew⟩
        have w8 : IntKind.i64.wrap 8 = 8 := rfl
        have w16 : IntKind.i64.wrap 16 = 16 := rfl
        have hcell := hst.2.1
        have hcell2 : ∀ u, ((wr.setCell ⟨w.heap.size + 1 + 1, 1, none⟩ u).drew).cell? ⟨0, 1, none⟩ = some (.int .u64 7237128888997146477) := fun u => (World.cell?_setCell_far _ _ _ _ (by simp)).trans hcell
        obtain ⟨⟨k0, k1, k2, k3⟩, f0, f1, f2, f3⟩ := cells4 hx
        clear hx' hr' hsd' hB' hsn hx hr hsd hst hB e0 hsb hl8 H0
        generalize (Bw.sipBegin s).2.1 = yk at *
        generalize Bw.low8 (s.drop 8) = lk at *
        go_wp2_with fail
        go_region_held3 (fun W => W.cell? ⟨0, 1, none⟩ = some (.int .u64 7237128888997146477)) (first | exact hcell | exact hcell2 _)
          ((go_at_call 71; (with_reducible refine (CL.out _ (by exact gB3)).mono ?_); rintro e w' ⟨rfl, rfl⟩))
        go_wp2
        exact ⟨HFIN.out, by simp [intOf]⟩
      ·
        have hl8 : Bw.low8 ((s.drop 0).take 8) = Bw.low8 (s.drop 0) := by unfold Bw.low8; rw [List.take_take]; rfl
        have CL := Lib.hid (fun (W : World) (hW : Below wr.heap.size wr W) => wlow_any (w := W) ((show SeedIn W w.heap.size s from (hW.block w.heap.size (by omega)).trans hsd).row HL.out 0 (by decide)) (by rw [List.length_take]; omega))
        rw [hl8] at CL
        have hsn : begN s 3 = ((Bw.sipBegin s).1, (Bw.sipBegin s).2.1, (Bw.sipBegin s).2.2.1, 0) := rfl
        have hsb : (Bw.sipBegin s).2.2.1 = 7816392313619706465 ^^^ Bw.low8 (s.drop 0) := by show _ ^^^ Bw.low8 s = _; rw [List.drop_zero]
        have hxr : bits .xor .u64 7816392313619706465 ((Bw.low8 (s.drop 0) : Nat) : Int) = (((Bw.sipBegin s).2.2.1 : Nat) : Int) := by rw [hsb]; exact bits_xor_u64_nat 7816392313619706465 _ (by decide) (Bw.low8_lt _)
        have e0 : begN s 2 = ((Bw.sipBegin s).1, (Bw.sipBegin s).2.1, 0, 0) := rfl
        rw [e0] at hx
        dsimp only at hx
        have hx' := set1_4 (x := .int .u64 (((Bw.sipBegin s).2.2.1 : Nat) : Int)) (i := 2) hx (by decide)
        have hr' := (Below.heap_setCell wr ⟨w.heap.size + 2, 2, none⟩ (.int .u64 (((Bw.sipBegin s).2.2.1 : Nat) : Int)) (w.heap.size + 1) (by simp)).trans hr
        have hsd' : SeedIn (wr.setCell ⟨w.heap.size + 2, 2, none⟩ (.int .u64 (((Bw.sipBegin s).2.2.1 : Nat) : Int))) w.heap.size s := (Below.heap_setCell wr ⟨w.heap.size + 2, 2, none⟩ (.int .u64 (((Bw.sipBegin s).2.2.1 : Nat) : Int)) w.heap.size (by simp)).trans hsd
        have hB' : Below w.heap.size w (wr.setCell ⟨w.heap.size + 2, 2, none⟩ (.int .u64 (((Bw.sipBegin s).2.2.1 : Nat) : Int))) := hB.setCell (by simp) _
        have HFIN : Hid (BegRel s w (.int .i64 3) ((wr.setCell ⟨w.heap.size + 2, 2, none⟩ (.int .u64 (((Bw.sipBegin s).2.2.1 : Nat) : Int))).drew)) := Lib.hid ⟨3, by decide, rfl, by rw [hsn]; exact hx', hr', hsd', hB'.drew⟩
        have w8 : IntKind.i64.wrap 8 = 8 := rfl
        have w16 : IntKind.i64.wrap 16 = 16 := rfl
        have hcell := hst.2.2.1
        have hcell2 : ∀ u, ((wr.setCell ⟨w.heap.size + 1 + 1, 2, none⟩ u).drew).cell? ⟨0, 2, none⟩ = some (.int .u64 7816392313619706465) := fun u => (World.cell?_setCell_far _ _ _ _ (by simp)).trans hcell
        obtain ⟨⟨k0, k1, k2, k3⟩, f0, f1, f2, f3⟩ := cells4 hx
        clear hx' hr' hsd' hB' hsn hx hr hsd hst hB e0 hsb hl8 H0
        generalize (Bw.sipBegin s).2.2.1 = yk at *
        generalize Bw.low8 (s.drop 0) = lk at *
        go_wp2_with fail
        go_region_held3 (fun W => W.cell? ⟨0, 2, none⟩ = some (.int .u64 7816392313619706465)) (first | exact hcell | exact hcell2 _)
          ((go_at_call 71; (with_reducible refine (CL.out _ (by exact gB3)).mono ?_); rintro e w' ⟨rfl, rfl⟩))
        go_wp2
        exact ⟨HFIN.out, by simp [intOf]⟩
      ·
        have hl8 : Bw.low8 ((s.drop 8).take 8) = Bw.low8 (s.drop 8) := by unfold Bw.low8; rw [List.take_take]; rfl
        have CL := Lib.hid (fun (W : World) (hW : Below wr.heap.size wr W) => wlow_any (w := W) ((show SeedIn W w.heap.size s from (hW.block w.heap.size (by omega)).trans hsd).row HL.out 8 (by decide)) (by rw [List.length_take]; omega))
        rw [hl8] at CL
        have hsn : begN s 4 = Bw.sipBegin s := rfl
        have hsb : (Bw.sipBegin s).2.2.2 = 8387220255154660723 ^^^ Bw.low8 (s.drop 8) := rfl
        have hxr : bits .xor .u64 8387220255154660723 ((Bw.low8 (s.drop 8) : Nat) : Int) = (((Bw.sipBegin s).2.2.2 : Nat) : Int) := by rw [hsb]; exact bits_xor_u64_nat 8387220255154660723 _ (by decide) (Bw.low8_lt _)
        have e0 : begN s 3 = ((Bw.sipBegin s).1, (Bw.sipBegin s).2.1, (Bw.sipBegin s).2.2.1, 0) := rfl
        rw [e0] at hx
        dsimp only at hx
        have hx' := set1_4 (x := .int .u64 (((Bw.sipBegin s).2.2.2 : Nat) : Int)) (i := 3) hx (by decide)
        have hr' := (Below.heap_setCell wr ⟨w.heap.size + 2, 3, none⟩ (.int .u64 (((Bw.sipBegin s).2.2.2 : Nat) : Int)) (w.heap.size + 1) (by simp)).trans hr
        have hsd' : SeedIn (wr.setCell ⟨w.heap.size + 2, 3, none⟩ (.int .u64 (((Bw.sipBegin s).2.2.2 : Nat) : Int))) w.heap.size s := (Below.heap_setCell wr ⟨w.heap.size + 2, 3, none⟩ (.int .u64 (((Bw.sipBegin s).2.2.2 : Nat) : Int)) w.heap.size (by simp)).trans hsd
        have hB' : Below w.heap.size w (wr.setCell ⟨w.heap.size + 2, 3, none⟩ (.int .u64 (((Bw.sipBegin s).2.2.2 : Nat) : Int))) := hB.setCell (by simp) _
        have HFIN : Hid (BegRel s w (.int .i64 4) ((wr.setCell ⟨w.heap.size + 2, 3, none⟩ (.int .u64 (((Bw.sipBegin s).2.2.2 : Nat) : Int))).drew)) := Lib.hid ⟨4, by decide, rfl, by rw [hsn]; exact hx', hr', hsd', hB'.drew⟩
        have w8 : IntKind.i64.wrap 8 = 8 := rfl
        have w16 : IntKind.i64.wrap 16 = 16 := rfl
        have hcell := hst.2.2.2
        have hcell2 : ∀ u, ((wr.setCell ⟨w.heap.size + 1 + 1, 3, none⟩ u).drew).cell? ⟨0, 3, none⟩ = some (.int .u64 8387220255154660723) := fun u => (World.cell?_setCell_far _ _ _ _ (by simp)).trans hcell
        obtain ⟨⟨k0, k1, k2, k3⟩, f0, f1, f2, f3⟩ := cells4 hx
        clear hx' hr' hsd' hB' hsn hx hr hsd hst hB e0 hsb hl8 H0
        generalize (Bw.sipBegin s).2.2.2 = yk at *
        generalize Bw.low8 (s.drop 8) = lk at *
        go_wp2_with fail
        go_region_held3 (fun W => W.cell? ⟨0, 3, none⟩ = some (.int .u64 8387220255154660723)) (first | exact hcell | exact hcell2 _)
          ((go_at_call 71; (with_reducible refine (CL.out _ (by exact gB3)).mono ?_); rintro e w' ⟨rfl, rfl⟩))
        go_wp2
        exact ⟨HFIN.out, by simp [intOf]⟩
    · obtain rfl : k = 4 := by omega
      have e0 : begN s 4 = Bw.sipBegin s := rfl
      rw [e0] at hx
      obtain ⟨y, hy⟩ : ∃ y, Bw.sipBegin s = y := ⟨_, rfl⟩
      rw [hy] at hx
      have HY := Lib.hid hy
      clear e0 hy
      obtain ⟨y0, y1, y2, y3⟩ := y
      dsimp only at hx
      obtain ⟨⟨k0, k1, k2, k3⟩, f0, f1, f2, f3⟩ := cells4 hx
      obtain ⟨⟨l0, l1, l2, l3⟩, g0, g1, g2, g3⟩ := cells4 hr
      obtain ⟨⟨n0, n1, n2, n3⟩, _⟩ := cells4 (set4 (x0 := .int .u64 (y0 : Nat)) (x1 := .int .u64 (y1 : Nat)) (x2 := .int .u64 (y2 : Nat)) (x3 := .int .u64 (y3 : Nat)) hr)
      have HB := Lib.hid hB
      clear hB hx hr hsd hst H0
      go_wp2
      have hbb := HB.out
      refine bodyPost_ret (v := sipV (y0, y1, y2, y3)) ?_ rfl ?_
      · clear k0 k1 k2 k3 f0 f1 f2 f3 l0 l1 l2 l3 g0 g1 g2 g3 hbb
        simp [results, Tryz.results69, go_sem, n0, n1, n2, n3, sipV]
      · clear k0 k1 k2 k3 f0 f1 f2 f3 l0 l1 l2 l3 g0 g1 g2 g3 n0 n1 n2 n3
        refine ⟨by rw [HY.out], ?_⟩
        exact gB5
theorem eights_lt {x : Bw.Sip} {l : Bw.Bytes} (h : l.length < 8) : Bw.sipEights x l = (x, l) := by
  match l, h with
  | [], _ => rfl
  | [_], _ => rfl
  | [_, _], _ => rfl
  | [_, _, _], _ => rfl
  | [_, _, _, _], _ => rfl
  | [_, _, _, _, _], _ => rfl
  | [_, _, _, _, _, _], _ => rfl
  | [_, _, _, _, _, _, _], _ => rfl
theorem eights_ge {x : Bw.Sip} {l : Bw.Bytes} (h : 8 <= l.length) : Bw.sipEights x l = Bw.sipEights (Bw.sipTake x (Bw.low8 l)) (l.drop 8) := by
  match l, h with
  | a :: b :: c :: d :: e :: f :: g :: h :: r, _ => rfl
def HashR (x0 : Bw.Sip) (key : Bw.Bytes) (B : Nat) (w : World) (kv : Value) (wr : World) : Prop :=
  ∃ (rest : Bw.Bytes) (x : Bw.Sip), BytesAt (fun k => k < w.heap.size) wr kv rest /\ rest.length <= 1048576 /\ Bw.sipEights x0 key = Bw.sipEights x rest /\ x.ok /\
    wr.heap[B]? = some (.cells #[.int .u64 (x.1 : Nat), .int .u64 (x.2.1 : Nat), .int .u64 (x.2.2.1 : Nat), .int .u64 (x.2.2.2 : Nat)] 146 (0, 0)) /\ Below w.heap.size w wr
def lenOf : Value -> Nat
  | .slice _ n _ => n
  | _ => 0
set_option maxRecDepth 100000 in
set_option maxHeartbeats 2000000 in
theorem shash_any {ok : Nat -> Prop} {s : List UInt8} {key : Bw.Bytes} {kv : Value} {w : World} (hs : s.length = 16) (hk : BytesAt ok w kv key) (hl : key.length <= 1048576) (hS : Sta w) :
    Calls Tryz.prog 40 #[seedV s, kv] w fun e w' => e = .returned (.int .u64 (Bw.sipHash s key : Nat)) /\ Below w.heap.size w w' := by
  have hpos := hS.pos
  obtain ⟨K, ck, rfl⟩ := hk.form
  have CB := Lib.hid (fun (W : World) (hW : Below w.heap.size w W) => sbegin_any hs W (hS.below hpos hW))
  have HN : Hid (IntKind.u64.wrap (IntKind.u64.wrap (IntKind.u8.wrap (key.length : Int)) * 72057594037927936) = ((key.length % 256 * 2 ^ 56 : Nat) : Int)) := Lib.hid (by rw [IntKind.wrap_u64, IntKind.wrap_u64, IntKind.wrap_u8]; omega)
  have hbo := Bw.sipBegin_ok s
  have HK : Hid (∀ W, Below w.heap.size w W -> BytesAt (fun k => k < w.heap.size) W (.slice K key.length ck) key) := Lib.hid fun W hW => hk.move goodByte (fun k _ hlt => ⟨hlt, hW.block k hlt⟩)
  have HF : Hid (Bw.sipHash s key = Bw.sipEnd (Bw.sipTake (Bw.sipEights (Bw.sipBegin s) key).1 (key.length % 256 * 2 ^ 56 ||| Bw.low8 (Bw.sipEights (Bw.sipBegin s) key).2))) := Lib.hid rfl
  have HL := Lib.hid hl
  obtain ⟨a0, a1, a2, a3, a4, a5, a6, a7, a8, a9, aA, aB, aC, aD, aE, aF, hs16⟩ := mapE16 hs
  subst hs16
  obtain ⟨x0, hx0⟩ : ∃ x0, Bw.sipBegin [a0, a1, a2, a3, a4, a5, a6, a7, a8, a9, aA, aB, aC, aD, aE, aF] = x0 := ⟨_, rfl⟩
  rw [hx0] at HF hbo CB
  simp only [seedV, List.map_cons, List.map_nil] at CB ⊢
  have HBO := Lib.hid hbo
  have HPOS := Lib.hid hpos
  clear hk hl hS hs hx0 hbo hpos
  go_enter Tryz.func40, Tryz.ntmps40
  go_wp2_with fail
  refine (CB.out _ (by exact gB3)).mono ?_
  rintro e w1 ⟨rfl, hb1⟩
  generalize Value.agg #[encB a0, encB a1, encB a2, encB a3, encB a4, encB a5, encB a6, encB a7, encB a8, encB a9, encB aA, encB aB, encB aC, encB aD, encB aE, encB aF] = SV
  have hb01 : Below w.heap.size w w1 := Below.trans (by exact gB3) (hb1.mono (by simp))
  obtain ⟨x00, x01, x02, x03⟩ := x0
  simp only [sipV]
  obtain ⟨W2, hW2⟩ : ∃ W2, w1.alloc (.cells #[.int .u64 (x00 : Nat), .int .u64 (x01 : Nat), .int .u64 (x02 : Nat), .int .u64 (x03 : Nat)] 146) = W2 := ⟨_, rfl⟩
  have hb02 : Below w.heap.size w W2 := by rw [<- hW2]; exact hb01.alloc hb01.size _
  have H0 : Hid (HashR (x00, x01, x02, x03) key w1.heap.size w (.slice K key.length ck) W2) := Lib.hid ⟨key, _, HK.out W2 hb02, HL.out, rfl, HBO.out, by rw [<- hW2]; exact heap_alloc_new w1 _, hb02⟩
  have HW2 := Lib.hid hW2
  have HB1 := Lib.hid (hb01.size)
  clear hb1 hb01 hb02 hW2 CB
  go_wp2_with fail
  rw [HW2.out]
  go_wp2_with fail
  go_loopw [1] (HashR (x00, x01, x02, x03) key w1.heap.size w) (fun kv _ => lenOf kv)
  case atStart => exact H0.out
  case round =>
    obtain ⟨rest, x, hrow, hrl, hei, hxo, hblk, hB⟩ := hrel
    obtain ⟨⟨k0, k1, k2, k3⟩, f0, f1, f2, f3⟩ := cells4 hblk
    have hBl := World.block_lt_of_cell? wr _ k0
    dsimp only at hBl
    obtain ⟨A, c, rfl⟩ := hrow.form
    have CL := Lib.hid (fun (W : World) (hW : Below wr.heap.size wr W) => wlow_any (hrow.move goodByte (Moves.below hW)) hrl)
    by_cases h8 : 8 <= rest.length
    · have hge := eights_ge (x := x) h8
      have CT := Lib.hid (fun (W : World) => stake_any hxo (Bw.low8_lt rest) W)
      have hok2 := Bw.sipTake_ok hxo (Bw.low8_lt rest)
      obtain ⟨x0', x1', x2', x3'⟩ := x
      obtain ⟨z, hz⟩ : ∃ z, Bw.sipTake (x0', x1', x2', x3') (Bw.low8 rest) = z := ⟨_, rfl⟩
      rw [hz] at CT hok2 hge
      obtain ⟨z0, z1, z2, z3⟩ := z
      simp only [sipV] at CT
      dsimp only at k0 k1 k2 k3 hblk
      obtain ⟨b, o, cs', rfl, hd', hc'⟩ := hrow.get (List.getElem?_eq_getElem (show 0 < rest.length by omega))
      obtain ⟨_, hc1, hc2⟩ := hrow.cap
      have i1 : (8 : Int) <= (rest.length : Int) := by omega
      have i2 : (rest.length : Int) <= (c : Int) := by omega
      have HROW := Lib.hid hrow; have HBB := Lib.hid hB; have HOK2 := Lib.hid hok2; have HBLK := Lib.hid hblk; have HEI := Lib.hid (hei.trans hge); have HRL := Lib.hid hrl; have H8 := Lib.hid h8; have HBL := Lib.hid hBl
      clear hrow hB hok2 hblk hei hge hrl hz H0 hxo hd' hc'
      generalize Bw.low8 rest = lw at *
      go_wp2_with fail
      go_region_law
        ((first
          | (go_simp; go_at_call 71; (with_reducible refine (CL.out _ (by exact gB3)).mono ?_); rintro e w' ⟨rfl, rfl⟩)
          | (go_simp; go_at_call 70; (with_reducible refine (CT.out _).mono ?_); rintro e w3 ⟨rfl, hb3'⟩; have hb3 : Below wr.heap.size wr w3 := Below.trans (by exact gB3) (hb3'.mono (by simp)); have d1 := (hb3.block w1.heap.size HBL.out).trans HBLK.out; obtain ⟨⟨m0, m1, m2, m3⟩, g0, g1, g2, g3⟩ := cells4 d1)))
      all_goals
       (have HE := Lib.hid (set4 (x0 := .int .u64 (z0 : Nat)) (x1 := .int .u64 (z1 : Nat)) (x2 := .int .u64 (z2 : Nat)) (x3 := .int .u64 (z3 : Nat)) d1)
        have hn3 : w1.heap.size < w3.heap.size := Nat.lt_of_lt_of_le HBL.out hb3.size
        have hbX : Below w.heap.size wr ((((w3.setCell ⟨w1.heap.size, 0, none⟩ (.int .u64 (z0 : Nat))).setCell ⟨w1.heap.size, 1, none⟩ (.int .u64 (z1 : Nat))).setCell ⟨w1.heap.size, 2, none⟩ (.int .u64 (z2 : Nat))).setCell ⟨w1.heap.size, 3, none⟩ (.int .u64 (z3 : Nat))) := by
          have hb3w := hb3.mono HBB.out.size
          have h1 := HB1.out
          clear hb3 hb3' HBB
          exact gB5
        have HBX := Lib.hid hbX
        clear hb3 hb3' hbX d1 m0 m1 m2 m3 g0 g1 g2 g3 k0 k1 k2 k3 f0 f1 f2 f3 CL CT
        by_cases hc8 : c = 8
        · subst hc8
          have hr8 : rest.length = 8 := by have := H8.out; omega
          have hd8 : rest.drop 8 = [] := List.drop_of_length_le (by omega)
          have HEI2 : Hid (Bw.sipEights (x00, x01, x02, x03) key = Bw.sipEights (z0, z1, z2, z3) []) := Lib.hid (by rw [<- hd8]; exact HEI.out)
          have HR8 := Lib.hid hr8
          clear hr8 hd8
          go_wp2
          exact ⟨⟨[], _, RowAt.empty (by unfold maxLen; omega), by simp, HEI2.out, HOK2.out, HE.out, HBB.out.trans HBX.out⟩, by simp only [lenOf]; rw [HR8.out]; decide⟩
        · have i3 : ¬ (c = 8) := hc8
          have HD : Hid (BytesAt (fun k => k < w.heap.size) wr (.slice (some ⟨b, o + 8, none⟩) (rest.length - 8) (c - 8)) (rest.drop 8)) := Lib.hid (by have := HROW.out.drop (k := 8) H8.out; simpa using this)
          have HD8 : Hid ((rest.drop 8).length <= 1048576) := Lib.hid (by rw [List.length_drop]; have := HRL.out; omega)
          go_wp2
          exact ⟨⟨rest.drop 8, _, HD.out.move goodByte (fun k hk _ => ⟨hk, HBX.out.block k hk⟩), HD8.out, HEI.out, HOK2.out, HE.out, HBB.out.trans HBX.out⟩, by simp only [lenOf]; have := H8.out; omega⟩)
    · have hlt8 : rest.length < 8 := by omega
      have hfe := eights_lt (x := x) hlt8
      rw [hfe] at hei
      have hF := HF.out
      rw [hei] at hF
      dsimp only at hF
      have hnl : key.length % 256 * 2 ^ 56 < 18446744073709551616 := by omega
      have hor : bits .or .u64 ((key.length : Int) % 256 * 72057594037927936) ((Bw.low8 rest : Nat) : Int) = ((key.length % 256 * 2 ^ 56 ||| Bw.low8 rest : Nat) : Int) := by
        rw [<- bits_or_u64_nat _ _ hnl (Bw.low8_lt rest)]
        congr 1
      have hol := Bw.or_lt64 hnl (Bw.low8_lt rest)
      have CT := Lib.hid (fun (W : World) => stake_any hxo hol W)
      have CE := Lib.hid (fun (W : World) => send_any (Bw.sipTake_ok hxo hol) W)
      have HFIN := Lib.hid hF
      have i1 : ¬ ((8 : Int) <= (rest.length : Int)) := by omega
      obtain ⟨x0', x1', x2', x3'⟩ := x
      obtain ⟨z, hz⟩ : ∃ z, Bw.sipTake (x0', x1', x2', x3') (key.length % 256 * 2 ^ 56 ||| Bw.low8 rest) = z := ⟨_, rfl⟩
      rw [hz] at CT CE HFIN
      simp only [sipV] at CT CE
      dsimp only at k0 k1 k2 k3 hblk
      have HBB := Lib.hid hB
      generalize key.length % 256 * 2 ^ 56 ||| Bw.low8 rest = lo at *
      generalize Bw.low8 rest = lw at *
      clear hrow hB hxo hblk hei hrl hz H0 hF hfe hnl hol hlt8
      go_wp2_with fail
      go_region_held3 (fun W => W.cell? ⟨w1.heap.size, 0, none⟩ = some (.int .u64 (x0' : Nat)) /\ W.cell? ⟨w1.heap.size, 1, none⟩ = some (.int .u64 (x1' : Nat)) /\ W.cell? ⟨w1.heap.size, 2, none⟩ = some (.int .u64 (x2' : Nat)) /\ W.cell? ⟨w1.heap.size, 3, none⟩ = some (.int .u64 (x3' : Nat)))
        (first | exact ⟨k0, k1, k2, k3⟩ | exact ⟨(hb5.cell (p := ⟨w1.heap.size, 0, none⟩) hBl).trans k0, (hb5.cell (p := ⟨w1.heap.size, 1, none⟩) hBl).trans k1, (hb5.cell (p := ⟨w1.heap.size, 2, none⟩) hBl).trans k2, (hb5.cell (p := ⟨w1.heap.size, 3, none⟩) hBl).trans k3⟩ | exact ⟨(hb4.cell (p := ⟨w1.heap.size, 0, none⟩) hBl).trans k0, (hb4.cell (p := ⟨w1.heap.size, 1, none⟩) hBl).trans k1, (hb4.cell (p := ⟨w1.heap.size, 2, none⟩) hBl).trans k2, (hb4.cell (p := ⟨w1.heap.size, 3, none⟩) hBl).trans k3⟩)
        ((first
          | (go_at_call 71; (with_reducible refine (CL.out _ (by exact gB3)).mono ?_); rintro e w' ⟨rfl, rfl⟩)
          | (go_at_call 70; (with_reducible refine (CT.out _).mono ?_); rintro e w4 ⟨rfl, hb4'⟩; have hb4 : Below wr.heap.size wr w4 := Below.trans (by exact gB3) (hb4'.mono (by simp)))
          | (go_at_call 72; (with_reducible refine (CE.out _).mono ?_); rintro e w5 ⟨rfl, hb5'⟩; have hb5 : Below wr.heap.size wr w5 := hb4.trans (hb5'.mono hb4.size))))
      go_wp2
      go_ret
      exact ⟨by rw [HFIN.out]; rfl, HBB.out.trans (hb5.mono HBB.out.size)⟩
end Go.Proofs.YtadaoceidkagfaaGreatDoor
