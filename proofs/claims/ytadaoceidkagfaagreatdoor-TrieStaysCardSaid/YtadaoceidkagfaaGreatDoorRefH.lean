
import Derived.Deep.RegionHeld3
import Derived.Test.YtadaoceidkagfaaGreatDoorSipA
import Derived.Test.YtadaoceidkagfaaGreatDoorBwT
import Derived.Test.YtadaoceidkagfaaGreatDoorStepT
import Derived.Test.YtadaoceidkagfaaGreatDoorTwoA
/- A drawn region by an invariant of what is listed, of the state and of the world: each operation once, whatever the order. -/
namespace Go
theorem ready_lt {md : Region.Mode} {ops : Array Oper} {listed : Array Bool} {i : Nat} (h : i ∈ Region.ready md ops listed) : i < ops.size := by
  obtain ⟨_, o, ho, _⟩ := mem_ready.1 h
  exact (Array.getElem?_eq_some_iff.1 ho).1
def Region.left (ops : Array Oper) (listed : Array Bool) : List Nat := (List.range ops.size).filter fun i => !listed.getD i true
theorem left_set {ops : Array Oper} {listed : Array Bool} {i : Nat} {md : Region.Mode} (h : i ∈ Region.ready md ops listed) : (Region.left ops (listed.setIfInBounds i true)).length < (Region.left ops listed).length := by
  have h1 := (mem_ready.1 h).1
  have e : Region.left ops (listed.setIfInBounds i true) = (Region.left ops listed).filter fun j => decide (j ≠ i) := by
    unfold Region.left
    rw [List.filter_filter]
    congr 1
    funext j
    by_cases hj : j = i
    · subst hj
      have hs : j < listed.size := by
        rcases Nat.lt_or_ge j listed.size with h' | h'
        · exact h'
        · simp [Array.getElem?_eq_none h'] at h1
      simp [hs]
    · rw [getD_set_ne true (Ne.symm hj)]
      simp [hj]
  rw [e, List.length_filter_lt_length_iff_exists]
  exact ⟨i, by unfold Region.left; rw [List.mem_filter, List.mem_range]; exact ⟨ready_lt h, by rw [h1]; rfl⟩, by simp⟩
theorem wpAnyH_inv {P : Program} {md : Region.Mode} {ops : Array Oper} {Q : Exit -> Act -> World -> Prop} {S : World -> Prop} (I : Array Bool -> Act -> World -> Prop)
    (hend : ∀ listed a w, I listed a w -> Region.ready md ops listed = [] -> Q .normal a w)
    (hstep : ∀ listed a w, I listed a w -> ∀ i, i ∈ Region.ready md ops listed -> wpOp P ops Q i (fun a' w' => S w' /\ I (listed.setIfInBounds i true) a' w') a w) :
    ∀ (fuel : Nat) (listed : Array Bool) (a : Act) (w : World), I listed a w -> (Region.left ops listed).length <= fuel -> wpAnyH P md ops Q S fuel listed a w := by
  intro fuel
  induction fuel with
  | zero =>
    intro listed a w hI hl
    have hr : Region.ready md ops listed = [] := List.eq_nil_iff_forall_not_mem.2 fun i hi => by
      have h1 := left_set hi
      omega
    exact ⟨hr, hend _ _ _ hI hr⟩
  | succ fuel ih =>
    intro listed a w hI hl
    exact ⟨hend _ _ _ hI, fun i hi => wpOp_mono (fun a' w' h => ⟨h.1, ih _ _ _ h.2 (by have := left_set hi; omega)⟩) (hstep _ _ _ hI i hi)⟩
end Go
/- ref05: a number as two halves; sums, turns. -/
namespace Go.Proofs.YtadaoceidkagfaaGreatDoor
open Go.RowKit Go.Bw
def twoV (x : Nat) : Value := .agg #[.int .u64 (x / 4294967296 : Nat), .int .u64 (x % 4294967296 : Nat)]
theorem cells2 {W : World} {b : Nat} {a0 a1 : Value} {t : TypeId} (h : W.heap[b]? = some (.cells #[a0, a1] t (0, 0))) :
    (W.cell? ⟨b, 0, none⟩ = some a0 /\ W.cell? ⟨b, 1, none⟩ = some a1) /\ W.frozen? ⟨b, 0, none⟩ = false /\ W.frozen? ⟨b, 1, none⟩ = false := by
  refine ⟨⟨?_, ?_⟩, ?_, ?_⟩ <;> simp [World.cell?, World.frozen?, h]
theorem half_lt {x : Nat} (h : x < 18446744073709551616) : x / 4294967296 < 4294967296 := by omega
theorem rest_lt (x : Nat) : x % 4294967296 < 4294967296 := Nat.mod_lt _ (by decide)
set_option maxRecDepth 100000 in
set_option maxHeartbeats 400000 in
theorem of05_any {x : Nat} (hx : x < 18446744073709551616) (w : World) :
    Calls Tryz.prog 116 #[.int .u64 (x : Nat)] w fun e w' => e = .returned (twoV x) /\ Below w.heap.size w w' := by
  have hd : Int.tdiv (x : Int) 4294967296 = ((x / 4294967296 : Nat) : Int) := by rw [Int.tdiv_eq_ediv_of_nonneg (by omega)]; omega
  have hm : Int.tmod (x : Int) 4294967296 = ((x % 4294967296 : Nat) : Int) := by rw [Int.tmod_eq_emod_of_nonneg (by omega)]; omega
  unfold twoV
  go_enter Tryz.func116, Tryz.ntmps116
  go_wp2
  refine bodyPost_ret (v := .agg #[.int .u64 (x / 4294967296 : Nat), .int .u64 (x % 4294967296 : Nat)]) (by simp [results, Tryz.results116, go_sem]) rfl ⟨rfl, by exact gB5⟩
set_option maxRecDepth 100000 in
set_option maxHeartbeats 400000 in
theorem whole05_any {x : Nat} (hx : x < 18446744073709551616) (w : World) :
    Calls Tryz.prog 118 #[twoV x] w fun e w' => e = .returned (.int .u64 (x : Nat)) /\ Below w.heap.size w w' := by
  have hw : IntKind.u64.wrap (IntKind.u64.wrap (((x / 4294967296 : Nat) : Int) * 4294967296) + ((x % 4294967296 : Nat) : Int)) = (x : Int) := by rw [IntKind.wrap_u64, IntKind.wrap_u64]; omega
  unfold twoV
  have HW := Lib.hid hw
  clear hx hw
  generalize x / 4294967296 = a at *
  generalize x % 4294967296 = b at *
  go_enter Tryz.func118, Tryz.ntmps118
  go_wp2
  rw [HW.out]
  go_ret
  exact ⟨rfl, by exact gB5⟩
set_option maxRecDepth 100000 in
set_option maxHeartbeats 400000 in
theorem plus05_any {x y : Nat} (hx : x < 18446744073709551616) (hy : y < 18446744073709551616) (w : World) :
    Calls Tryz.prog 139 #[twoV x, twoV y] w fun e w' => e = .returned (twoV (Bw.mixA x y)) /\ Below w.heap.size w w' := by
  have h1 : Bw.mixA x y / 4294967296 = (x / 4294967296 + y / 4294967296 + (x % 4294967296 + y % 4294967296) / 4294967296) % 4294967296 := by unfold Bw.mixA Bw.W64; omega
  have h2 : Bw.mixA x y % 4294967296 = (x % 4294967296 + y % 4294967296) % 4294967296 := by unfold Bw.mixA Bw.W64; omega
  have ha := half_lt hx; have hb := rest_lt x; have hc := half_lt hy; have hd := rest_lt y
  unfold twoV
  rw [h1, h2]
  clear hx hy h1 h2
  generalize x / 4294967296 = a at *
  generalize x % 4294967296 = b at *
  generalize y / 4294967296 = c at *
  generalize y % 4294967296 = d at *
  have e1 : IntKind.u64.wrap ((a : Int) + (c : Int)) = (a : Int) + (c : Int) := by rw [IntKind.wrap_u64]; omega
  have e2 : IntKind.u64.wrap ((a : Int) + (c : Int) + ((b : Int) + (d : Int)) / 4294967296) = (a : Int) + (c : Int) + ((b : Int) + (d : Int)) / 4294967296 := by rw [IntKind.wrap_u64]; omega
  have e3 : ((a : Int) + (c : Int) + ((b : Int) + (d : Int)) / 4294967296) % 4294967296 = (((a + c + (b + d) / 4294967296) % 4294967296 : Nat) : Int) := by omega
  have e4 : ((b : Int) + (d : Int)) % 4294967296 = (((b + d) % 4294967296 : Nat) : Int) := by omega
  have E3 := Lib.hid e3; have E4 := Lib.hid e4
  clear e3 e4
  go_enter Tryz.func139, Tryz.ntmps139
  go_wp2
  rw [E3.out, E4.out]
  refine bodyPost_ret (v := .agg #[.int .u64 (((a + c + (b + d) / 4294967296) % 4294967296 : Nat) : Int), .int .u64 (((b + d) % 4294967296 : Nat) : Int)]) (by simp [results, Tryz.results139, go_sem]) rfl ⟨rfl, by exact gB5⟩
set_option maxRecDepth 100000 in
set_option maxHeartbeats 400000 in
theorem xor05_any {x y : Nat} (hx : x < 18446744073709551616) (hy : y < 18446744073709551616) (w : World) :
    Calls Tryz.prog 140 #[twoV x, twoV y] w fun e w' => e = .returned (twoV (x ^^^ y)) /\ Below w.heap.size w w' := by
  obtain ⟨h1, h2⟩ := Bw.two_xor hx hy
  have ha := half_lt hx; have hb := rest_lt x; have hc := half_lt hy; have hd := rest_lt y
  unfold twoV
  rw [h1, h2]
  clear hx hy h1 h2
  generalize x / 4294967296 = a at *
  generalize x % 4294967296 = b at *
  generalize y / 4294967296 = c at *
  generalize y % 4294967296 = d at *
  have e1 : bits .xor .u64 (a : Int) (c : Int) = ((a ^^^ c : Nat) : Int) := bits_xor_u64_nat _ _ (by omega) (by omega)
  have e2 : bits .xor .u64 (b : Int) (d : Int) = ((b ^^^ d : Nat) : Int) := bits_xor_u64_nat _ _ (by omega) (by omega)
  generalize a ^^^ c = u at *
  generalize b ^^^ d = v at *
  go_enter Tryz.func140, Tryz.ntmps140
  go_wp2
  refine bodyPost_ret (v := .agg #[.int .u64 (u : Nat), .int .u64 (v : Nat)]) (by simp [results, Tryz.results140, go_sem]) rfl ⟨rfl, by exact gB5⟩
theorem div_parts {a b : Nat} (h : b < 4294967296) : (a * 4294967296 + b) / 4294967296 = a /\ (a * 4294967296 + b) % 4294967296 = b := by omega
def PowR (k : Nat) (p i : Value) : Prop := ∃ j : Nat, j <= k /\ i = .int .u64 (j : Nat) /\ p = .int .u64 (2 ^ j : Nat)
def u64Of : Value -> Nat
  | .int _ n => n.toNat
  | _ => 0
set_option maxRecDepth 100000 in
set_option maxHeartbeats 1000000 in
theorem turn05_any {x k : Nat} (hx : x < 18446744073709551616) (hk : k = 13 \/ k = 16 \/ k = 17 \/ k = 21) (w : World) :
    Calls Tryz.prog 141 #[twoV x, .int .u64 (k : Nat)] w fun e w' => e = .returned (twoV (Bw.turn64 x k)) /\ Below w.heap.size w w' := by
  have ht := Bw.two_turn hx hk
  have hp : (2 : Nat) ^ k <= 2097152 := by rcases hk with rfl | rfl | rfl | rfl <;> decide
  have hp1 : 1 <= (2 : Nat) ^ k := Nat.one_le_two_pow
  have ha := half_lt hx; have hb := rest_lt x
  have hk32 : k <= 21 := by omega
  have hm1 := Bw.two_fit (a := x / 4294967296) hb hk
  have hm2 := Bw.two_fit (a := x % 4294967296) ha hk
  have h1 : Bw.turn64 x k / 4294967296 = x / 4294967296 * 2 ^ k % 4294967296 + x % 4294967296 * 2 ^ k / 4294967296 := by rw [ht]; exact (div_parts hm2).1
  have h2 : Bw.turn64 x k % 4294967296 = x % 4294967296 * 2 ^ k % 4294967296 + x / 4294967296 * 2 ^ k / 4294967296 := by rw [ht]; exact (div_parts hm2).2
  unfold twoV
  rw [h1, h2]
  have HM1 := Lib.hid hm1; have HM2 := Lib.hid hm2
  have HU1 : Hid (x / 4294967296 * 2 ^ k < 18446744073709551616) := Lib.hid (by rcases hk with rfl | rfl | rfl | rfl <;> omega)
  have HU2 : Hid (x % 4294967296 * 2 ^ k < 18446744073709551616) := Lib.hid (by rcases hk with rfl | rfl | rfl | rfl <;> omega)
  clear ht hx h1 h2 hm1 hm2 hp hp1 hk
  have HK := Lib.hid hk32
  obtain ⟨p, hp⟩ : ∃ p, 2 ^ k = p := ⟨_, rfl⟩
  rw [hp] at HM1 HM2 HU1 HU2
  have HP := Lib.hid hp
  rw [hp]
  clear hp
  generalize x / 4294967296 = a at *
  generalize x % 4294967296 = b at *
  have H0 : Hid (PowR k (.int .u64 1) (.int .u64 0)) := Lib.hid ⟨0, Nat.zero_le _, rfl, rfl⟩
  go_enter Tryz.func141, Tryz.ntmps141
  go_wp2_with fail
  go_loop [5, 6] (PowR k) (fun _ i => k - u64Of i)
  case atStart => exact H0.out
  case round =>
    obtain ⟨j, hj, rfl, rfl⟩ := hrel
    by_cases hlt : j < k
    · have i1 : (j : Int) < (k : Int) := by omega
      have hj21 : j < 21 := by have := HK.out; omega
      have hpw : (2 : Nat) ^ j <= 2 ^ 21 := Nat.pow_le_pow_right (by decide) (by omega)
      have E1 : Hid (IntKind.u64.wrap (((2 ^ j : Nat) : Int) * 2) = ((2 ^ (j + 1) : Nat) : Int)) := Lib.hid (by rw [IntKind.wrap_u64, Nat.pow_succ]; omega)
      have HJ := Lib.hid hlt
      clear hpw hj21 hlt hj
      obtain ⟨q, hq⟩ : ∃ q, (2 : Nat) ^ (j + 1) = q := ⟨_, rfl⟩
      rw [hq] at E1
      have HQ := Lib.hid hq
      clear hq
      generalize (2 : Nat) ^ j = q0 at *
      go_wp2
      rw [E1.out, show (j : Int) + 1 = ((j + 1 : Nat) : Int) from rfl]
      exact ⟨⟨j + 1, HJ.out, rfl, by rw [HQ.out]⟩, by simp only [u64Of]; have := HJ.out; omega⟩
    · obtain rfl : j = k := by omega
      rw [HP.out]
      have e1 : IntKind.u64.wrap ((a : Int) * (p : Int)) = ((a * p : Nat) : Int) := by have := HU1.out; rw [IntKind.wrap_u64, <- Int.natCast_mul]; omega
      have e2 : IntKind.u64.wrap ((b : Int) * (p : Int)) = ((b * p : Nat) : Int) := by have := HU2.out; rw [IntKind.wrap_u64, <- Int.natCast_mul]; omega
      have hu1 := HU1.out; have hu2 := HU2.out; have hm1 := HM1.out; have hm2 := HM2.out
      obtain ⟨A, hA⟩ : ∃ A, a * p = A := ⟨_, rfl⟩
      obtain ⟨B, hB⟩ : ∃ B, b * p = B := ⟨_, rfl⟩
      rw [hA] at e1 hu1 hm1 hm2
      rw [hB] at e2 hu2 hm1 hm2
      have HA := Lib.hid hA; have HB := Lib.hid hB
      clear hA hB
      clear hlt hj H0 HU1 HU2 HM1 HM2 HP
      go_wp2_with fail
      go_quiet (fail)
      rename_i nq
      go_wp2_with fail
      refine bodyPost_ret (v := .agg #[.int .u64 ((A % 4294967296 + B / 4294967296 : Nat) : Int), .int .u64 ((B % 4294967296 + A / 4294967296 : Nat) : Int)]) (by simp [results, Tryz.results141, go_sem]) rfl ⟨by rw [HA.out, HB.out], by exact gB5⟩
set_option maxRecDepth 100000 in
set_option maxHeartbeats 400000 in
theorem swap05_any {x : Nat} (hx : x < 18446744073709551616) (w : World) :
    Calls Tryz.prog 142 #[twoV x] w fun e w' => e = .returned (twoV (Bw.turn64 x 32)) /\ Below w.heap.size w w' := by
  have hs := Bw.two_swap hx
  have h1 : Bw.turn64 x 32 / 4294967296 = x % 4294967296 := by rw [hs]; omega
  have h2 : Bw.turn64 x 32 % 4294967296 = x / 4294967296 := by rw [hs]; omega
  unfold twoV
  rw [h1, h2]
  clear hx hs h1 h2
  generalize x / 4294967296 = a at *
  generalize x % 4294967296 = b at *
  go_enter Tryz.func142, Tryz.ntmps142
  go_wp2
  refine bodyPost_ret (v := .agg #[.int .u64 (b : Nat), .int .u64 (a : Nat)]) (by simp [results, Tryz.results142, go_sem]) rfl ⟨rfl, by exact gB5⟩
end Go.Proofs.YtadaoceidkagfaaGreatDoor
/- ref05.Round. Printed by mkround.py. -/
namespace Go.Proofs.YtadaoceidkagfaaGreatDoor
open Go.RowKit Go.Bw
structure R4 (w : World) (p0 p1 q0 q1 r0 r1 s0 s1 : Nat) (W : World) : Prop where
  p : W.heap[w.heap.size]? = some (.cells #[.int .u64 (p0 : Nat), .int .u64 (p1 : Nat)] 191 (0, 0))
  q : W.heap[w.heap.size + 1]? = some (.cells #[.int .u64 (q0 : Nat), .int .u64 (q1 : Nat)] 191 (0, 0))
  r : W.heap[w.heap.size + 1 + 1]? = some (.cells #[.int .u64 (r0 : Nat), .int .u64 (r1 : Nat)] 191 (0, 0))
  s : W.heap[w.heap.size + 1 + 1 + 1]? = some (.cells #[.int .u64 (s0 : Nat), .int .u64 (s1 : Nat)] 191 (0, 0))
  z0 : W.heap[w.heap.size + 1 + 1 + 1 + 1]? = some (.cells #[.int .u64 0, .int .u64 0] 191 (0, 0))
  z1 : W.heap[w.heap.size + 1 + 1 + 1 + 1 + 1]? = some (.cells #[.int .u64 0, .int .u64 0] 191 (0, 0))
  z2 : W.heap[w.heap.size + 1 + 1 + 1 + 1 + 1 + 1]? = some (.cells #[.int .u64 0, .int .u64 0] 191 (0, 0))
  z3 : W.heap[w.heap.size + 1 + 1 + 1 + 1 + 1 + 1 + 1]? = some (.cells #[.int .u64 0, .int .u64 0] 191 (0, 0))
  hB : Below w.heap.size w W
theorem set2_heap {W : World} {b : Nat} {a0 a1 x0 x1 : Value} {t : TypeId} (h : W.heap[b]? = some (.cells #[a0, a1] t (0, 0))) : ((W.setCell ⟨b, 0, none⟩ x0).setCell ⟨b, 1, none⟩ x1).heap[b]? = some (.cells #[x0, x1] t (0, 0)) := by
  simp [World.setCell, Array.getElem?_modify, h]
theorem set2_other {W : World} {b k : Nat} {x0 x1 : Value} (h : k ≠ b) : ((W.setCell ⟨b, 0, none⟩ x0).setCell ⟨b, 1, none⟩ x1).heap[k]? = W.heap[k]? := by
  have h' : ¬ b = k := fun e => h e.symm
  simp [World.setCell, Array.getElem?_modify, h']
theorem heap_lt {W : World} {b : Nat} {x : Obj} (h : W.heap[b]? = some x) : b < W.heap.size := (Array.getElem?_eq_some_iff.1 h).1
theorem set2_below {w W : World} {n b : Nat} {x0 x1 : Value} (h : Below n w W) (hb : n <= b) : Below n w ((W.setCell ⟨b, 0, none⟩ x0).setCell ⟨b, 1, none⟩ x1) := (h.setCell (p := ⟨b, 0, none⟩) hb _).setCell (p := ⟨b, 1, none⟩) hb _
section
variable {w W W' : World} {p0 p1 q0 q1 r0 r1 s0 s1 x0 x1 : Nat}
theorem R4.below (h : R4 w p0 p1 q0 q1 r0 r1 s0 s1 W) (hb : Below W.heap.size W W') : R4 w p0 p1 q0 q1 r0 r1 s0 s1 W' :=
  ⟨(hb.block _ (heap_lt h.p)).trans h.p, (hb.block _ (heap_lt h.q)).trans h.q, (hb.block _ (heap_lt h.r)).trans h.r, (hb.block _ (heap_lt h.s)).trans h.s, (hb.block _ (heap_lt h.z0)).trans h.z0, (hb.block _ (heap_lt h.z1)).trans h.z1, (hb.block _ (heap_lt h.z2)).trans h.z2, (hb.block _ (heap_lt h.z3)).trans h.z3, h.hB.trans (hb.mono h.hB.size)⟩
theorem R4.set_p (h : R4 w p0 p1 q0 q1 r0 r1 s0 s1 W) : R4 w x0 x1 q0 q1 r0 r1 s0 s1 ((W.setCell ⟨w.heap.size, 0, none⟩ (.int .u64 (x0 : Nat))).setCell ⟨w.heap.size, 1, none⟩ (.int .u64 (x1 : Nat))) :=
  ⟨set2_heap h.p, (set2_other (by omega)).trans h.q, (set2_other (by omega)).trans h.r, (set2_other (by omega)).trans h.s, (set2_other (by omega)).trans h.z0, (set2_other (by omega)).trans h.z1, (set2_other (by omega)).trans h.z2, (set2_other (by omega)).trans h.z3, set2_below h.hB (by omega)⟩
theorem R4.set_q (h : R4 w p0 p1 q0 q1 r0 r1 s0 s1 W) : R4 w p0 p1 x0 x1 r0 r1 s0 s1 ((W.setCell ⟨w.heap.size + 1, 0, none⟩ (.int .u64 (x0 : Nat))).setCell ⟨w.heap.size + 1, 1, none⟩ (.int .u64 (x1 : Nat))) :=
  ⟨(set2_other (by omega)).trans h.p, set2_heap h.q, (set2_other (by omega)).trans h.r, (set2_other (by omega)).trans h.s, (set2_other (by omega)).trans h.z0, (set2_other (by omega)).trans h.z1, (set2_other (by omega)).trans h.z2, (set2_other (by omega)).trans h.z3, set2_below h.hB (by omega)⟩
theorem R4.set_r (h : R4 w p0 p1 q0 q1 r0 r1 s0 s1 W) : R4 w p0 p1 q0 q1 x0 x1 s0 s1 ((W.setCell ⟨w.heap.size + 1 + 1, 0, none⟩ (.int .u64 (x0 : Nat))).setCell ⟨w.heap.size + 1 + 1, 1, none⟩ (.int .u64 (x1 : Nat))) :=
  ⟨(set2_other (by omega)).trans h.p, (set2_other (by omega)).trans h.q, set2_heap h.r, (set2_other (by omega)).trans h.s, (set2_other (by omega)).trans h.z0, (set2_other (by omega)).trans h.z1, (set2_other (by omega)).trans h.z2, (set2_other (by omega)).trans h.z3, set2_below h.hB (by omega)⟩
theorem R4.set_s (h : R4 w p0 p1 q0 q1 r0 r1 s0 s1 W) : R4 w p0 p1 q0 q1 r0 r1 x0 x1 ((W.setCell ⟨w.heap.size + 1 + 1 + 1, 0, none⟩ (.int .u64 (x0 : Nat))).setCell ⟨w.heap.size + 1 + 1 + 1, 1, none⟩ (.int .u64 (x1 : Nat))) :=
  ⟨(set2_other (by omega)).trans h.p, (set2_other (by omega)).trans h.q, (set2_other (by omega)).trans h.r, set2_heap h.s, (set2_other (by omega)).trans h.z0, (set2_other (by omega)).trans h.z1, (set2_other (by omega)).trans h.z2, (set2_other (by omega)).trans h.z3, set2_below h.hB (by omega)⟩
theorem R4.ends (h : R4 w p0 p1 q0 q1 r0 r1 s0 s1 W) : ((((((((W.setCell ⟨w.heap.size + 1 + 1 + 1 + 1, 0, none⟩ (.int .u64 (p0 : Nat))).setCell ⟨w.heap.size + 1 + 1 + 1 + 1, 1, none⟩ (.int .u64 (p1 : Nat))).setCell ⟨w.heap.size + 1 + 1 + 1 + 1 + 1, 0, none⟩ (.int .u64 (q0 : Nat))).setCell ⟨w.heap.size + 1 + 1 + 1 + 1 + 1, 1, none⟩ (.int .u64 (q1 : Nat))).setCell ⟨w.heap.size + 1 + 1 + 1 + 1 + 1 + 1, 0, none⟩ (.int .u64 (r0 : Nat))).setCell ⟨w.heap.size + 1 + 1 + 1 + 1 + 1 + 1, 1, none⟩ (.int .u64 (r1 : Nat))).setCell ⟨w.heap.size + 1 + 1 + 1 + 1 + 1 + 1 + 1, 0, none⟩ (.int .u64 (s0 : Nat))).setCell ⟨w.heap.size + 1 + 1 + 1 + 1 + 1 + 1 + 1, 1, none⟩ (.int .u64 (s1 : Nat))).cell? ⟨w.heap.size + 1 + 1 + 1 + 1, 0, none⟩ = some (.int .u64 (p0 : Nat)) /\ ((((((((W.setCell ⟨w.heap.size + 1 + 1 + 1 + 1, 0, none⟩ (.int .u64 (p0 : Nat))).setCell ⟨w.heap.size + 1 + 1 + 1 + 1, 1, none⟩ (.int .u64 (p1 : Nat))).setCell ⟨w.heap.size + 1 + 1 + 1 + 1 + 1, 0, none⟩ (.int .u64 (q0 : Nat))).setCell ⟨w.heap.size + 1 + 1 + 1 + 1 + 1, 1, none⟩ (.int .u64 (q1 : Nat))).setCell ⟨w.heap.size + 1 + 1 + 1 + 1 + 1 + 1, 0, none⟩ (.int .u64 (r0 : Nat))).setCell ⟨w.heap.size + 1 + 1 + 1 + 1 + 1 + 1, 1, none⟩ (.int .u64 (r1 : Nat))).setCell ⟨w.heap.size + 1 + 1 + 1 + 1 + 1 + 1 + 1, 0, none⟩ (.int .u64 (s0 : Nat))).setCell ⟨w.heap.size + 1 + 1 + 1 + 1 + 1 + 1 + 1, 1, none⟩ (.int .u64 (s1 : Nat))).cell? ⟨w.heap.size + 1 + 1 + 1 + 1, 1, none⟩ = some (.int .u64 (p1 : Nat)) /\ ((((((((W.setCell ⟨w.heap.size + 1 + 1 + 1 + 1, 0, none⟩ (.int .u64 (p0 : Nat))).setCell ⟨w.heap.size + 1 + 1 + 1 + 1, 1, none⟩ (.int .u64 (p1 : Nat))).setCell ⟨w.heap.size + 1 + 1 + 1 + 1 + 1, 0, none⟩ (.int .u64 (q0 : Nat))).setCell ⟨w.heap.size + 1 + 1 + 1 + 1 + 1, 1, none⟩ (.int .u64 (q1 : Nat))).setCell ⟨w.heap.size + 1 + 1 + 1 + 1 + 1 + 1, 0, none⟩ (.int .u64 (r0 : Nat))).setCell ⟨w.heap.size + 1 + 1 + 1 + 1 + 1 + 1, 1, none⟩ (.int .u64 (r1 : Nat))).setCell ⟨w.heap.size + 1 + 1 + 1 + 1 + 1 + 1 + 1, 0, none⟩ (.int .u64 (s0 : Nat))).setCell ⟨w.heap.size + 1 + 1 + 1 + 1 + 1 + 1 + 1, 1, none⟩ (.int .u64 (s1 : Nat))).cell? ⟨w.heap.size + 1 + 1 + 1 + 1 + 1, 0, none⟩ = some (.int .u64 (q0 : Nat)) /\ ((((((((W.setCell ⟨w.heap.size + 1 + 1 + 1 + 1, 0, none⟩ (.int .u64 (p0 : Nat))).setCell ⟨w.heap.size + 1 + 1 + 1 + 1, 1, none⟩ (.int .u64 (p1 : Nat))).setCell ⟨w.heap.size + 1 + 1 + 1 + 1 + 1, 0, none⟩ (.int .u64 (q0 : Nat))).setCell ⟨w.heap.size + 1 + 1 + 1 + 1 + 1, 1, none⟩ (.int .u64 (q1 : Nat))).setCell ⟨w.heap.size + 1 + 1 + 1 + 1 + 1 + 1, 0, none⟩ (.int .u64 (r0 : Nat))).setCell ⟨w.heap.size + 1 + 1 + 1 + 1 + 1 + 1, 1, none⟩ (.int .u64 (r1 : Nat))).setCell ⟨w.heap.size + 1 + 1 + 1 + 1 + 1 + 1 + 1, 0, none⟩ (.int .u64 (s0 : Nat))).setCell ⟨w.heap.size + 1 + 1 + 1 + 1 + 1 + 1 + 1, 1, none⟩ (.int .u64 (s1 : Nat))).cell? ⟨w.heap.size + 1 + 1 + 1 + 1 + 1, 1, none⟩ = some (.int .u64 (q1 : Nat)) /\ ((((((((W.setCell ⟨w.heap.size + 1 + 1 + 1 + 1, 0, none⟩ (.int .u64 (p0 : Nat))).setCell ⟨w.heap.size + 1 + 1 + 1 + 1, 1, none⟩ (.int .u64 (p1 : Nat))).setCell ⟨w.heap.size + 1 + 1 + 1 + 1 + 1, 0, none⟩ (.int .u64 (q0 : Nat))).setCell ⟨w.heap.size + 1 + 1 + 1 + 1 + 1, 1, none⟩ (.int .u64 (q1 : Nat))).setCell ⟨w.heap.size + 1 + 1 + 1 + 1 + 1 + 1, 0, none⟩ (.int .u64 (r0 : Nat))).setCell ⟨w.heap.size + 1 + 1 + 1 + 1 + 1 + 1, 1, none⟩ (.int .u64 (r1 : Nat))).setCell ⟨w.heap.size + 1 + 1 + 1 + 1 + 1 + 1 + 1, 0, none⟩ (.int .u64 (s0 : Nat))).setCell ⟨w.heap.size + 1 + 1 + 1 + 1 + 1 + 1 + 1, 1, none⟩ (.int .u64 (s1 : Nat))).cell? ⟨w.heap.size + 1 + 1 + 1 + 1 + 1 + 1, 0, none⟩ = some (.int .u64 (r0 : Nat)) /\ ((((((((W.setCell ⟨w.heap.size + 1 + 1 + 1 + 1, 0, none⟩ (.int .u64 (p0 : Nat))).setCell ⟨w.heap.size + 1 + 1 + 1 + 1, 1, none⟩ (.int .u64 (p1 : Nat))).setCell ⟨w.heap.size + 1 + 1 + 1 + 1 + 1, 0, none⟩ (.int .u64 (q0 : Nat))).setCell ⟨w.heap.size + 1 + 1 + 1 + 1 + 1, 1, none⟩ (.int .u64 (q1 : Nat))).setCell ⟨w.heap.size + 1 + 1 + 1 + 1 + 1 + 1, 0, none⟩ (.int .u64 (r0 : Nat))).setCell ⟨w.heap.size + 1 + 1 + 1 + 1 + 1 + 1, 1, none⟩ (.int .u64 (r1 : Nat))).setCell ⟨w.heap.size + 1 + 1 + 1 + 1 + 1 + 1 + 1, 0, none⟩ (.int .u64 (s0 : Nat))).setCell ⟨w.heap.size + 1 + 1 + 1 + 1 + 1 + 1 + 1, 1, none⟩ (.int .u64 (s1 : Nat))).cell? ⟨w.heap.size + 1 + 1 + 1 + 1 + 1 + 1, 1, none⟩ = some (.int .u64 (r1 : Nat)) /\ ((((((((W.setCell ⟨w.heap.size + 1 + 1 + 1 + 1, 0, none⟩ (.int .u64 (p0 : Nat))).setCell ⟨w.heap.size + 1 + 1 + 1 + 1, 1, none⟩ (.int .u64 (p1 : Nat))).setCell ⟨w.heap.size + 1 + 1 + 1 + 1 + 1, 0, none⟩ (.int .u64 (q0 : Nat))).setCell ⟨w.heap.size + 1 + 1 + 1 + 1 + 1, 1, none⟩ (.int .u64 (q1 : Nat))).setCell ⟨w.heap.size + 1 + 1 + 1 + 1 + 1 + 1, 0, none⟩ (.int .u64 (r0 : Nat))).setCell ⟨w.heap.size + 1 + 1 + 1 + 1 + 1 + 1, 1, none⟩ (.int .u64 (r1 : Nat))).setCell ⟨w.heap.size + 1 + 1 + 1 + 1 + 1 + 1 + 1, 0, none⟩ (.int .u64 (s0 : Nat))).setCell ⟨w.heap.size + 1 + 1 + 1 + 1 + 1 + 1 + 1, 1, none⟩ (.int .u64 (s1 : Nat))).cell? ⟨w.heap.size + 1 + 1 + 1 + 1 + 1 + 1 + 1, 0, none⟩ = some (.int .u64 (s0 : Nat)) /\ ((((((((W.setCell ⟨w.heap.size + 1 + 1 + 1 + 1, 0, none⟩ (.int .u64 (p0 : Nat))).setCell ⟨w.heap.size + 1 + 1 + 1 + 1, 1, none⟩ (.int .u64 (p1 : Nat))).setCell ⟨w.heap.size + 1 + 1 + 1 + 1 + 1, 0, none⟩ (.int .u64 (q0 : Nat))).setCell ⟨w.heap.size + 1 + 1 + 1 + 1 + 1, 1, none⟩ (.int .u64 (q1 : Nat))).setCell ⟨w.heap.size + 1 + 1 + 1 + 1 + 1 + 1, 0, none⟩ (.int .u64 (r0 : Nat))).setCell ⟨w.heap.size + 1 + 1 + 1 + 1 + 1 + 1, 1, none⟩ (.int .u64 (r1 : Nat))).setCell ⟨w.heap.size + 1 + 1 + 1 + 1 + 1 + 1 + 1, 0, none⟩ (.int .u64 (s0 : Nat))).setCell ⟨w.heap.size + 1 + 1 + 1 + 1 + 1 + 1 + 1, 1, none⟩ (.int .u64 (s1 : Nat))).cell? ⟨w.heap.size + 1 + 1 + 1 + 1 + 1 + 1 + 1, 1, none⟩ = some (.int .u64 (s1 : Nat)) /\ Below w.heap.size w ((((((((W.setCell ⟨w.heap.size + 1 + 1 + 1 + 1, 0, none⟩ (.int .u64 (p0 : Nat))).setCell ⟨w.heap.size + 1 + 1 + 1 + 1, 1, none⟩ (.int .u64 (p1 : Nat))).setCell ⟨w.heap.size + 1 + 1 + 1 + 1 + 1, 0, none⟩ (.int .u64 (q0 : Nat))).setCell ⟨w.heap.size + 1 + 1 + 1 + 1 + 1, 1, none⟩ (.int .u64 (q1 : Nat))).setCell ⟨w.heap.size + 1 + 1 + 1 + 1 + 1 + 1, 0, none⟩ (.int .u64 (r0 : Nat))).setCell ⟨w.heap.size + 1 + 1 + 1 + 1 + 1 + 1, 1, none⟩ (.int .u64 (r1 : Nat))).setCell ⟨w.heap.size + 1 + 1 + 1 + 1 + 1 + 1 + 1, 0, none⟩ (.int .u64 (s0 : Nat))).setCell ⟨w.heap.size + 1 + 1 + 1 + 1 + 1 + 1 + 1, 1, none⟩ (.int .u64 (s1 : Nat))) := by
  have e0 : ((((((((W.setCell ⟨w.heap.size + 1 + 1 + 1 + 1, 0, none⟩ (.int .u64 (p0 : Nat))).setCell ⟨w.heap.size + 1 + 1 + 1 + 1, 1, none⟩ (.int .u64 (p1 : Nat))).setCell ⟨w.heap.size + 1 + 1 + 1 + 1 + 1, 0, none⟩ (.int .u64 (q0 : Nat))).setCell ⟨w.heap.size + 1 + 1 + 1 + 1 + 1, 1, none⟩ (.int .u64 (q1 : Nat))).setCell ⟨w.heap.size + 1 + 1 + 1 + 1 + 1 + 1, 0, none⟩ (.int .u64 (r0 : Nat))).setCell ⟨w.heap.size + 1 + 1 + 1 + 1 + 1 + 1, 1, none⟩ (.int .u64 (r1 : Nat))).setCell ⟨w.heap.size + 1 + 1 + 1 + 1 + 1 + 1 + 1, 0, none⟩ (.int .u64 (s0 : Nat))).setCell ⟨w.heap.size + 1 + 1 + 1 + 1 + 1 + 1 + 1, 1, none⟩ (.int .u64 (s1 : Nat))).heap[w.heap.size + 1 + 1 + 1 + 1]? = some (.cells #[.int .u64 (p0 : Nat), .int .u64 (p1 : Nat)] 191 (0, 0)) := (set2_other (by omega)).trans ((set2_other (by omega)).trans ((set2_other (by omega)).trans (set2_heap (h.z0))))
  have e1 : ((((((((W.setCell ⟨w.heap.size + 1 + 1 + 1 + 1, 0, none⟩ (.int .u64 (p0 : Nat))).setCell ⟨w.heap.size + 1 + 1 + 1 + 1, 1, none⟩ (.int .u64 (p1 : Nat))).setCell ⟨w.heap.size + 1 + 1 + 1 + 1 + 1, 0, none⟩ (.int .u64 (q0 : Nat))).setCell ⟨w.heap.size + 1 + 1 + 1 + 1 + 1, 1, none⟩ (.int .u64 (q1 : Nat))).setCell ⟨w.heap.size + 1 + 1 + 1 + 1 + 1 + 1, 0, none⟩ (.int .u64 (r0 : Nat))).setCell ⟨w.heap.size + 1 + 1 + 1 + 1 + 1 + 1, 1, none⟩ (.int .u64 (r1 : Nat))).setCell ⟨w.heap.size + 1 + 1 + 1 + 1 + 1 + 1 + 1, 0, none⟩ (.int .u64 (s0 : Nat))).setCell ⟨w.heap.size + 1 + 1 + 1 + 1 + 1 + 1 + 1, 1, none⟩ (.int .u64 (s1 : Nat))).heap[w.heap.size + 1 + 1 + 1 + 1 + 1]? = some (.cells #[.int .u64 (q0 : Nat), .int .u64 (q1 : Nat)] 191 (0, 0)) := (set2_other (by omega)).trans ((set2_other (by omega)).trans (set2_heap ((set2_other (by omega)).trans (h.z1))))
  have e2 : ((((((((W.setCell ⟨w.heap.size + 1 + 1 + 1 + 1, 0, none⟩ (.int .u64 (p0 : Nat))).setCell ⟨w.heap.size + 1 + 1 + 1 + 1, 1, none⟩ (.int .u64 (p1 : Nat))).setCell ⟨w.heap.size + 1 + 1 + 1 + 1 + 1, 0, none⟩ (.int .u64 (q0 : Nat))).setCell ⟨w.heap.size + 1 + 1 + 1 + 1 + 1, 1, none⟩ (.int .u64 (q1 : Nat))).setCell ⟨w.heap.size + 1 + 1 + 1 + 1 + 1 + 1, 0, none⟩ (.int .u64 (r0 : Nat))).setCell ⟨w.heap.size + 1 + 1 + 1 + 1 + 1 + 1, 1, none⟩ (.int .u64 (r1 : Nat))).setCell ⟨w.heap.size + 1 + 1 + 1 + 1 + 1 + 1 + 1, 0, none⟩ (.int .u64 (s0 : Nat))).setCell ⟨w.heap.size + 1 + 1 + 1 + 1 + 1 + 1 + 1, 1, none⟩ (.int .u64 (s1 : Nat))).heap[w.heap.size + 1 + 1 + 1 + 1 + 1 + 1]? = some (.cells #[.int .u64 (r0 : Nat), .int .u64 (r1 : Nat)] 191 (0, 0)) := (set2_other (by omega)).trans (set2_heap ((set2_other (by omega)).trans ((set2_other (by omega)).trans (h.z2))))
  have e3 : ((((((((W.setCell ⟨w.heap.size + 1 + 1 + 1 + 1, 0, none⟩ (.int .u64 (p0 : Nat))).setCell ⟨w.heap.size + 1 + 1 + 1 + 1, 1, none⟩ (.int .u64 (p1 : Nat))).setCell ⟨w.heap.size + 1 + 1 + 1 + 1 + 1, 0, none⟩ (.int .u64 (q0 : Nat))).setCell ⟨w.heap.size + 1 + 1 + 1 + 1 + 1, 1, none⟩ (.int .u64 (q1 : Nat))).setCell ⟨w.heap.size + 1 + 1 + 1 + 1 + 1 + 1, 0, none⟩ (.int .u64 (r0 : Nat))).setCell ⟨w.heap.size + 1 + 1 + 1 + 1 + 1 + 1, 1, none⟩ (.int .u64 (r1 : Nat))).setCell ⟨w.heap.size + 1 + 1 + 1 + 1 + 1 + 1 + 1, 0, none⟩ (.int .u64 (s0 : Nat))).setCell ⟨w.heap.size + 1 + 1 + 1 + 1 + 1 + 1 + 1, 1, none⟩ (.int .u64 (s1 : Nat))).heap[w.heap.size + 1 + 1 + 1 + 1 + 1 + 1 + 1]? = some (.cells #[.int .u64 (s0 : Nat), .int .u64 (s1 : Nat)] 191 (0, 0)) := set2_heap ((set2_other (by omega)).trans ((set2_other (by omega)).trans ((set2_other (by omega)).trans (h.z3))))
  exact ⟨(cells2 e0).1.1, (cells2 e0).1.2, (cells2 e1).1.1, (cells2 e1).1.2, (cells2 e2).1.1, (cells2 e2).1.2, (cells2 e3).1.1, (cells2 e3).1.2, set2_below (set2_below (set2_below (set2_below h.hB (by omega)) (by omega)) (by omega)) (by omega)⟩
end
set_option maxRecDepth 100000 in
set_option maxHeartbeats 4000000 in
theorem round05_any {x : Bw.Sip} (hx : x.ok) (w : World) :
    Calls Tryz.prog 117 #[twoV x.1, twoV x.2.1, twoV x.2.2.1, twoV x.2.2.2] w fun e w' => e = .returned (.tuple #[twoV (Bw.sipRound x).1, twoV (Bw.sipRound x).2.1, twoV (Bw.sipRound x).2.2.1, twoV (Bw.sipRound x).2.2.2]) /\ Below w.heap.size w w' := by
  obtain ⟨p, q, r, s⟩ := x
  obtain ⟨hp, hq, hr, hs⟩ := hx
  simp only [Bw.sipRound, Bw.mixB]
  dsimp only at hp hq hr hs
  have h1 : Bw.mixA p q < 18446744073709551616 := Bw.mixA_lt _ _
  have h2 : Bw.turn64 q 13 < 18446744073709551616 := Bw.turn64_lt 13 hq
  have h3 : (Bw.turn64 q 13) ^^^ (Bw.mixA p q) < 18446744073709551616 := Bw.xor_lt64 h2 h1
  have h4 : Bw.turn64 (Bw.mixA p q) 32 < 18446744073709551616 := Bw.turn64_lt 32 h1
  have h5 : Bw.mixA r s < 18446744073709551616 := Bw.mixA_lt _ _
  have h6 : Bw.turn64 s 16 < 18446744073709551616 := Bw.turn64_lt 16 hs
  have h7 : (Bw.turn64 s 16) ^^^ (Bw.mixA r s) < 18446744073709551616 := Bw.xor_lt64 h6 h5
  have h8 : Bw.mixA (Bw.turn64 (Bw.mixA p q) 32) ((Bw.turn64 s 16) ^^^ (Bw.mixA r s)) < 18446744073709551616 := Bw.mixA_lt _ _
  have h9 : Bw.turn64 ((Bw.turn64 s 16) ^^^ (Bw.mixA r s)) 21 < 18446744073709551616 := Bw.turn64_lt 21 h7
  have h10 : (Bw.turn64 ((Bw.turn64 s 16) ^^^ (Bw.mixA r s)) 21) ^^^ (Bw.mixA (Bw.turn64 (Bw.mixA p q) 32) ((Bw.turn64 s 16) ^^^ (Bw.mixA r s))) < 18446744073709551616 := Bw.xor_lt64 h9 h8
  have h11 : Bw.mixA (Bw.mixA r s) ((Bw.turn64 q 13) ^^^ (Bw.mixA p q)) < 18446744073709551616 := Bw.mixA_lt _ _
  have h12 : Bw.turn64 ((Bw.turn64 q 13) ^^^ (Bw.mixA p q)) 17 < 18446744073709551616 := Bw.turn64_lt 17 h3
  have h13 : (Bw.turn64 ((Bw.turn64 q 13) ^^^ (Bw.mixA p q)) 17) ^^^ (Bw.mixA (Bw.mixA r s) ((Bw.turn64 q 13) ^^^ (Bw.mixA p q))) < 18446744073709551616 := Bw.xor_lt64 h12 h11
  have h14 : Bw.turn64 (Bw.mixA (Bw.mixA r s) ((Bw.turn64 q 13) ^^^ (Bw.mixA p q))) 32 < 18446744073709551616 := Bw.turn64_lt 32 h11
  have C1 := fun w => plus05_any hp hq w
  have C2 := fun w => turn05_any (k := 13) hq (by decide) w
  have C3 := fun w => xor05_any h2 h1 w
  have C4 := fun w => swap05_any h1 w
  have C5 := fun w => plus05_any hr hs w
  have C6 := fun w => turn05_any (k := 16) hs (by decide) w
  have C7 := fun w => xor05_any h6 h5 w
  have C8 := fun w => plus05_any h4 h7 w
  have C9 := fun w => turn05_any (k := 21) h7 (by decide) w
  have C10 := fun w => xor05_any h9 h8 w
  have C11 := fun w => plus05_any h5 h3 w
  have C12 := fun w => turn05_any (k := 17) h3 (by decide) w
  have C13 := fun w => xor05_any h12 h11 w
  have C14 := fun w => swap05_any h11 w
  obtain ⟨n1_, en1_⟩ : ∃ n1_, Bw.mixA p q = n1_ := ⟨_, rfl⟩
  simp only [en1_] at C1 C2 C3 C4 C5 C6 C7 C8 C9 C10 C11 C12 C13 C14 ⊢
  obtain ⟨n2_, en2_⟩ : ∃ n2_, Bw.turn64 q 13 = n2_ := ⟨_, rfl⟩
  simp only [en2_] at C1 C2 C3 C4 C5 C6 C7 C8 C9 C10 C11 C12 C13 C14 ⊢
  obtain ⟨n3_, en3_⟩ : ∃ n3_, n2_ ^^^ n1_ = n3_ := ⟨_, rfl⟩
  simp only [en3_] at C1 C2 C3 C4 C5 C6 C7 C8 C9 C10 C11 C12 C13 C14 ⊢
  obtain ⟨n4_, en4_⟩ : ∃ n4_, Bw.turn64 n1_ 32 = n4_ := ⟨_, rfl⟩
  simp only [en4_] at C1 C2 C3 C4 C5 C6 C7 C8 C9 C10 C11 C12 C13 C14 ⊢
  obtain ⟨n5_, en5_⟩ : ∃ n5_, Bw.mixA r s = n5_ := ⟨_, rfl⟩
  simp only [en5_] at C1 C2 C3 C4 C5 C6 C7 C8 C9 C10 C11 C12 C13 C14 ⊢
  obtain ⟨n6_, en6_⟩ : ∃ n6_, Bw.turn64 s 16 = n6_ := ⟨_, rfl⟩
  simp only [en6_] at C1 C2 C3 C4 C5 C6 C7 C8 C9 C10 C11 C12 C13 C14 ⊢
  obtain ⟨n7_, en7_⟩ : ∃ n7_, n6_ ^^^ n5_ = n7_ := ⟨_, rfl⟩
  simp only [en7_] at C1 C2 C3 C4 C5 C6 C7 C8 C9 C10 C11 C12 C13 C14 ⊢
  obtain ⟨n8_, en8_⟩ : ∃ n8_, Bw.mixA n4_ n7_ = n8_ := ⟨_, rfl⟩
  simp only [en8_] at C1 C2 C3 C4 C5 C6 C7 C8 C9 C10 C11 C12 C13 C14 ⊢
  obtain ⟨n9_, en9_⟩ : ∃ n9_, Bw.turn64 n7_ 21 = n9_ := ⟨_, rfl⟩
  simp only [en9_] at C1 C2 C3 C4 C5 C6 C7 C8 C9 C10 C11 C12 C13 C14 ⊢
  obtain ⟨n10_, en10_⟩ : ∃ n10_, n9_ ^^^ n8_ = n10_ := ⟨_, rfl⟩
  simp only [en10_] at C1 C2 C3 C4 C5 C6 C7 C8 C9 C10 C11 C12 C13 C14 ⊢
  obtain ⟨n11_, en11_⟩ : ∃ n11_, Bw.mixA n5_ n3_ = n11_ := ⟨_, rfl⟩
  simp only [en11_] at C1 C2 C3 C4 C5 C6 C7 C8 C9 C10 C11 C12 C13 C14 ⊢
  obtain ⟨n12_, en12_⟩ : ∃ n12_, Bw.turn64 n3_ 17 = n12_ := ⟨_, rfl⟩
  simp only [en12_] at C1 C2 C3 C4 C5 C6 C7 C8 C9 C10 C11 C12 C13 C14 ⊢
  obtain ⟨n13_, en13_⟩ : ∃ n13_, n12_ ^^^ n11_ = n13_ := ⟨_, rfl⟩
  simp only [en13_] at C1 C2 C3 C4 C5 C6 C7 C8 C9 C10 C11 C12 C13 C14 ⊢
  obtain ⟨n14_, en14_⟩ : ∃ n14_, Bw.turn64 n11_ 32 = n14_ := ⟨_, rfl⟩
  simp only [en14_] at C1 C2 C3 C4 C5 C6 C7 C8 C9 C10 C11 C12 C13 C14 ⊢
  obtain ⟨p0, p1, tp⟩ : ∃ p0 p1 : Nat, twoV p = .agg #[.int .u64 (p0 : Nat), .int .u64 (p1 : Nat)] := ⟨_, _, rfl⟩
  obtain ⟨q0, q1, tq⟩ : ∃ q0 q1 : Nat, twoV q = .agg #[.int .u64 (q0 : Nat), .int .u64 (q1 : Nat)] := ⟨_, _, rfl⟩
  obtain ⟨r0, r1, tr⟩ : ∃ r0 r1 : Nat, twoV r = .agg #[.int .u64 (r0 : Nat), .int .u64 (r1 : Nat)] := ⟨_, _, rfl⟩
  obtain ⟨s0, s1, ts⟩ : ∃ s0 s1 : Nat, twoV s = .agg #[.int .u64 (s0 : Nat), .int .u64 (s1 : Nat)] := ⟨_, _, rfl⟩
  obtain ⟨n1_0, n1_1, tn1_⟩ : ∃ n1_0 n1_1 : Nat, twoV n1_ = .agg #[.int .u64 (n1_0 : Nat), .int .u64 (n1_1 : Nat)] := ⟨_, _, rfl⟩
  obtain ⟨n2_0, n2_1, tn2_⟩ : ∃ n2_0 n2_1 : Nat, twoV n2_ = .agg #[.int .u64 (n2_0 : Nat), .int .u64 (n2_1 : Nat)] := ⟨_, _, rfl⟩
  obtain ⟨n3_0, n3_1, tn3_⟩ : ∃ n3_0 n3_1 : Nat, twoV n3_ = .agg #[.int .u64 (n3_0 : Nat), .int .u64 (n3_1 : Nat)] := ⟨_, _, rfl⟩
  obtain ⟨n4_0, n4_1, tn4_⟩ : ∃ n4_0 n4_1 : Nat, twoV n4_ = .agg #[.int .u64 (n4_0 : Nat), .int .u64 (n4_1 : Nat)] := ⟨_, _, rfl⟩
  obtain ⟨n5_0, n5_1, tn5_⟩ : ∃ n5_0 n5_1 : Nat, twoV n5_ = .agg #[.int .u64 (n5_0 : Nat), .int .u64 (n5_1 : Nat)] := ⟨_, _, rfl⟩
  obtain ⟨n6_0, n6_1, tn6_⟩ : ∃ n6_0 n6_1 : Nat, twoV n6_ = .agg #[.int .u64 (n6_0 : Nat), .int .u64 (n6_1 : Nat)] := ⟨_, _, rfl⟩
  obtain ⟨n7_0, n7_1, tn7_⟩ : ∃ n7_0 n7_1 : Nat, twoV n7_ = .agg #[.int .u64 (n7_0 : Nat), .int .u64 (n7_1 : Nat)] := ⟨_, _, rfl⟩
  obtain ⟨n8_0, n8_1, tn8_⟩ : ∃ n8_0 n8_1 : Nat, twoV n8_ = .agg #[.int .u64 (n8_0 : Nat), .int .u64 (n8_1 : Nat)] := ⟨_, _, rfl⟩
  obtain ⟨n9_0, n9_1, tn9_⟩ : ∃ n9_0 n9_1 : Nat, twoV n9_ = .agg #[.int .u64 (n9_0 : Nat), .int .u64 (n9_1 : Nat)] := ⟨_, _, rfl⟩
  obtain ⟨n10_0, n10_1, tn10_⟩ : ∃ n10_0 n10_1 : Nat, twoV n10_ = .agg #[.int .u64 (n10_0 : Nat), .int .u64 (n10_1 : Nat)] := ⟨_, _, rfl⟩
  obtain ⟨n11_0, n11_1, tn11_⟩ : ∃ n11_0 n11_1 : Nat, twoV n11_ = .agg #[.int .u64 (n11_0 : Nat), .int .u64 (n11_1 : Nat)] := ⟨_, _, rfl⟩
  obtain ⟨n12_0, n12_1, tn12_⟩ : ∃ n12_0 n12_1 : Nat, twoV n12_ = .agg #[.int .u64 (n12_0 : Nat), .int .u64 (n12_1 : Nat)] := ⟨_, _, rfl⟩
  obtain ⟨n13_0, n13_1, tn13_⟩ : ∃ n13_0 n13_1 : Nat, twoV n13_ = .agg #[.int .u64 (n13_0 : Nat), .int .u64 (n13_1 : Nat)] := ⟨_, _, rfl⟩
  obtain ⟨n14_0, n14_1, tn14_⟩ : ∃ n14_0 n14_1 : Nat, twoV n14_ = .agg #[.int .u64 (n14_0 : Nat), .int .u64 (n14_1 : Nat)] := ⟨_, _, rfl⟩
  simp only [tp, tq, tr, ts, tn1_, tn2_, tn3_, tn4_, tn5_, tn6_, tn7_, tn8_, tn9_, tn10_, tn11_, tn12_, tn13_, tn14_, Int.cast_ofNat_Int] at C1 C2 C3 C4 C5 C6 C7 C8 C9 C10 C11 C12 C13 C14 ⊢
  replace C1 := Lib.hid C1
  replace C2 := Lib.hid C2
  replace C3 := Lib.hid C3
  replace C4 := Lib.hid C4
  replace C5 := Lib.hid C5
  replace C6 := Lib.hid C6
  replace C7 := Lib.hid C7
  replace C8 := Lib.hid C8
  replace C9 := Lib.hid C9
  replace C10 := Lib.hid C10
  replace C11 := Lib.hid C11
  replace C12 := Lib.hid C12
  replace C13 := Lib.hid C13
  replace C14 := Lib.hid C14
  clear hp hq hr hs h1 h2 h3 h4 h5 h6 h7 h8 h9 h10 h11 h12 h13 h14 en1_ en2_ en3_ en4_ en5_ en6_ en7_ en8_ en9_ en10_ en11_ en12_ en13_ en14_ tp tq tr ts tn1_ tn2_ tn3_ tn4_ tn5_ tn6_ tn7_ tn8_ tn9_ tn10_ tn11_ tn12_ tn13_ tn14_
  obtain ⟨W0, hW0⟩ : ∃ W0, ((((((((w.alloc (.cells #[.int .u64 (p0 : Nat), .int .u64 (p1 : Nat)] 191)).alloc (.cells #[.int .u64 (q0 : Nat), .int .u64 (q1 : Nat)] 191)).alloc (.cells #[.int .u64 (r0 : Nat), .int .u64 (r1 : Nat)] 191)).alloc (.cells #[.int .u64 (s0 : Nat), .int .u64 (s1 : Nat)] 191)).alloc (.cells #[.int .u64 0, .int .u64 0] 191)).alloc (.cells #[.int .u64 0, .int .u64 0] 191)).alloc (.cells #[.int .u64 0, .int .u64 0] 191)).alloc (.cells #[.int .u64 0, .int .u64 0] 191)) = W0 := ⟨_, rfl⟩
  have R0 : R4 w p0 p1 q0 q1 r0 r1 s0 s1 W0 := by
    have hB : Below w.heap.size w W0 := by rw [<- hW0]; exact gB3
    refine ⟨by rw [<- hW0]; refine (heap_alloc_old _ _ (by simp; try omega)).trans ?_; refine (heap_alloc_old _ _ (by simp; try omega)).trans ?_; refine (heap_alloc_old _ _ (by simp; try omega)).trans ?_; refine (heap_alloc_old _ _ (by simp; try omega)).trans ?_; refine (heap_alloc_old _ _ (by simp; try omega)).trans ?_; refine (heap_alloc_old _ _ (by simp; try omega)).trans ?_; refine (heap_alloc_old _ _ (by simp; try omega)).trans ?_; have := heap_alloc_new w (.cells #[.int .u64 (p0 : Nat), .int .u64 (p1 : Nat)] 191); simpa using this, by rw [<- hW0]; refine (heap_alloc_old _ _ (by simp; try omega)).trans ?_; refine (heap_alloc_old _ _ (by simp; try omega)).trans ?_; refine (heap_alloc_old _ _ (by simp; try omega)).trans ?_; refine (heap_alloc_old _ _ (by simp; try omega)).trans ?_; refine (heap_alloc_old _ _ (by simp; try omega)).trans ?_; refine (heap_alloc_old _ _ (by simp; try omega)).trans ?_; have := heap_alloc_new (w.alloc (.cells #[.int .u64 (p0 : Nat), .int .u64 (p1 : Nat)] 191)) (.cells #[.int .u64 (q0 : Nat), .int .u64 (q1 : Nat)] 191); simpa using this, by rw [<- hW0]; refine (heap_alloc_old _ _ (by simp; try omega)).trans ?_; refine (heap_alloc_old _ _ (by simp; try omega)).trans ?_; refine (heap_alloc_old _ _ (by simp; try omega)).trans ?_; refine (heap_alloc_old _ _ (by simp; try omega)).trans ?_; refine (heap_alloc_old _ _ (by simp; try omega)).trans ?_; have := heap_alloc_new ((w.alloc (.cells #[.int .u64 (p0 : Nat), .int .u64 (p1 : Nat)] 191)).alloc (.cells #[.int .u64 (q0 : Nat), .int .u64 (q1 : Nat)] 191)) (.cells #[.int .u64 (r0 : Nat), .int .u64 (r1 : Nat)] 191); simpa using this, by rw [<- hW0]; refine (heap_alloc_old _ _ (by simp; try omega)).trans ?_; refine (heap_alloc_old _ _ (by simp; try omega)).trans ?_; refine (heap_alloc_old _ _ (by simp; try omega)).trans ?_; refine (heap_alloc_old _ _ (by simp; try omega)).trans ?_; have := heap_alloc_new (((w.alloc (.cells #[.int .u64 (p0 : Nat), .int .u64 (p1 : Nat)] 191)).alloc (.cells #[.int .u64 (q0 : Nat), .int .u64 (q1 : Nat)] 191)).alloc (.cells #[.int .u64 (r0 : Nat), .int .u64 (r1 : Nat)] 191)) (.cells #[.int .u64 (s0 : Nat), .int .u64 (s1 : Nat)] 191); simpa using this, by rw [<- hW0]; refine (heap_alloc_old _ _ (by simp; try omega)).trans ?_; refine (heap_alloc_old _ _ (by simp; try omega)).trans ?_; refine (heap_alloc_old _ _ (by simp; try omega)).trans ?_; have := heap_alloc_new ((((w.alloc (.cells #[.int .u64 (p0 : Nat), .int .u64 (p1 : Nat)] 191)).alloc (.cells #[.int .u64 (q0 : Nat), .int .u64 (q1 : Nat)] 191)).alloc (.cells #[.int .u64 (r0 : Nat), .int .u64 (r1 : Nat)] 191)).alloc (.cells #[.int .u64 (s0 : Nat), .int .u64 (s1 : Nat)] 191)) (.cells #[.int .u64 0, .int .u64 0] 191); simpa using this, by rw [<- hW0]; refine (heap_alloc_old _ _ (by simp; try omega)).trans ?_; refine (heap_alloc_old _ _ (by simp; try omega)).trans ?_; have := heap_alloc_new (((((w.alloc (.cells #[.int .u64 (p0 : Nat), .int .u64 (p1 : Nat)] 191)).alloc (.cells #[.int .u64 (q0 : Nat), .int .u64 (q1 : Nat)] 191)).alloc (.cells #[.int .u64 (r0 : Nat), .int .u64 (r1 : Nat)] 191)).alloc (.cells #[.int .u64 (s0 : Nat), .int .u64 (s1 : Nat)] 191)).alloc (.cells #[.int .u64 0, .int .u64 0] 191)) (.cells #[.int .u64 0, .int .u64 0] 191); simpa using this, by rw [<- hW0]; refine (heap_alloc_old _ _ (by simp; try omega)).trans ?_; have := heap_alloc_new ((((((w.alloc (.cells #[.int .u64 (p0 : Nat), .int .u64 (p1 : Nat)] 191)).alloc (.cells #[.int .u64 (q0 : Nat), .int .u64 (q1 : Nat)] 191)).alloc (.cells #[.int .u64 (r0 : Nat), .int .u64 (r1 : Nat)] 191)).alloc (.cells #[.int .u64 (s0 : Nat), .int .u64 (s1 : Nat)] 191)).alloc (.cells #[.int .u64 0, .int .u64 0] 191)).alloc (.cells #[.int .u64 0, .int .u64 0] 191)) (.cells #[.int .u64 0, .int .u64 0] 191); simpa using this, by rw [<- hW0]; have := heap_alloc_new (((((((w.alloc (.cells #[.int .u64 (p0 : Nat), .int .u64 (p1 : Nat)] 191)).alloc (.cells #[.int .u64 (q0 : Nat), .int .u64 (q1 : Nat)] 191)).alloc (.cells #[.int .u64 (r0 : Nat), .int .u64 (r1 : Nat)] 191)).alloc (.cells #[.int .u64 (s0 : Nat), .int .u64 (s1 : Nat)] 191)).alloc (.cells #[.int .u64 0, .int .u64 0] 191)).alloc (.cells #[.int .u64 0, .int .u64 0] 191)).alloc (.cells #[.int .u64 0, .int .u64 0] 191)) (.cells #[.int .u64 0, .int .u64 0] 191); simpa using this, hB⟩
  have HW0 := Lib.hid hW0
  clear hW0
  go_enter Tryz.func117, Tryz.ntmps117
  go_wp2_with fail
  rw [HW0.out]
  obtain ⟨⟨kp0, kp1⟩, fp0, fp1⟩ := cells2 R0.p
  obtain ⟨⟨kq0, kq1⟩, fq0, fq1⟩ := cells2 R0.q
  obtain ⟨⟨kr0, kr1⟩, fr0, fr1⟩ := cells2 R0.r
  obtain ⟨⟨ks0, ks1⟩, fs0, fs1⟩ := cells2 R0.s
  go_wp2_with fail
  refine (C1.out _).mono ?_
  rintro e v0 ⟨rfl, hb0⟩
  have R0b := R0.below hb0
  clear kp0 kp1 fp0 fp1 kq0 kq1 fq0 fq1 kr0 kr1 fr0 fr1 ks0 ks1 fs0 fs1
  obtain ⟨⟨kp0, kp1⟩, fp0, fp1⟩ := cells2 R0b.p
  obtain ⟨⟨kq0, kq1⟩, fq0, fq1⟩ := cells2 R0b.q
  obtain ⟨⟨kr0, kr1⟩, fr0, fr1⟩ := cells2 R0b.r
  obtain ⟨⟨ks0, ks1⟩, fs0, fs1⟩ := cells2 R0b.s
  go_wp2_with fail
  have R1 := R0b.set_p (x0 := n1_0) (x1 := n1_1)
  clear hb0 R0 R0b
  generalize (v0.setCell ⟨w.heap.size, 0, none⟩ (.int .u64 (n1_0 : Nat))).setCell ⟨w.heap.size, 1, none⟩ (.int .u64 (n1_1 : Nat)) = W1 at *
  clear kp0 kp1 fp0 fp1 kq0 kq1 fq0 fq1 kr0 kr1 fr0 fr1 ks0 ks1 fs0 fs1
  obtain ⟨⟨kp0, kp1⟩, fp0, fp1⟩ := cells2 R1.p
  obtain ⟨⟨kq0, kq1⟩, fq0, fq1⟩ := cells2 R1.q
  obtain ⟨⟨kr0, kr1⟩, fr0, fr1⟩ := cells2 R1.r
  obtain ⟨⟨ks0, ks1⟩, fs0, fs1⟩ := cells2 R1.s
  have R1d := R1.below ((Below.refl W1.heap.size W1).drew)
  refine wp_region_held_drew (S := fun W => W.cell? ⟨w.heap.size, 0, none⟩ = some (.int .u64 (n1_0 : Nat)) /\ W.cell? ⟨w.heap.size, 1, none⟩ = some (.int .u64 (n1_1 : Nat))) (by kernel_rfl) ⟨(cells2 R1d.p).1.1, (cells2 R1d.p).1.2⟩ (fun hS0 => ?_)
  generalize W1.drew = U1 at *
  clear kp0 kp1 fp0 fp1 kq0 kq1 fq0 fq1 kr0 kr1 fr0 fr1 ks0 ks1 fs0 fs1
  obtain ⟨⟨kp0, kp1⟩, fp0, fp1⟩ := cells2 R1d.p
  obtain ⟨⟨kq0, kq1⟩, fq0, fq1⟩ := cells2 R1d.q
  obtain ⟨⟨kr0, kr1⟩, fr0, fr1⟩ := cells2 R1d.r
  obtain ⟨⟨ks0, ks1⟩, fs0, fs1⟩ := cells2 R1d.s
  refine take_op (i := 2) (v := .agg #[.int .u64 (n1_0 : Nat), .int .u64 (n1_1 : Nat)]) rfl (by kernel_rfl) (by kernel_rfl) (by kernel_rfl) (fun _ _ _ h => h) (Or.inl ⟨by rfl, fun w hw => by obtain ⟨c0, c1⟩ := hw; go_simp⟩) hS0 ?_
  simp only [Act.put, List.setIfInBounds_toArray, List.set_cons_zero, List.set_cons_succ]
  refine ready_op (i := 0) rfl (by kernel_rfl) (by rfl) (fun K hK => ?_)
  go_simp
  refine hK.out _ _ hS0 (fun _ => ?_)
  clear hK K
  try simp only [Act.put, List.setIfInBounds_toArray, List.set_cons_zero, List.set_cons_succ]
  refine ready_op (i := 1) rfl (by kernel_rfl) (by rfl) (fun K hK => ?_)
  go_simp
  refine (C2.out _).mono ?_
  rintro e v1 ⟨rfl, hb1⟩
  have R1e := R1d.below hb1
  go_wp2_with fail
  refine hK.out _ _ ⟨(cells2 R1e.p).1.1, (cells2 R1e.p).1.2⟩ (fun hS1 => ?_)
  clear hK K
  try simp only [Act.put, List.setIfInBounds_toArray, List.set_cons_zero, List.set_cons_succ]
  refine ready_op (i := 3) rfl (by kernel_rfl) (by rfl) (fun K hK => ?_)
  go_simp
  refine (C3.out _).mono ?_
  rintro e u1 ⟨rfl, hc1⟩
  have R1f := R1e.below hc1
  go_wp2_with fail
  refine hK.out _ _ ⟨(cells2 R1f.p).1.1, (cells2 R1f.p).1.2⟩ (fun hS2 => ?_)
  clear hK K
  try simp only [Act.put, List.setIfInBounds_toArray, List.set_cons_zero, List.set_cons_succ]
  clear kp0 kp1 fp0 fp1 kq0 kq1 fq0 fq1 kr0 kr1 fr0 fr1 ks0 ks1 fs0 fs1
  obtain ⟨⟨kp0, kp1⟩, fp0, fp1⟩ := cells2 R1f.p
  obtain ⟨⟨kq0, kq1⟩, fq0, fq1⟩ := cells2 R1f.q
  obtain ⟨⟨kr0, kr1⟩, fr0, fr1⟩ := cells2 R1f.r
  obtain ⟨⟨ks0, ks1⟩, fs0, fs1⟩ := cells2 R1f.s
  refine ready_op (i := 4) rfl (by kernel_rfl) (by rfl) (fun K hK => ?_)
  go_simp
  have R2 := R1f.set_q (x0 := n3_0) (x1 := n3_1)
  refine hK.out _ _ ⟨(cells2 R2.p).1.1, (cells2 R2.p).1.2⟩ (fun hS3 => ?_)
  clear hK K
  try simp only [Act.put, List.setIfInBounds_toArray, List.set_cons_zero, List.set_cons_succ]
  refine wpAnyH_done (by kernel_rfl) ?_ _
  clear hS0 hS1 hS2 hS3 hb1 hc1 R1 R1d R1e R1f
  generalize (u1.setCell ⟨w.heap.size + 1, 0, none⟩ (.int .u64 (n3_0 : Nat))).setCell ⟨w.heap.size + 1, 1, none⟩ (.int .u64 (n3_1 : Nat)) = W2 at *
  clear kp0 kp1 fp0 fp1 kq0 kq1 fq0 fq1 kr0 kr1 fr0 fr1 ks0 ks1 fs0 fs1
  obtain ⟨⟨kp0, kp1⟩, fp0, fp1⟩ := cells2 R2.p
  obtain ⟨⟨kq0, kq1⟩, fq0, fq1⟩ := cells2 R2.q
  obtain ⟨⟨kr0, kr1⟩, fr0, fr1⟩ := cells2 R2.r
  obtain ⟨⟨ks0, ks1⟩, fs0, fs1⟩ := cells2 R2.s
  go_wp2_with fail
  go_wp2_with fail
  refine (C4.out _).mono ?_
  rintro e v2 ⟨rfl, hb2⟩
  have R2b := R2.below hb2
  clear kp0 kp1 fp0 fp1 kq0 kq1 fq0 fq1 kr0 kr1 fr0 fr1 ks0 ks1 fs0 fs1
  obtain ⟨⟨kp0, kp1⟩, fp0, fp1⟩ := cells2 R2b.p
  obtain ⟨⟨kq0, kq1⟩, fq0, fq1⟩ := cells2 R2b.q
  obtain ⟨⟨kr0, kr1⟩, fr0, fr1⟩ := cells2 R2b.r
  obtain ⟨⟨ks0, ks1⟩, fs0, fs1⟩ := cells2 R2b.s
  go_wp2_with fail
  have R3 := R2b.set_p (x0 := n4_0) (x1 := n4_1)
  clear hb2 R2 R2b
  generalize (v2.setCell ⟨w.heap.size, 0, none⟩ (.int .u64 (n4_0 : Nat))).setCell ⟨w.heap.size, 1, none⟩ (.int .u64 (n4_1 : Nat)) = W3 at *
  clear kp0 kp1 fp0 fp1 kq0 kq1 fq0 fq1 kr0 kr1 fr0 fr1 ks0 ks1 fs0 fs1
  obtain ⟨⟨kp0, kp1⟩, fp0, fp1⟩ := cells2 R3.p
  obtain ⟨⟨kq0, kq1⟩, fq0, fq1⟩ := cells2 R3.q
  obtain ⟨⟨kr0, kr1⟩, fr0, fr1⟩ := cells2 R3.r
  obtain ⟨⟨ks0, ks1⟩, fs0, fs1⟩ := cells2 R3.s
  go_wp2_with fail
  refine (C5.out _).mono ?_
  rintro e v3 ⟨rfl, hb3⟩
  have R3b := R3.below hb3
  clear kp0 kp1 fp0 fp1 kq0 kq1 fq0 fq1 kr0 kr1 fr0 fr1 ks0 ks1 fs0 fs1
  obtain ⟨⟨kp0, kp1⟩, fp0, fp1⟩ := cells2 R3b.p
  obtain ⟨⟨kq0, kq1⟩, fq0, fq1⟩ := cells2 R3b.q
  obtain ⟨⟨kr0, kr1⟩, fr0, fr1⟩ := cells2 R3b.r
  obtain ⟨⟨ks0, ks1⟩, fs0, fs1⟩ := cells2 R3b.s
  go_wp2_with fail
  have R4 := R3b.set_r (x0 := n5_0) (x1 := n5_1)
  clear hb3 R3 R3b
  generalize (v3.setCell ⟨w.heap.size + 1 + 1, 0, none⟩ (.int .u64 (n5_0 : Nat))).setCell ⟨w.heap.size + 1 + 1, 1, none⟩ (.int .u64 (n5_1 : Nat)) = W4 at *
  clear kp0 kp1 fp0 fp1 kq0 kq1 fq0 fq1 kr0 kr1 fr0 fr1 ks0 ks1 fs0 fs1
  obtain ⟨⟨kp0, kp1⟩, fp0, fp1⟩ := cells2 R4.p
  obtain ⟨⟨kq0, kq1⟩, fq0, fq1⟩ := cells2 R4.q
  obtain ⟨⟨kr0, kr1⟩, fr0, fr1⟩ := cells2 R4.r
  obtain ⟨⟨ks0, ks1⟩, fs0, fs1⟩ := cells2 R4.s
  have R4d := R4.below ((Below.refl W4.heap.size W4).drew)
  refine wp_region_held_drew (S := fun W => W.cell? ⟨w.heap.size + 1 + 1, 0, none⟩ = some (.int .u64 (n5_0 : Nat)) /\ W.cell? ⟨w.heap.size + 1 + 1, 1, none⟩ = some (.int .u64 (n5_1 : Nat))) (by kernel_rfl) ⟨(cells2 R4d.r).1.1, (cells2 R4d.r).1.2⟩ (fun hS0 => ?_)
  generalize W4.drew = U4 at *
  clear kp0 kp1 fp0 fp1 kq0 kq1 fq0 fq1 kr0 kr1 fr0 fr1 ks0 ks1 fs0 fs1
  obtain ⟨⟨kp0, kp1⟩, fp0, fp1⟩ := cells2 R4d.p
  obtain ⟨⟨kq0, kq1⟩, fq0, fq1⟩ := cells2 R4d.q
  obtain ⟨⟨kr0, kr1⟩, fr0, fr1⟩ := cells2 R4d.r
  obtain ⟨⟨ks0, ks1⟩, fs0, fs1⟩ := cells2 R4d.s
  refine take_op (i := 2) (v := .agg #[.int .u64 (n5_0 : Nat), .int .u64 (n5_1 : Nat)]) rfl (by kernel_rfl) (by kernel_rfl) (by kernel_rfl) (fun _ _ _ h => h) (Or.inl ⟨by rfl, fun w hw => by obtain ⟨c0, c1⟩ := hw; go_simp⟩) hS0 ?_
  simp only [Act.put, List.setIfInBounds_toArray, List.set_cons_zero, List.set_cons_succ]
  refine ready_op (i := 0) rfl (by kernel_rfl) (by rfl) (fun K hK => ?_)
  go_simp
  refine hK.out _ _ hS0 (fun _ => ?_)
  clear hK K
  try simp only [Act.put, List.setIfInBounds_toArray, List.set_cons_zero, List.set_cons_succ]
  refine ready_op (i := 1) rfl (by kernel_rfl) (by rfl) (fun K hK => ?_)
  go_simp
  refine (C6.out _).mono ?_
  rintro e v4 ⟨rfl, hb4⟩
  have R4e := R4d.below hb4
  go_wp2_with fail
  refine hK.out _ _ ⟨(cells2 R4e.r).1.1, (cells2 R4e.r).1.2⟩ (fun hS1 => ?_)
  clear hK K
  try simp only [Act.put, List.setIfInBounds_toArray, List.set_cons_zero, List.set_cons_succ]
  refine ready_op (i := 3) rfl (by kernel_rfl) (by rfl) (fun K hK => ?_)
  go_simp
  refine (C7.out _).mono ?_
  rintro e u4 ⟨rfl, hc4⟩
  have R4f := R4e.below hc4
  go_wp2_with fail
  refine hK.out _ _ ⟨(cells2 R4f.r).1.1, (cells2 R4f.r).1.2⟩ (fun hS2 => ?_)
  clear hK K
  try simp only [Act.put, List.setIfInBounds_toArray, List.set_cons_zero, List.set_cons_succ]
  clear kp0 kp1 fp0 fp1 kq0 kq1 fq0 fq1 kr0 kr1 fr0 fr1 ks0 ks1 fs0 fs1
  obtain ⟨⟨kp0, kp1⟩, fp0, fp1⟩ := cells2 R4f.p
  obtain ⟨⟨kq0, kq1⟩, fq0, fq1⟩ := cells2 R4f.q
  obtain ⟨⟨kr0, kr1⟩, fr0, fr1⟩ := cells2 R4f.r
  obtain ⟨⟨ks0, ks1⟩, fs0, fs1⟩ := cells2 R4f.s
  refine ready_op (i := 4) rfl (by kernel_rfl) (by rfl) (fun K hK => ?_)
  go_simp
  have R5 := R4f.set_s (x0 := n7_0) (x1 := n7_1)
  refine hK.out _ _ ⟨(cells2 R5.r).1.1, (cells2 R5.r).1.2⟩ (fun hS3 => ?_)
  clear hK K
  try simp only [Act.put, List.setIfInBounds_toArray, List.set_cons_zero, List.set_cons_succ]
  refine wpAnyH_done (by kernel_rfl) ?_ _
  clear hS0 hS1 hS2 hS3 hb4 hc4 R4 R4d R4e R4f
  generalize (u4.setCell ⟨w.heap.size + 1 + 1 + 1, 0, none⟩ (.int .u64 (n7_0 : Nat))).setCell ⟨w.heap.size + 1 + 1 + 1, 1, none⟩ (.int .u64 (n7_1 : Nat)) = W5 at *
  clear kp0 kp1 fp0 fp1 kq0 kq1 fq0 fq1 kr0 kr1 fr0 fr1 ks0 ks1 fs0 fs1
  obtain ⟨⟨kp0, kp1⟩, fp0, fp1⟩ := cells2 R5.p
  obtain ⟨⟨kq0, kq1⟩, fq0, fq1⟩ := cells2 R5.q
  obtain ⟨⟨kr0, kr1⟩, fr0, fr1⟩ := cells2 R5.r
  obtain ⟨⟨ks0, ks1⟩, fs0, fs1⟩ := cells2 R5.s
  go_wp2_with fail
  go_wp2_with fail
  refine (C8.out _).mono ?_
  rintro e v5 ⟨rfl, hb5⟩
  have R5b := R5.below hb5
  clear kp0 kp1 fp0 fp1 kq0 kq1 fq0 fq1 kr0 kr1 fr0 fr1 ks0 ks1 fs0 fs1
  obtain ⟨⟨kp0, kp1⟩, fp0, fp1⟩ := cells2 R5b.p
  obtain ⟨⟨kq0, kq1⟩, fq0, fq1⟩ := cells2 R5b.q
  obtain ⟨⟨kr0, kr1⟩, fr0, fr1⟩ := cells2 R5b.r
  obtain ⟨⟨ks0, ks1⟩, fs0, fs1⟩ := cells2 R5b.s
  go_wp2_with fail
  have R6 := R5b.set_p (x0 := n8_0) (x1 := n8_1)
  clear hb5 R5 R5b
  generalize (v5.setCell ⟨w.heap.size, 0, none⟩ (.int .u64 (n8_0 : Nat))).setCell ⟨w.heap.size, 1, none⟩ (.int .u64 (n8_1 : Nat)) = W6 at *
  clear kp0 kp1 fp0 fp1 kq0 kq1 fq0 fq1 kr0 kr1 fr0 fr1 ks0 ks1 fs0 fs1
  obtain ⟨⟨kp0, kp1⟩, fp0, fp1⟩ := cells2 R6.p
  obtain ⟨⟨kq0, kq1⟩, fq0, fq1⟩ := cells2 R6.q
  obtain ⟨⟨kr0, kr1⟩, fr0, fr1⟩ := cells2 R6.r
  obtain ⟨⟨ks0, ks1⟩, fs0, fs1⟩ := cells2 R6.s
  have R6d := R6.below ((Below.refl W6.heap.size W6).drew)
  refine wp_region_held_drew (S := fun W => W.cell? ⟨w.heap.size, 0, none⟩ = some (.int .u64 (n8_0 : Nat)) /\ W.cell? ⟨w.heap.size, 1, none⟩ = some (.int .u64 (n8_1 : Nat))) (by kernel_rfl) ⟨(cells2 R6d.p).1.1, (cells2 R6d.p).1.2⟩ (fun hS0 => ?_)
  generalize W6.drew = U6 at *
  clear kp0 kp1 fp0 fp1 kq0 kq1 fq0 fq1 kr0 kr1 fr0 fr1 ks0 ks1 fs0 fs1
  obtain ⟨⟨kp0, kp1⟩, fp0, fp1⟩ := cells2 R6d.p
  obtain ⟨⟨kq0, kq1⟩, fq0, fq1⟩ := cells2 R6d.q
  obtain ⟨⟨kr0, kr1⟩, fr0, fr1⟩ := cells2 R6d.r
  obtain ⟨⟨ks0, ks1⟩, fs0, fs1⟩ := cells2 R6d.s
  refine take_op (i := 2) (v := .agg #[.int .u64 (n8_0 : Nat), .int .u64 (n8_1 : Nat)]) rfl (by kernel_rfl) (by kernel_rfl) (by kernel_rfl) (fun _ _ _ h => h) (Or.inl ⟨by rfl, fun w hw => by obtain ⟨c0, c1⟩ := hw; go_simp⟩) hS0 ?_
  simp only [Act.put, List.setIfInBounds_toArray, List.set_cons_zero, List.set_cons_succ]
  refine ready_op (i := 0) rfl (by kernel_rfl) (by rfl) (fun K hK => ?_)
  go_simp
  refine hK.out _ _ hS0 (fun _ => ?_)
  clear hK K
  try simp only [Act.put, List.setIfInBounds_toArray, List.set_cons_zero, List.set_cons_succ]
  refine ready_op (i := 1) rfl (by kernel_rfl) (by rfl) (fun K hK => ?_)
  go_simp
  refine (C9.out _).mono ?_
  rintro e v6 ⟨rfl, hb6⟩
  have R6e := R6d.below hb6
  go_wp2_with fail
  refine hK.out _ _ ⟨(cells2 R6e.p).1.1, (cells2 R6e.p).1.2⟩ (fun hS1 => ?_)
  clear hK K
  try simp only [Act.put, List.setIfInBounds_toArray, List.set_cons_zero, List.set_cons_succ]
  refine ready_op (i := 3) rfl (by kernel_rfl) (by rfl) (fun K hK => ?_)
  go_simp
  refine (C10.out _).mono ?_
  rintro e u6 ⟨rfl, hc6⟩
  have R6f := R6e.below hc6
  go_wp2_with fail
  refine hK.out _ _ ⟨(cells2 R6f.p).1.1, (cells2 R6f.p).1.2⟩ (fun hS2 => ?_)
  clear hK K
  try simp only [Act.put, List.setIfInBounds_toArray, List.set_cons_zero, List.set_cons_succ]
  clear kp0 kp1 fp0 fp1 kq0 kq1 fq0 fq1 kr0 kr1 fr0 fr1 ks0 ks1 fs0 fs1
  obtain ⟨⟨kp0, kp1⟩, fp0, fp1⟩ := cells2 R6f.p
  obtain ⟨⟨kq0, kq1⟩, fq0, fq1⟩ := cells2 R6f.q
  obtain ⟨⟨kr0, kr1⟩, fr0, fr1⟩ := cells2 R6f.r
  obtain ⟨⟨ks0, ks1⟩, fs0, fs1⟩ := cells2 R6f.s
  refine ready_op (i := 4) rfl (by kernel_rfl) (by rfl) (fun K hK => ?_)
  go_simp
  have R7 := R6f.set_s (x0 := n10_0) (x1 := n10_1)
  refine hK.out _ _ ⟨(cells2 R7.p).1.1, (cells2 R7.p).1.2⟩ (fun hS3 => ?_)
  clear hK K
  try simp only [Act.put, List.setIfInBounds_toArray, List.set_cons_zero, List.set_cons_succ]
  refine wpAnyH_done (by kernel_rfl) ?_ _
  clear hS0 hS1 hS2 hS3 hb6 hc6 R6 R6d R6e R6f
  generalize (u6.setCell ⟨w.heap.size + 1 + 1 + 1, 0, none⟩ (.int .u64 (n10_0 : Nat))).setCell ⟨w.heap.size + 1 + 1 + 1, 1, none⟩ (.int .u64 (n10_1 : Nat)) = W7 at *
  clear kp0 kp1 fp0 fp1 kq0 kq1 fq0 fq1 kr0 kr1 fr0 fr1 ks0 ks1 fs0 fs1
  obtain ⟨⟨kp0, kp1⟩, fp0, fp1⟩ := cells2 R7.p
  obtain ⟨⟨kq0, kq1⟩, fq0, fq1⟩ := cells2 R7.q
  obtain ⟨⟨kr0, kr1⟩, fr0, fr1⟩ := cells2 R7.r
  obtain ⟨⟨ks0, ks1⟩, fs0, fs1⟩ := cells2 R7.s
  go_wp2_with fail
  go_wp2_with fail
  refine (C11.out _).mono ?_
  rintro e v7 ⟨rfl, hb7⟩
  have R7b := R7.below hb7
  clear kp0 kp1 fp0 fp1 kq0 kq1 fq0 fq1 kr0 kr1 fr0 fr1 ks0 ks1 fs0 fs1
  obtain ⟨⟨kp0, kp1⟩, fp0, fp1⟩ := cells2 R7b.p
  obtain ⟨⟨kq0, kq1⟩, fq0, fq1⟩ := cells2 R7b.q
  obtain ⟨⟨kr0, kr1⟩, fr0, fr1⟩ := cells2 R7b.r
  obtain ⟨⟨ks0, ks1⟩, fs0, fs1⟩ := cells2 R7b.s
  go_wp2_with fail
  have R8 := R7b.set_r (x0 := n11_0) (x1 := n11_1)
  clear hb7 R7 R7b
  generalize (v7.setCell ⟨w.heap.size + 1 + 1, 0, none⟩ (.int .u64 (n11_0 : Nat))).setCell ⟨w.heap.size + 1 + 1, 1, none⟩ (.int .u64 (n11_1 : Nat)) = W8 at *
  clear kp0 kp1 fp0 fp1 kq0 kq1 fq0 fq1 kr0 kr1 fr0 fr1 ks0 ks1 fs0 fs1
  obtain ⟨⟨kp0, kp1⟩, fp0, fp1⟩ := cells2 R8.p
  obtain ⟨⟨kq0, kq1⟩, fq0, fq1⟩ := cells2 R8.q
  obtain ⟨⟨kr0, kr1⟩, fr0, fr1⟩ := cells2 R8.r
  obtain ⟨⟨ks0, ks1⟩, fs0, fs1⟩ := cells2 R8.s
  have R8d := R8.below ((Below.refl W8.heap.size W8).drew)
  refine wp_region_held_drew (S := fun W => W.cell? ⟨w.heap.size + 1 + 1, 0, none⟩ = some (.int .u64 (n11_0 : Nat)) /\ W.cell? ⟨w.heap.size + 1 + 1, 1, none⟩ = some (.int .u64 (n11_1 : Nat))) (by kernel_rfl) ⟨(cells2 R8d.r).1.1, (cells2 R8d.r).1.2⟩ (fun hS0 => ?_)
  generalize W8.drew = U8 at *
  clear kp0 kp1 fp0 fp1 kq0 kq1 fq0 fq1 kr0 kr1 fr0 fr1 ks0 ks1 fs0 fs1
  obtain ⟨⟨kp0, kp1⟩, fp0, fp1⟩ := cells2 R8d.p
  obtain ⟨⟨kq0, kq1⟩, fq0, fq1⟩ := cells2 R8d.q
  obtain ⟨⟨kr0, kr1⟩, fr0, fr1⟩ := cells2 R8d.r
  obtain ⟨⟨ks0, ks1⟩, fs0, fs1⟩ := cells2 R8d.s
  refine take_op (i := 2) (v := .agg #[.int .u64 (n11_0 : Nat), .int .u64 (n11_1 : Nat)]) rfl (by kernel_rfl) (by kernel_rfl) (by kernel_rfl) (fun _ _ _ h => h) (Or.inl ⟨by rfl, fun w hw => by obtain ⟨c0, c1⟩ := hw; go_simp⟩) hS0 ?_
  simp only [Act.put, List.setIfInBounds_toArray, List.set_cons_zero, List.set_cons_succ]
  refine ready_op (i := 0) rfl (by kernel_rfl) (by rfl) (fun K hK => ?_)
  go_simp
  refine hK.out _ _ hS0 (fun _ => ?_)
  clear hK K
  try simp only [Act.put, List.setIfInBounds_toArray, List.set_cons_zero, List.set_cons_succ]
  refine ready_op (i := 1) rfl (by kernel_rfl) (by rfl) (fun K hK => ?_)
  go_simp
  refine (C12.out _).mono ?_
  rintro e v8 ⟨rfl, hb8⟩
  have R8e := R8d.below hb8
  go_wp2_with fail
  refine hK.out _ _ ⟨(cells2 R8e.r).1.1, (cells2 R8e.r).1.2⟩ (fun hS1 => ?_)
  clear hK K
  try simp only [Act.put, List.setIfInBounds_toArray, List.set_cons_zero, List.set_cons_succ]
  refine ready_op (i := 3) rfl (by kernel_rfl) (by rfl) (fun K hK => ?_)
  go_simp
  refine (C13.out _).mono ?_
  rintro e u8 ⟨rfl, hc8⟩
  have R8f := R8e.below hc8
  go_wp2_with fail
  refine hK.out _ _ ⟨(cells2 R8f.r).1.1, (cells2 R8f.r).1.2⟩ (fun hS2 => ?_)
  clear hK K
  try simp only [Act.put, List.setIfInBounds_toArray, List.set_cons_zero, List.set_cons_succ]
  clear kp0 kp1 fp0 fp1 kq0 kq1 fq0 fq1 kr0 kr1 fr0 fr1 ks0 ks1 fs0 fs1
  obtain ⟨⟨kp0, kp1⟩, fp0, fp1⟩ := cells2 R8f.p
  obtain ⟨⟨kq0, kq1⟩, fq0, fq1⟩ := cells2 R8f.q
  obtain ⟨⟨kr0, kr1⟩, fr0, fr1⟩ := cells2 R8f.r
  obtain ⟨⟨ks0, ks1⟩, fs0, fs1⟩ := cells2 R8f.s
  refine ready_op (i := 4) rfl (by kernel_rfl) (by rfl) (fun K hK => ?_)
  go_simp
  have R9 := R8f.set_q (x0 := n13_0) (x1 := n13_1)
  refine hK.out _ _ ⟨(cells2 R9.r).1.1, (cells2 R9.r).1.2⟩ (fun hS3 => ?_)
  clear hK K
  try simp only [Act.put, List.setIfInBounds_toArray, List.set_cons_zero, List.set_cons_succ]
  refine wpAnyH_done (by kernel_rfl) ?_ _
  clear hS0 hS1 hS2 hS3 hb8 hc8 R8 R8d R8e R8f
  generalize (u8.setCell ⟨w.heap.size + 1, 0, none⟩ (.int .u64 (n13_0 : Nat))).setCell ⟨w.heap.size + 1, 1, none⟩ (.int .u64 (n13_1 : Nat)) = W9 at *
  clear kp0 kp1 fp0 fp1 kq0 kq1 fq0 fq1 kr0 kr1 fr0 fr1 ks0 ks1 fs0 fs1
  obtain ⟨⟨kp0, kp1⟩, fp0, fp1⟩ := cells2 R9.p
  obtain ⟨⟨kq0, kq1⟩, fq0, fq1⟩ := cells2 R9.q
  obtain ⟨⟨kr0, kr1⟩, fr0, fr1⟩ := cells2 R9.r
  obtain ⟨⟨ks0, ks1⟩, fs0, fs1⟩ := cells2 R9.s
  go_wp2_with fail
  go_wp2_with fail
  refine (C14.out _).mono ?_
  rintro e v9 ⟨rfl, hb9⟩
  have R9b := R9.below hb9
  clear kp0 kp1 fp0 fp1 kq0 kq1 fq0 fq1 kr0 kr1 fr0 fr1 ks0 ks1 fs0 fs1
  obtain ⟨⟨kp0, kp1⟩, fp0, fp1⟩ := cells2 R9b.p
  obtain ⟨⟨kq0, kq1⟩, fq0, fq1⟩ := cells2 R9b.q
  obtain ⟨⟨kr0, kr1⟩, fr0, fr1⟩ := cells2 R9b.r
  obtain ⟨⟨ks0, ks1⟩, fs0, fs1⟩ := cells2 R9b.s
  go_wp2_with fail
  have R10 := R9b.set_r (x0 := n14_0) (x1 := n14_1)
  clear hb9 R9 R9b
  generalize (v9.setCell ⟨w.heap.size + 1 + 1, 0, none⟩ (.int .u64 (n14_0 : Nat))).setCell ⟨w.heap.size + 1 + 1, 1, none⟩ (.int .u64 (n14_1 : Nat)) = W10 at *
  clear kp0 kp1 fp0 fp1 kq0 kq1 fq0 fq1 kr0 kr1 fr0 fr1 ks0 ks1 fs0 fs1
  obtain ⟨⟨kp0, kp1⟩, fp0, fp1⟩ := cells2 R10.p
  obtain ⟨⟨kq0, kq1⟩, fq0, fq1⟩ := cells2 R10.q
  obtain ⟨⟨kr0, kr1⟩, fr0, fr1⟩ := cells2 R10.r
  obtain ⟨⟨ks0, ks1⟩, fs0, fs1⟩ := cells2 R10.s
  clear kp0 kp1 fp0 fp1 kq0 kq1 fq0 fq1 kr0 kr1 fr0 fr1 ks0 ks1 fs0 fs1
  have R10d := R10.below ((Below.refl W10.heap.size W10).drew)
  obtain ⟨⟨kp0, kp1⟩, fp0, fp1⟩ := cells2 R10.p
  obtain ⟨⟨kq0, kq1⟩, fq0, fq1⟩ := cells2 R10.q
  obtain ⟨⟨kr0, kr1⟩, fr0, fr1⟩ := cells2 R10.r
  obtain ⟨⟨ks0, ks1⟩, fs0, fs1⟩ := cells2 R10.s
  obtain ⟨⟨j00, j01⟩, g00, g01⟩ := cells2 R10.z0
  obtain ⟨⟨j10, j11⟩, g10, g11⟩ := cells2 R10.z1
  obtain ⟨⟨j20, j21⟩, g20, g21⟩ := cells2 R10.z2
  obtain ⟨⟨j30, j31⟩, g30, g31⟩ := cells2 R10.z3
  have n1 : ¬ (w.heap.size + 1 = w.heap.size) := by omega
  have n2 : ¬ (w.heap.size + 1 + 1 = w.heap.size) := by omega
  have n3 : ¬ (w.heap.size + 1 + 1 + 1 = w.heap.size) := by omega
  have n4 : ¬ (w.heap.size + 1 + 1 + 1 + 1 = w.heap.size) := by omega
  have n5 : ¬ (w.heap.size + 1 + 1 + 1 + 1 + 1 = w.heap.size) := by omega
  have n6 : ¬ (w.heap.size + 1 + 1 + 1 + 1 + 1 + 1 = w.heap.size) := by omega
  have n7 : ¬ (w.heap.size + 1 + 1 + 1 + 1 + 1 + 1 + 1 = w.heap.size) := by omega
  have HRE := Lib.hid R10.ends
  clear R10 R10d
  go_region_held3 (fun W => W.cell? ⟨w.heap.size, 0, none⟩ = some (.int .u64 (n8_0 : Nat)) /\ W.cell? ⟨w.heap.size, 1, none⟩ = some (.int .u64 (n8_1 : Nat)) /\ W.cell? ⟨w.heap.size + 1, 0, none⟩ = some (.int .u64 (n13_0 : Nat)) /\ W.cell? ⟨w.heap.size + 1, 1, none⟩ = some (.int .u64 (n13_1 : Nat)) /\ W.cell? ⟨w.heap.size + 1 + 1, 0, none⟩ = some (.int .u64 (n14_0 : Nat)) /\ W.cell? ⟨w.heap.size + 1 + 1, 1, none⟩ = some (.int .u64 (n14_1 : Nat)) /\ W.cell? ⟨w.heap.size + 1 + 1 + 1, 0, none⟩ = some (.int .u64 (n10_0 : Nat)) /\ W.cell? ⟨w.heap.size + 1 + 1 + 1, 1, none⟩ = some (.int .u64 (n10_1 : Nat))) (go_keep) (fail)
  have RE := HRE.out
  generalize ((((((((W10.setCell ⟨w.heap.size + 1 + 1 + 1 + 1, 0, none⟩ (.int .u64 (n8_0 : Nat))).setCell ⟨w.heap.size + 1 + 1 + 1 + 1, 1, none⟩ (.int .u64 (n8_1 : Nat))).setCell ⟨w.heap.size + 1 + 1 + 1 + 1 + 1, 0, none⟩ (.int .u64 (n13_0 : Nat))).setCell ⟨w.heap.size + 1 + 1 + 1 + 1 + 1, 1, none⟩ (.int .u64 (n13_1 : Nat))).setCell ⟨w.heap.size + 1 + 1 + 1 + 1 + 1 + 1, 0, none⟩ (.int .u64 (n14_0 : Nat))).setCell ⟨w.heap.size + 1 + 1 + 1 + 1 + 1 + 1, 1, none⟩ (.int .u64 (n14_1 : Nat))).setCell ⟨w.heap.size + 1 + 1 + 1 + 1 + 1 + 1 + 1, 0, none⟩ (.int .u64 (n10_0 : Nat))).setCell ⟨w.heap.size + 1 + 1 + 1 + 1 + 1 + 1 + 1, 1, none⟩ (.int .u64 (n10_1 : Nat))) = WZ at RE ⊢
  clear HRE kp0 kp1 fp0 fp1 kq0 kq1 fq0 fq1 kr0 kr1 fr0 fr1 ks0 ks1 fs0 fs1 j00 j01 g00 g01 j10 j11 g10 g11 j20 j21 g20 g21 j30 j31 g30 g31
  go_wp2_with fail
  obtain ⟨l00, l01, l10, l11, l20, l21, l30, l31, hb⟩ := RE
  refine bodyPost_ret (v := .tuple #[.agg #[.int .u64 (n8_0 : Nat), .int .u64 (n8_1 : Nat)], .agg #[.int .u64 (n13_0 : Nat), .int .u64 (n13_1 : Nat)], .agg #[.int .u64 (n14_0 : Nat), .int .u64 (n14_1 : Nat)], .agg #[.int .u64 (n10_0 : Nat), .int .u64 (n10_1 : Nat)]]) ?_ rfl ⟨rfl, by exact hb.drew⟩
  simp [results, Tryz.results117, go_sem, l00, l01, l10, l11, l20, l21, l30, l31]
end Go.Proofs.YtadaoceidkagfaaGreatDoor
/- ref05: the number of bytes; a key's numbers. -/
namespace Go.Proofs.YtadaoceidkagfaaGreatDoor
open Go.RowKit Go.Bw
def LowR5 (l : List UInt8) (n i : Value) : Prop := ∃ k : Nat, k <= l.length /\ i = .int .i64 ((k : Int) - 1) /\ n = .int .u64 (Bw.lowOf (l.drop k) : Nat)
set_option maxRecDepth 100000 in
set_option maxHeartbeats 400000 in
theorem low05_any {l : List UInt8} (hl : l.length <= 8) (w : World) :
    Calls Tryz.prog 92 #[.string ⟨l.toArray⟩] w fun e w' => e = .returned (.int .u64 (Bw.lowOf l : Nat)) /\ w = w' := by
  have hsz : (⟨l.toArray⟩ : ByteArray).size = l.length := by simp [ByteArray.size]
  have hw : wrap64 ((l.length : Int) - 1) = (l.length : Int) - 1 := by unfold wrap64; omega
  have H0 : Hid (LowR5 l (.int .u64 0) (.int .i64 ((l.length : Int) - 1))) := Lib.hid ⟨l.length, Nat.le_refl _, rfl, by rw [List.drop_of_length_le (Nat.le_refl _)]; rfl⟩
  have H8 := Lib.hid hl; have HSZ := Lib.hid hsz; have HW := Lib.hid hw
  clear hl hw
  go_enter Tryz.func92, Tryz.ntmps92
  go_wp2_with fail
  rw [HW.out]
  go_loop [3, 4] (LowR5 l) (fun _ i => (intOf i + 1).toNat)
  case atStart => exact H0.out
  case round =>
    obtain ⟨k, hk, rfl, rfl⟩ := hrel
    cases k with
    | zero =>
      have e0 : (((0 : Nat) : Int) - 1) = -1 := by omega
      rw [e0, List.drop_zero]
      go_wp2
      go_ret
      exact ⟨rfl, rfl⟩
    | succ j =>
      have hj : j < l.length := by omega
      have hsm := low_small l H8.out j
      have hd2 := low_drop l j hj
      have hb := (l[j]).toNat_lt
      have hst := low_step _ _ hsm hb
      rw [<- hd2] at hst
      have e1 : (((j + 1 : Nat) : Int) - 1) = (j : Int) := by omega
      rw [e1]
      have h0 : (0 : Int) <= (j : Int) := by omega
      have h1 : (j : Int) < (l.length : Int) := by omega
      have hix : ((⟨l.toArray⟩ : ByteArray).data[j]?).getD 0 = l[j] := by simp [List.getElem?_eq_getElem hj]
      have HL8 : Hid (wrap64 ((j : Int) - 1) = (j : Int) - 1) := Lib.hid (by have := H8.out; unfold wrap64; omega)
      have HST := Lib.hid hst
      have HKJ : Hid (j <= l.length) := Lib.hid (by omega)
      obtain ⟨n', hn'⟩ : ∃ n', Bw.lowOf (l.drop j) = n' := ⟨_, rfl⟩
      rw [hn'] at HST
      have HN := Lib.hid hn'
      generalize Bw.lowOf (l.drop (j + 1)) = n at *
      clear hd2 hb hst hsm hk hn'
      go_wp2
      have hg : ∀ h, (ByteArray.mk l.toArray)[j]'h = l[j] := fun _ => rfl
      simp only [hg]
      rw [HST.out, HL8.out]
      exact ⟨⟨j, HKJ.out, rfl, by rw [HN.out]⟩, by simp only [intOf]; omega⟩
def nums : Bw.Bytes -> List Nat × Bw.Bytes
  | a :: b :: c :: d :: e :: f :: g :: h :: r => (Bw.low8 [a, b, c, d, e, f, g, h] :: (nums r).1, (nums r).2)
  | l => ([], l)
theorem nums_lt {l : Bw.Bytes} (h : l.length < 8) : nums l = ([], l) := by
  match l, h with
  | [], _ => rfl
  | [_], _ => rfl
  | [_, _], _ => rfl
  | [_, _, _], _ => rfl
  | [_, _, _, _], _ => rfl
  | [_, _, _, _, _], _ => rfl
  | [_, _, _, _, _, _], _ => rfl
  | [_, _, _, _, _, _, _], _ => rfl
theorem nums_ge {l : Bw.Bytes} (h : 8 <= l.length) : nums l = (Bw.lowOf (l.take 8) :: (nums (l.drop 8)).1, (nums (l.drop 8)).2) := by
  match l, h with
  | a :: b :: c :: d :: e :: f :: g :: h :: r, _ => rfl
def numsOf (l : Bw.Bytes) : List Nat := (nums l).1 ++ [l.length % 256 * 2 ^ 56 ||| Bw.low8 (nums l).2]
theorem eights_nums (x : Bw.Sip) (l : Bw.Bytes) : Bw.sipEights x l = ((nums l).1.foldl Bw.sipTake x, (nums l).2) := by
  induction hn : l.length using Nat.strongRecOn generalizing l x with
  | _ n ih =>
    by_cases h : 8 <= l.length
    · rw [eights_ge h, nums_ge h, ih (l.drop 8).length (by rw [List.length_drop]; omega) _ (l.drop 8) rfl]
      have e : Bw.low8 l = Bw.lowOf (l.take 8) := rfl
      rw [e]; rfl
    · rw [eights_lt (by omega), nums_lt (by omega)]; rfl
theorem hash_nums (s : List UInt8) (l : Bw.Bytes) : Bw.sipHash s l = Bw.sipEnd ((numsOf l).foldl Bw.sipTake (Bw.sipBegin s)) := by
  unfold Bw.sipHash numsOf
  rw [eights_nums, List.foldl_append]
  rfl
theorem nums_small (l : Bw.Bytes) : ∀ m ∈ numsOf l, m < 18446744073709551616 := by
  have key : ∀ l : Bw.Bytes, ∀ m ∈ (nums l).1, m < 18446744073709551616 := by
    intro l
    induction hn : l.length using Nat.strongRecOn generalizing l with
    | _ n ih =>
      intro m hm
      by_cases h : 8 <= l.length
      · rw [nums_ge h] at hm
        rcases List.mem_cons.1 hm with e | e
        · rw [e]
          exact Bw.low8_lt l
        · exact ih (l.drop 8).length (by rw [List.length_drop]; omega) (l.drop 8) rfl m e
      · rw [nums_lt (by omega)] at hm
        cases hm
  intro m hm
  rcases List.mem_append.1 hm with h | h
  · exact key l m h
  · rw [List.mem_singleton.1 h]
    refine Bw.or_lt64 ?_ (Bw.low8_lt _)
    have h : l.length % 256 <= 255 := Nat.le_of_lt_succ (Nat.mod_lt _ (by decide))
    exact Nat.lt_of_le_of_lt (Nat.mul_le_mul_right _ h) (by decide)
end Go.Proofs.YtadaoceidkagfaaGreatDoor
/- ref05.Numbers. -/
namespace Go.Proofs.YtadaoceidkagfaaGreatDoor
open Go.RowKit Go.Bw
theorem infoU64 : (Tryz.prog.info? 47).map (fun i => (i.zero, i.size, i.bytes)) = some (some (.int .u64 0), 1, 8) := by kernel_rfl
theorem ex_take (r : List UInt8) (k : Nat) : (ByteArray.mk r.toArray).extract 0 k = ⟨(r.take k).toArray⟩ := by
  apply ByteArray.ext
  simp
theorem ex_drop (r : List UInt8) (k n : Nat) (h : r.length <= n) : (ByteArray.mk r.toArray).extract k n = ⟨(r.drop k).toArray⟩ := by
  apply ByteArray.ext
  simp
  rw [List.take_of_length_le (by rw [List.length_drop]; omega)]
theorem app_zero (r : List UInt8) : ByteArray.mk r.toArray ++ ⟨#[0]⟩ = ⟨(r ++ [0]).toArray⟩ := by
  apply ByteArray.ext
  simp
def NumR (l : Bw.Bytes) (w : World) (key out : Value) (W : World) : Prop :=
  ∃ (d : List Nat) (r : Bw.Bytes), key = .string ⟨r.toArray⟩ /\ r.length <= 1048576 /\ d.length + r.length <= l.length /\ nums l = (d ++ (nums r).1, (nums r).2) /\ OwnAt 47 1 natK64 (fun b => w.heap.size <= b) W w.heap.size out d /\ Below w.heap.size w W
theorem low_pad (r : List UInt8) (k : Nat) : Bw.lowOf (r ++ List.replicate k 0) = Bw.lowOf r := by
  induction r with
  | nil =>
    induction k with
    | zero => rfl
    | succ k ih =>
      rw [List.nil_append] at ih ⊢
      show (0 : UInt8).toNat + 256 * Bw.lowOf (List.replicate k 0) = 0
      rw [ih]; rfl
  | cons b r ih =>
    show b.toNat + 256 * Bw.lowOf (r ++ List.replicate k 0) = b.toNat + 256 * Bw.lowOf r
    rw [ih]
def PadR (r : Bw.Bytes) (key : Value) : Prop := ∃ k : Nat, key = .string ⟨(r ++ List.replicate k 0).toArray⟩ /\ (r ++ List.replicate k 0).length <= 7
def lenS : Value -> Nat
  | .string b => b.size
  | _ => 0
set_option maxRecDepth 100000 in
set_option maxHeartbeats 1000000 in
theorem numbers05_any {l : Bw.Bytes} (hl : l.length <= 1048576) (w : World) :
    Calls Tryz.prog 64 #[.string ⟨l.toArray⟩] w (Gives w fun q w' => RowAt 1 natK64 (fun b => w.heap.size <= b) w' q (numsOf l)) := by
  obtain ⟨i0, hi, hz0, hz1, hz2⟩ := info_parts infoU64
  have HI := Lib.hid hi; have HZ0 := Lib.hid hz0; have HZ1 := Lib.hid hz1; have HZ2 := Lib.hid hz2
  have hsz : (⟨l.toArray⟩ : ByteArray).size = l.length := by simp [ByteArray.size]
  have HL := Lib.hid hl
  have HN : Hid (IntKind.u64.wrap (Int.tmod (l.length : Int) 256) = ((l.length % 256 : Nat) : Int)) := Lib.hid (by rw [IntKind.wrap_u64, Int.tmod_eq_emod_of_nonneg (by omega)]; omega)
  have H0 : Hid (NumR l w (.string ⟨l.toArray⟩) (.slice none 0 0) w) := Lib.hid ⟨[], l, rfl, hl, by simp, by simp, OwnAt.nil, Below.refl _ _⟩
  clear hl hi hz0 hz1 hz2
  go_enter Tryz.func64, Tryz.ntmps64
  go_wp2_with fail
  go_loopw [0, 3] (NumR l w) (fun key _ _ => lenS key)
  case atStart => exact H0.out
  case round =>
    obtain ⟨d, r, rfl, hr, hdr, hnum, hown, hB⟩ := hrel
    have hszr : (⟨r.toArray⟩ : ByteArray).size = r.length := by simp [ByteArray.size]
    by_cases h8 : 8 <= r.length
    · have i1 : (8 : Int) <= (r.length : Int) := by omega
      have CL := Lib.hid (fun W => low05_any (l := r.take 8) (by rw [List.length_take]; omega) W)
      obtain ⟨AA, cc, hvv⟩ := (hown.row goodNat64).form
      subst hvv
      have hnx : nums r = (Bw.lowOf (r.take 8) :: (nums (r.drop 8)).1, (nums (r.drop 8)).2) := nums_ge h8
      have hd8 : (r.drop 8).length = r.length - 8 := List.length_drop
      have HOWN := Lib.hid hown; have HB := Lib.hid hB; have HNUM := Lib.hid hnum; have HNX := Lib.hid hnx; have HD8 := Lib.hid hd8; have HDR := Lib.hid hdr; have HR := Lib.hid hr; have H8 := Lib.hid h8
      have HEX := Lib.hid (ex_take r 8); have HEY := Lib.hid (ex_drop r 8 r.length (Nat.le_refl _))
      clear hown hB hnum hnx hd8 hdr hr h8
      generalize Bw.lowOf (r.take 8) = n8 at *
      go_wp2_with fail
      rw [HEX.out]
      refine (CL.out _).mono ?_
      rintro e w1 ⟨rfl, rfl⟩
      go_wp2_with (at_builtin; (refine wp_app1 goodNat64 rfl (.tmp 12) (.tmp 16) 138 rfl w.heap.size 47 i0 _ 8 Tryz.underlying138 HI.out HZ0.out HZ1.out HZ2.out rfl (by decide) (.slice AA d.length cc) d rfl HOWN.out n8 #[.int .u64 (n8 : Nat)] 47 (by go_simp) rfl (fun b hb => Nat.le_trans HB.out.size hb) (by have := HDR.out; have := HL.out; omega) (by decide) HB.out.size ?_; intro v2 w2 hown2 hb2 hat2 hg2))
      rw [HEY.out]
      refine ⟨⟨d ++ [n8], r.drop 8, rfl, by have := HD8.out; have := HR.out; omega, by have := HD8.out; have := HDR.out; have := H8.out; rw [List.length_append, List.length_singleton]; omega, by rw [HNUM.out, HNX.out, List.append_assoc]; rfl, hown2, HB.out.trans hb2⟩, ?_⟩
      have h1 : (⟨(r.drop 8).toArray⟩ : ByteArray).size = (r.drop 8).length := by simp [ByteArray.size]
      have h2 := HD8.out; have h3 := H8.out
      simp only [lenS, h1, hszr]
      omega
    · have hnl := nums_lt (l := r) (by omega)
      rw [hnl, List.append_nil] at hnum
      have i1 : ¬ (8 : Int) <= (r.length : Int) := by omega
      have H1 : Hid (PadR r (.string ⟨r.toArray⟩)) := Lib.hid ⟨0, by rw [List.replicate_zero, List.append_nil], by rw [List.replicate_zero, List.append_nil]; omega⟩
      have HOWN := Lib.hid hown; have HB := Lib.hid hB; have HNUM := Lib.hid hnum; have HDR := Lib.hid hdr
      have H7 : Hid (r.length < 8) := Lib.hid (by omega)
      clear hnl hown hB hnum hdr hr h8 H0
      go_wp2_with fail
      go_loop [0] (PadR r) (fun key => 8 - lenS key)
      case atStart => exact H1.out
      case round =>
        obtain ⟨k, rfl, hk7⟩ := hrel
        have hszp : (⟨(r ++ List.replicate k 0).toArray⟩ : ByteArray).size = (r ++ List.replicate k 0).length := by simp [ByteArray.size]
        by_cases hlt : (r ++ List.replicate k 0).length < 7
        · have i2 : ((r ++ List.replicate k 0).length : Int) < 7 := by omega
          have hap := app_zero (r ++ List.replicate k 0)
          have hrp : r ++ List.replicate k 0 ++ [0] = r ++ List.replicate (k + 1) 0 := by rw [List.append_assoc, List.replicate_succ']
          rw [hrp] at hap
          have hln : (r ++ List.replicate (k + 1) (0 : UInt8)).length = (r ++ List.replicate k 0).length + 1 := by rw [<- hrp, List.length_append, List.length_singleton]
          have hszq : (⟨(r ++ List.replicate (k + 1) 0).toArray⟩ : ByteArray).size = (r ++ List.replicate (k + 1) 0).length := by simp [ByteArray.size]
          have HAP := Lib.hid hap; have HLN := Lib.hid hln; have HLT := Lib.hid hlt; have HSQ := Lib.hid hszq
          clear hrp hln hap hk7 hlt hszq H1
          generalize r ++ List.replicate k 0 = u at *
          go_wp2
          rw [HAP.out]
          refine ⟨⟨k + 1, rfl, by have h1 := HLN.out; have h2 := HLT.out; omega⟩, ?_⟩
          have h1 := HLN.out; have h2 := HLT.out; have h3 := HSQ.out
          simp only [lenS, h3, hszp]
          omega
        · have i2 : ¬ ((r ++ List.replicate k 0).length : Int) < 7 := by omega
          have CL := Lib.hid (low05_any (l := r ++ List.replicate k 0) (by omega) wr)
          have hle : r.length <= (r ++ List.replicate k 0).length := by rw [List.length_append]; omega
          rw [low_pad] at CL
          have hlb : Bw.lowOf r < 72057594037927936 := by
            have h1 := Bw.lowOf_lt r
            exact Nat.lt_of_lt_of_le h1 (Nat.le_trans (Nat.pow_le_pow_right (by decide) (show r.length <= 7 by omega)) (by decide))
          have h88 : Bw.low8 r = Bw.lowOf r := by unfold Bw.low8; rw [List.take_of_length_le (by omega)]
          have hor : (l.length % 256 * 2 ^ 56 ||| Bw.lowOf r) = Bw.lowOf r + l.length % 256 * 72057594037927936 := by
            have h1 := Nat.two_pow_add_eq_or_of_lt (i := 56) hlb (l.length % 256)
            rw [Nat.mul_comm (l.length % 256), <- h1]
            omega
          have hsum : IntKind.u64.wrap ((Bw.lowOf r : Int) + (l.length : Int) % 256 * 72057594037927936) = ((Bw.lowOf r + l.length % 256 * 72057594037927936 : Nat) : Int) := by rw [IntKind.wrap_u64]; omega
          have hall : numsOf l = d ++ [Bw.lowOf r + l.length % 256 * 72057594037927936] := by unfold numsOf; rw [HNUM.out, h88, hor]
          obtain ⟨z, hz⟩ : ∃ z, Bw.lowOf r + l.length % 256 * 72057594037927936 = z := ⟨_, rfl⟩
          rw [hz] at hsum hall
          have HALL := Lib.hid hall
          obtain ⟨AA, cc, hvv⟩ := (HOWN.out.row goodNat64).form
          subst hvv
          clear hlb hle hor hall h88 hz hk7 hlt H1
          generalize r ++ List.replicate k 0 = u at *
          generalize Bw.lowOf r = n8 at *
          go_wp2_with fail
          refine CL.out.mono ?_
          rintro e w1 ⟨rfl, rfl⟩
          go_wp2_with (at_builtin; (refine wp_app1 goodNat64 rfl (.tmp 25) (.tmp 31) 138 rfl w.heap.size 47 i0 _ 8 Tryz.underlying138 HI.out HZ0.out HZ1.out HZ2.out rfl (by decide) (.slice AA d.length cc) d rfl HOWN.out z #[.int .u64 (z : Nat)] 47 (by go_simp) rfl (fun b hb => Nat.le_trans HB.out.size hb) (by have := HDR.out; have := HL.out; omega) (by decide) HB.out.size ?_; intro v2 w2 hown2 hb2 hat2 hg2))
          go_ret
          exact ⟨_, rfl, by rw [HALL.out]; exact hown2.row goodNat64, HB.out.trans hb2⟩
end Go.Proofs.YtadaoceidkagfaaGreatDoor
/- ref05.Begin. -/
namespace Go.Proofs.YtadaoceidkagfaaGreatDoor
open Go.RowKit Go.Bw
def SeedIn16 (w : World) (b : Nat) (s : List UInt8) : Prop := w.heap[b]? = some (.cells (s.map encB).toArray 22 (0, 0))
theorem SeedIn16.row {w : World} {b : Nat} {s : List UInt8} (h : SeedIn16 w b s) (hs : s.length = 16) (k : Nat) (hk : k + 8 <= 16) : BytesAt (fun k => k = b) w (.slice (some ⟨b, k, none⟩) 8 (16 - k)) ((s.drop k).take 8) := by
  have hl : ((s.drop k).take 8).length = 8 := by rw [List.length_take, List.length_drop]; omega
  refine ⟨_, _, by rw [hl], by omega, by unfold maxLen; omega, (fun h => by cases h), (fun ad h _ => by cases h; rfl), fun j x hj => ?_⟩
  have hj8 : j < 8 := by have := (List.getElem?_eq_some_iff.1 hj).1; omega
  rw [List.getElem?_take, if_pos hj8, List.getElem?_drop] at hj
  refine ⟨_, _, rfl, rfl, fun i u hu => ?_⟩
  match i, hu with
  | 0, hu =>
    injection hu with hu
    subst hu
    refine ⟨rfl, ?_⟩
    unfold SeedIn16 at h
    simp only [World.cell?, h, Nat.mul_one, Nat.add_zero]
    simp [hj]
  | i + 1, hu => simp at hu
set_option maxRecDepth 100000 in
set_option maxHeartbeats 1000000 in
theorem begin05_any {s : List UInt8} (hs : s.length = 16) (w : World) :
    Calls Tryz.prog 63 #[seedV s] w fun e w' => e = .returned (sipV (Bw.sipBegin s)) /\ Below w.heap.size w w' := by
  obtain ⟨W0, hW0⟩ : ∃ W0, (w.alloc (.cells (s.map encB).toArray 22)).alloc (.cells #[.int .u64 0, .int .u64 0, .int .u64 0, .int .u64 0] 136) = W0 := ⟨_, rfl⟩
  have h1 : W0.heap[w.heap.size + 1]? = some (.cells #[.int .u64 0, .int .u64 0, .int .u64 0, .int .u64 0] 136 (0, 0)) := by
    rw [<- hW0]
    have := heap_alloc_new (w.alloc (.cells (s.map encB).toArray 22)) (.cells #[.int .u64 0, .int .u64 0, .int .u64 0, .int .u64 0] 136)
    simpa using this
  have h0 : SeedIn16 W0 w.heap.size s := by
    unfold SeedIn16
    rw [<- hW0]
    exact (heap_alloc_old _ _ (by simp)).trans (heap_alloc_new w _)
  have hB : Below w.heap.size w W0 := by rw [<- hW0]; exact gB3
  have q0 : (convert 33 9 (.slice (some ⟨w.heap.size, 0, none⟩) 8 16)).run Tryz.prog W0.drew = .ok (.string ⟨((s.drop 0).take 8).toArray⟩) W0.drew := run_conv (P := Tryz.prog) 33 9 5 Tryz.underlying33 Tryz.underlying5 Tryz.underlying9 ((show SeedIn16 W0.drew w.heap.size s from h0).row hs 0 (by decide))
  have q8 : (convert 33 9 (.slice (some ⟨w.heap.size, 8, none⟩) 8 8)).run Tryz.prog W0.drew = .ok (.string ⟨((s.drop 8).take 8).toArray⟩) W0.drew := run_conv (P := Tryz.prog) 33 9 5 Tryz.underlying33 Tryz.underlying5 Tryz.underlying9 ((show SeedIn16 W0.drew w.heap.size s from h0).row hs 8 (by decide))
  have C0 := Lib.hid (fun W => low05_any (l := (s.drop 0).take 8) (by rw [List.length_take]; omega) W)
  have C8 := Lib.hid (fun W => low05_any (l := (s.drop 8).take 8) (by rw [List.length_take]; omega) W)
  have e0 : Bw.lowOf ((s.drop 0).take 8) = Bw.low8 s := rfl
  have e8 : Bw.lowOf ((s.drop 8).take 8) = Bw.low8 (s.drop 8) := rfl
  have hk := Bw.low8_lt s
  have hl := Bw.low8_lt (s.drop 8)
  rw [e0] at C0
  rw [e8] at C8
  have hb : Bw.sipBegin s = (Bw.low8 s ^^^ 8317987319222330741, Bw.low8 (s.drop 8) ^^^ 7237128888997146477, Bw.low8 s ^^^ 7816392313619706465, Bw.low8 (s.drop 8) ^^^ 8387220255154660723) := by
    unfold Bw.sipBegin
    rw [Nat.xor_comm (Bw.low8 s), Nat.xor_comm (Bw.low8 (s.drop 8)), Nat.xor_comm (Bw.low8 s), Nat.xor_comm (Bw.low8 (s.drop 8))]
  rw [hb]
  have x1 : bits .xor .u64 ((Bw.low8 s : Nat) : Int) 8317987319222330741 = ((Bw.low8 s ^^^ 8317987319222330741 : Nat) : Int) := bits_xor_u64_nat _ 8317987319222330741 hk (by decide)
  have x2 : bits .xor .u64 ((Bw.low8 (s.drop 8) : Nat) : Int) 7237128888997146477 = ((Bw.low8 (s.drop 8) ^^^ 7237128888997146477 : Nat) : Int) := bits_xor_u64_nat _ 7237128888997146477 hl (by decide)
  have x3 : bits .xor .u64 ((Bw.low8 s : Nat) : Int) 7816392313619706465 = ((Bw.low8 s ^^^ 7816392313619706465 : Nat) : Int) := bits_xor_u64_nat _ 7816392313619706465 hk (by decide)
  have x4 : bits .xor .u64 ((Bw.low8 (s.drop 8) : Nat) : Int) 8387220255154660723 = ((Bw.low8 (s.drop 8) ^^^ 8387220255154660723 : Nat) : Int) := bits_xor_u64_nat _ 8387220255154660723 hl (by decide)
  obtain ⟨⟨k0, k1, k2, k3⟩, f0, f1, f2, f3⟩ := cells4 h1
  have HE := Lib.hid h1
  have HB := Lib.hid hB
  have HW0 := Lib.hid hW0
  unfold seedV
  clear hb e0 e8 hk hl h0 hs hB h1 hW0
  generalize (s.drop 0).take 8 = s0 at *
  generalize (s.drop 8).take 8 = s8 at *
  generalize Bw.low8 s ^^^ 8317987319222330741 = y1 at *
  generalize Bw.low8 (s.drop 8) ^^^ 7237128888997146477 = y2 at *
  generalize Bw.low8 s ^^^ 7816392313619706465 = y3 at *
  generalize Bw.low8 (s.drop 8) ^^^ 8387220255154660723 = y4 at *
  generalize Bw.low8 s = n0 at *
  generalize Bw.low8 (s.drop 8) = n8 at *
  go_enter Tryz.func63, Tryz.ntmps63
  go_wp2_with fail
  rw [HW0.out]
  go_region_held3 (fun W => (convert 33 9 (.slice (some ⟨w.heap.size, 0, none⟩) 8 16)).run Tryz.prog W = .ok (.string ⟨s0.toArray⟩) W /\ (convert 33 9 (.slice (some ⟨w.heap.size, 8, none⟩) 8 8)).run Tryz.prog W = .ok (.string ⟨s8.toArray⟩) W) (exact ⟨q0, q8⟩)
    ((first
      | (go_at_call 92; (with_reducible refine (C0.out _).mono ?_); rintro e w' ⟨rfl, rfl⟩)
      | (go_at_call 92; (with_reducible refine (C8.out _).mono ?_); rintro e w' ⟨rfl, rfl⟩)))
  all_goals go_wp2_with fail
  all_goals
   (obtain ⟨⟨l0, l1, l2, l3⟩, _⟩ := cells4 (set4 (x0 := .int .u64 (y1 : Nat)) (x1 := .int .u64 (y2 : Nat)) (x2 := .int .u64 (y3 : Nat)) (x3 := .int .u64 (y4 : Nat)) HE.out)
    have hbb := HB.out
    clear k0 k1 k2 k3 f0 f1 f2 f3 q0 q8 x1 x2 x3 x4 C0 C8
    refine bodyPost_ret (v := sipV (y1, y2, y3, y4)) ?_ rfl ⟨rfl, ?_⟩
    · simp [results, Tryz.results63, go_sem, l0, l1, l2, l3, sipV]
    · clear l0 l1 l2 l3
      exact gB5)
end Go.Proofs.YtadaoceidkagfaaGreatDoor
/- ref05.Rounds. Printed by mkrounds.py. -/
namespace Go.Proofs.YtadaoceidkagfaaGreatDoor
open Go.RowKit Go.Bw
theorem ready_dep {md : Region.Mode} {ops : Array Oper} {listed : Array Bool} {i : Nat} {o : Oper} (hi : i ∈ Region.ready md ops listed) (ho : ops[i]? = some o) (e : Edge) (he : e ∈ o.after) (hb : Region.binds md e = true) : listed.getD e.on false = true := by
  obtain ⟨_, o', ho', h⟩ := mem_ready.1 hi
  rw [ho] at ho'
  cases ho'
  exact h e he hb
theorem ready_in {md : Region.Mode} {ops : Array Oper} {listed : Array Bool} {i : Nat} {o : Oper} (h0 : listed.getD i true = false) (ho : ops[i]? = some o) (h : (o.after.toList.all fun e => !Region.binds md e || listed.getD e.on false) = true) : i ∈ Region.ready md ops listed := by
  refine mem_ready.2 ⟨h0, o, ho, fun e he hb => ?_⟩
  have := List.all_eq_true.1 h e (Array.mem_toList_iff.2 he)
  rw [hb] at this
  simpa using this
theorem not_in {md : Region.Mode} {ops : Array Oper} {listed : Array Bool} {i : Nat} {o : Oper} (hr : Region.ready md ops listed = []) (h0 : listed.getD i true = false) (ho : ops[i]? = some o) (h : (o.after.toList.all fun e => !Region.binds md e || listed.getD e.on false) = true) : False := by
  have := ready_in h0 ho h
  rw [hr] at this
  cases this
structure MakeI (WA : World) (B : Nat) (v0 v1 v2 v4 : Value) (y0 y1 y2 y3 x00 x01 x10 x11 x20 x21 x30 x31 : Nat) (listed : Array Bool) (a : Act) (W : World) (c0 c1 c2 c3 l0 l1 l2 l3 s0 s1 s2 s3 : Bool) (g0 g1 g2 g3 : Nat) (p0 p1 p2 p3 q0 q1 q2 q3 : Value) : Prop where
  list : listed = #[true, true, c0, true, true, c1, true, true, c2, true, true, c3, l0, l1, l2, l3, s0, s1, s2, s3]
  act : a = ⟨#[v0, v1, v2, undef, v4, p0, p1, p2, p3, undef, .pointer (some ⟨B, 0, none⟩), .int .u64 (y0 : Nat), q0, .pointer (some ⟨B, 1, none⟩), .int .u64 (y1 : Nat), q1, .pointer (some ⟨B, 2, none⟩), .int .u64 (y2 : Nat), q2, .pointer (some ⟨B, 3, none⟩), .int .u64 (y3 : Nat), q3, undef, undef, undef, undef, undef, undef, undef, undef, undef, undef, undef, undef, undef, undef, undef, undef, undef, undef, undef, undef, undef, undef, undef, undef], []⟩
  hB : Below WA.heap.size WA W
  p0 : l0 = true -> p0 = .pointer (some ⟨g0, 0, none⟩)
  q0 : c0 = true -> q0 = .agg #[.int .u64 (x00 : Nat), .int .u64 (x01 : Nat)]
  m0 : s0 = true -> l0 = true
  f0 : l0 = true -> WA.heap.size <= g0 /\ W.heap[g0]? = some (.cells (if s0 = true then #[.int .u64 (x00 : Nat), .int .u64 (x01 : Nat)] else #[.int .u64 0, .int .u64 0]) 191 (0, 0))
  p1 : l1 = true -> p1 = .pointer (some ⟨g1, 0, none⟩)
  q1 : c1 = true -> q1 = .agg #[.int .u64 (x10 : Nat), .int .u64 (x11 : Nat)]
  m1 : s1 = true -> l1 = true
  f1 : l1 = true -> WA.heap.size <= g1 /\ W.heap[g1]? = some (.cells (if s1 = true then #[.int .u64 (x10 : Nat), .int .u64 (x11 : Nat)] else #[.int .u64 0, .int .u64 0]) 191 (0, 0))
  p2 : l2 = true -> p2 = .pointer (some ⟨g2, 0, none⟩)
  q2 : c2 = true -> q2 = .agg #[.int .u64 (x20 : Nat), .int .u64 (x21 : Nat)]
  m2 : s2 = true -> l2 = true
  f2 : l2 = true -> WA.heap.size <= g2 /\ W.heap[g2]? = some (.cells (if s2 = true then #[.int .u64 (x20 : Nat), .int .u64 (x21 : Nat)] else #[.int .u64 0, .int .u64 0]) 191 (0, 0))
  p3 : l3 = true -> p3 = .pointer (some ⟨g3, 0, none⟩)
  q3 : c3 = true -> q3 = .agg #[.int .u64 (x30 : Nat), .int .u64 (x31 : Nat)]
  m3 : s3 = true -> l3 = true
  f3 : l3 = true -> WA.heap.size <= g3 /\ W.heap[g3]? = some (.cells (if s3 = true then #[.int .u64 (x30 : Nat), .int .u64 (x31 : Nat)] else #[.int .u64 0, .int .u64 0]) 191 (0, 0))
  n01 : l0 = true -> l1 = true -> g0 ≠ g1
  n02 : l0 = true -> l2 = true -> g0 ≠ g2
  n03 : l0 = true -> l3 = true -> g0 ≠ g3
  n12 : l1 = true -> l2 = true -> g1 ≠ g2
  n13 : l1 = true -> l3 = true -> g1 ≠ g3
  n23 : l2 = true -> l3 = true -> g2 ≠ g3
structure Four (w : World) (x00 x01 x10 x11 x20 x21 x30 x31 : Nat) (g0 g1 g2 g3 : Nat) (W : World) : Prop where
  l0 : w.heap.size <= g0
  b0 : W.heap[g0]? = some (.cells #[.int .u64 (x00 : Nat), .int .u64 (x01 : Nat)] 191 (0, 0))
  l1 : w.heap.size <= g1
  b1 : W.heap[g1]? = some (.cells #[.int .u64 (x10 : Nat), .int .u64 (x11 : Nat)] 191 (0, 0))
  l2 : w.heap.size <= g2
  b2 : W.heap[g2]? = some (.cells #[.int .u64 (x20 : Nat), .int .u64 (x21 : Nat)] 191 (0, 0))
  l3 : w.heap.size <= g3
  b3 : W.heap[g3]? = some (.cells #[.int .u64 (x30 : Nat), .int .u64 (x31 : Nat)] 191 (0, 0))
  n01 : g0 ≠ g1
  n02 : g0 ≠ g2
  n03 : g0 ≠ g3
  n12 : g1 ≠ g2
  n13 : g1 ≠ g3
  n23 : g2 ≠ g3
  hB : Below w.heap.size w W
section
variable {w W W' : World} {x00 x01 x10 x11 x20 x21 x30 x31 z00 z01 z10 z11 z20 z21 z30 z31 : Nat} {g0 g1 g2 g3 : Nat}
theorem Four.below (h : Four w x00 x01 x10 x11 x20 x21 x30 x31 g0 g1 g2 g3 W) (hb : Below W.heap.size W W') : Four w x00 x01 x10 x11 x20 x21 x30 x31 g0 g1 g2 g3 W' :=
  ⟨h.l0, (hb.block _ (heap_lt h.b0)).trans h.b0, h.l1, (hb.block _ (heap_lt h.b1)).trans h.b1, h.l2, (hb.block _ (heap_lt h.b2)).trans h.b2, h.l3, (hb.block _ (heap_lt h.b3)).trans h.b3, h.n01, h.n02, h.n03, h.n12, h.n13, h.n23, h.hB.trans (hb.mono h.hB.size)⟩
theorem Four.set (h : Four w x00 x01 x10 x11 x20 x21 x30 x31 g0 g1 g2 g3 W) : Four w z00 z01 z10 z11 z20 z21 z30 z31 g0 g1 g2 g3 ((((((((W.setCell ⟨g0, 0, none⟩ (.int .u64 (z00 : Nat))).setCell ⟨g0, 1, none⟩ (.int .u64 (z01 : Nat))).setCell ⟨g1, 0, none⟩ (.int .u64 (z10 : Nat))).setCell ⟨g1, 1, none⟩ (.int .u64 (z11 : Nat))).setCell ⟨g2, 0, none⟩ (.int .u64 (z20 : Nat))).setCell ⟨g2, 1, none⟩ (.int .u64 (z21 : Nat))).setCell ⟨g3, 0, none⟩ (.int .u64 (z30 : Nat))).setCell ⟨g3, 1, none⟩ (.int .u64 (z31 : Nat))) :=
  ⟨h.l0, (set2_other h.n03).trans ((set2_other h.n02).trans ((set2_other h.n01).trans (set2_heap (h.b0)))), h.l1, (set2_other h.n13).trans ((set2_other h.n12).trans (set2_heap ((set2_other h.n01.symm).trans (h.b1)))), h.l2, (set2_other h.n23).trans (set2_heap ((set2_other h.n12.symm).trans ((set2_other h.n02.symm).trans (h.b2)))), h.l3, set2_heap ((set2_other h.n23.symm).trans ((set2_other h.n13.symm).trans ((set2_other h.n03.symm).trans (h.b3)))), h.n01, h.n02, h.n03, h.n12, h.n13, h.n23, set2_below (set2_below (set2_below (set2_below h.hB h.l0) h.l1) h.l2) h.l3⟩
theorem Four.cells (h : Four w x00 x01 x10 x11 x20 x21 x30 x31 g0 g1 g2 g3 W) : W.cell? ⟨g0, 0, none⟩ = some (.int .u64 (x00 : Nat)) /\ W.cell? ⟨g0, 1, none⟩ = some (.int .u64 (x01 : Nat)) /\ W.cell? ⟨g1, 0, none⟩ = some (.int .u64 (x10 : Nat)) /\ W.cell? ⟨g1, 1, none⟩ = some (.int .u64 (x11 : Nat)) /\ W.cell? ⟨g2, 0, none⟩ = some (.int .u64 (x20 : Nat)) /\ W.cell? ⟨g2, 1, none⟩ = some (.int .u64 (x21 : Nat)) /\ W.cell? ⟨g3, 0, none⟩ = some (.int .u64 (x30 : Nat)) /\ W.cell? ⟨g3, 1, none⟩ = some (.int .u64 (x31 : Nat)) :=
  ⟨(cells2 h.b0).1.1, (cells2 h.b0).1.2, (cells2 h.b1).1.1, (cells2 h.b1).1.2, (cells2 h.b2).1.1, (cells2 h.b2).1.2, (cells2 h.b3).1.1, (cells2 h.b3).1.2⟩
end
def RndR (x : Bw.Sip) (n : Nat) (W0 : World) (g0 g1 g2 g3 : Nat) (i : Value) (W : World) : Prop :=
  ∃ (k : Nat) (x00 x01 x10 x11 x20 x21 x30 x31 : Nat), k <= n /\ i = .int .i64 (k : Nat) /\ (twoV (Bw.sipN k x).1 = .agg #[.int .u64 (x00 : Nat), .int .u64 (x01 : Nat)] /\ twoV (Bw.sipN k x).2.1 = .agg #[.int .u64 (x10 : Nat), .int .u64 (x11 : Nat)] /\ twoV (Bw.sipN k x).2.2.1 = .agg #[.int .u64 (x20 : Nat), .int .u64 (x21 : Nat)] /\ twoV (Bw.sipN k x).2.2.2 = .agg #[.int .u64 (x30 : Nat), .int .u64 (x31 : Nat)]) /\ Four W0 x00 x01 x10 x11 x20 x21 x30 x31 g0 g1 g2 g3 W
set_option maxRecDepth 100000 in
set_option maxHeartbeats 8000000 in
theorem rounds05_any {x : Bw.Sip} (hx : x.ok) (n : Nat) (hn : n <= 4) (w : World) :
    Calls Tryz.prog 93 #[sipV x, .int .i64 (n : Nat)] w fun e w' => e = .returned (sipV (Bw.sipN n x)) /\ Below w.heap.size w w' := by
  obtain ⟨y0, y1, y2, y3⟩ := x
  obtain ⟨hy0, hy1, hy2, hy3⟩ := hx
  dsimp only at hy0 hy1 hy2 hy3
  have C0 := Lib.hid (fun W => of05_any hy0 W)
  have C1 := Lib.hid (fun W => of05_any hy1 W)
  have C2 := Lib.hid (fun W => of05_any hy2 W)
  have C3 := Lib.hid (fun W => of05_any hy3 W)
  obtain ⟨x00, x01, tx0⟩ : ∃ a b : Nat, twoV y0 = .agg #[.int .u64 (a : Nat), .int .u64 (b : Nat)] := ⟨_, _, rfl⟩
  obtain ⟨x10, x11, tx1⟩ : ∃ a b : Nat, twoV y1 = .agg #[.int .u64 (a : Nat), .int .u64 (b : Nat)] := ⟨_, _, rfl⟩
  obtain ⟨x20, x21, tx2⟩ : ∃ a b : Nat, twoV y2 = .agg #[.int .u64 (a : Nat), .int .u64 (b : Nat)] := ⟨_, _, rfl⟩
  obtain ⟨x30, x31, tx3⟩ : ∃ a b : Nat, twoV y3 = .agg #[.int .u64 (a : Nat), .int .u64 (b : Nat)] := ⟨_, _, rfl⟩
  rw [tx0] at C0
  rw [tx1] at C1
  rw [tx2] at C2
  rw [tx3] at C3
  have HX : Hid (Bw.Sip.ok (y0, y1, y2, y3)) := Lib.hid ⟨hy0, hy1, hy2, hy3⟩
  have HT := Lib.hid (And.intro tx0 (And.intro tx1 (And.intro tx2 tx3)))
  have HN := Lib.hid hn
  obtain ⟨W0, hW0⟩ : ∃ W0, (w.alloc (.cells #[.int .u64 (y0 : Nat), .int .u64 (y1 : Nat), .int .u64 (y2 : Nat), .int .u64 (y3 : Nat)] 136)).alloc (.cells #[.int .u64 0, .int .u64 0, .int .u64 0, .int .u64 0] 136) = W0 := ⟨_, rfl⟩
  have hB0 : Below w.heap.size w W0 := by rw [<- hW0]; exact gB3
  have hr0 : W0.heap[w.heap.size]? = some (.cells #[.int .u64 (y0 : Nat), .int .u64 (y1 : Nat), .int .u64 (y2 : Nat), .int .u64 (y3 : Nat)] 136 (0, 0)) := by rw [<- hW0]; exact (heap_alloc_old _ _ (by simp)).trans (heap_alloc_new w _)
  have hr1 : W0.heap[w.heap.size + 1]? = some (.cells #[.int .u64 0, .int .u64 0, .int .u64 0, .int .u64 0] 136 (0, 0)) := by
    rw [<- hW0]
    have := heap_alloc_new (w.alloc (.cells #[.int .u64 (y0 : Nat), .int .u64 (y1 : Nat), .int .u64 (y2 : Nat), .int .u64 (y3 : Nat)] 136)) (.cells #[.int .u64 0, .int .u64 0, .int .u64 0, .int .u64 0] 136)
    simpa using this
  have HB0 := Lib.hid hB0; have HR0 := Lib.hid hr0; have HR1 := Lib.hid hr1; have HW0 := Lib.hid hW0
  have hs0 : w.heap.size + 1 < W0.heap.size := heap_lt hr1
  have HS0 := Lib.hid hs0
  clear hy0 hy1 hy2 hy3 tx0 tx1 tx2 tx3 hn hB0 hr0 hr1 hW0 hs0
  simp only [sipV]
  go_enter Tryz.func93, Tryz.ntmps93
  go_wp2_with fail
  rw [HW0.out]
  obtain ⟨B, hBeq⟩ : ∃ B, w.heap.size = B := ⟨_, rfl⟩
  rw [hBeq]
  have hcB : ∀ W, Below W0.heap.size W0 W -> W.cell? ⟨B, 0, none⟩ = some (.int .u64 (y0 : Nat)) /\ W.cell? ⟨B, 1, none⟩ = some (.int .u64 (y1 : Nat)) /\ W.cell? ⟨B, 2, none⟩ = some (.int .u64 (y2 : Nat)) /\ W.cell? ⟨B, 3, none⟩ = some (.int .u64 (y3 : Nat)) := fun W hW => by
    have h := (hW.block B (by have := HS0.out; omega)).trans (hBeq ▸ HR0.out)
    exact (cells4 h).1
  have HCB := Lib.hid hcB
  clear hcB
  refine region_cut (fun a a' W' => ∃ g0 g1 g2 g3, a' = ⟨#[.agg #[.int .u64 (y0 : Nat), .int .u64 (y1 : Nat), .int .u64 (y2 : Nat), .int .u64 (y3 : Nat)], .int .i64 (n : Nat), .pointer (some ⟨B, 0, none⟩), undef, .pointer (some ⟨B + 1, 0, none⟩), .pointer (some ⟨g0, 0, none⟩), .pointer (some ⟨g1, 0, none⟩), .pointer (some ⟨g2, 0, none⟩), .pointer (some ⟨g3, 0, none⟩), undef, .pointer (some ⟨B, 0, none⟩), .int .u64 (y0 : Nat), .agg #[.int .u64 (x00 : Nat), .int .u64 (x01 : Nat)], .pointer (some ⟨B, 1, none⟩), .int .u64 (y1 : Nat), .agg #[.int .u64 (x10 : Nat), .int .u64 (x11 : Nat)], .pointer (some ⟨B, 2, none⟩), .int .u64 (y2 : Nat), .agg #[.int .u64 (x20 : Nat), .int .u64 (x21 : Nat)], .pointer (some ⟨B, 3, none⟩), .int .u64 (y3 : Nat), .agg #[.int .u64 (x30 : Nat), .int .u64 (x31 : Nat)], undef, undef, undef, undef, undef, undef, undef, undef, undef, undef, undef, undef, undef, undef, undef, undef, undef, undef, undef, undef, undef, undef, undef, undef], []⟩ /\ Four W0 x00 x01 x10 x11 x20 x21 x30 x31 g0 g1 g2 g3 W') ?_ ?_
  · have hb0 : Below W0.heap.size W0 W0.drew := by exact gB3
    have hS0 := HCB.out _ hb0
    refine wp_region_held_drew (S := fun W => W.cell? ⟨B, 0, none⟩ = some (.int .u64 (y0 : Nat)) /\ W.cell? ⟨B, 1, none⟩ = some (.int .u64 (y1 : Nat)) /\ W.cell? ⟨B, 2, none⟩ = some (.int .u64 (y2 : Nat)) /\ W.cell? ⟨B, 3, none⟩ = some (.int .u64 (y3 : Nat))) (by kernel_rfl) hS0 (fun _ => ?_)
    generalize W0.drew = V0 at *
    refine take_op (i := 0) (v := .pointer (some ⟨B, 0, none⟩)) rfl (by kernel_rfl) (by kernel_rfl) (by kernel_rfl) (fun _ _ _ h => by cases h.1) (Or.inl ⟨by rfl, fun w hw => by go_simp⟩) hS0 ?_
    simp only [Act.put, List.setIfInBounds_toArray, List.set_cons_zero, List.set_cons_succ]
    refine take_op (i := 1) (v := .int .u64 (y0 : Nat)) rfl (by kernel_rfl) (by kernel_rfl) (by kernel_rfl) (fun _ _ _ h => by cases h.1) (Or.inl ⟨by rfl, fun w hw => by obtain ⟨q0, q1, q2, q3⟩ := hw; go_simp⟩) hS0 ?_
    simp only [Act.put, List.setIfInBounds_toArray, List.set_cons_zero, List.set_cons_succ]
    refine take_op (i := 3) (v := .pointer (some ⟨B, 1, none⟩)) rfl (by kernel_rfl) (by kernel_rfl) (by kernel_rfl) (fun _ _ _ h => by cases h.1) (Or.inl ⟨by rfl, fun w hw => by go_simp⟩) hS0 ?_
    simp only [Act.put, List.setIfInBounds_toArray, List.set_cons_zero, List.set_cons_succ]
    refine take_op (i := 4) (v := .int .u64 (y1 : Nat)) rfl (by kernel_rfl) (by kernel_rfl) (by kernel_rfl) (fun _ _ _ h => by cases h.1) (Or.inl ⟨by rfl, fun w hw => by obtain ⟨q0, q1, q2, q3⟩ := hw; go_simp⟩) hS0 ?_
    simp only [Act.put, List.setIfInBounds_toArray, List.set_cons_zero, List.set_cons_succ]
    refine take_op (i := 6) (v := .pointer (some ⟨B, 2, none⟩)) rfl (by kernel_rfl) (by kernel_rfl) (by kernel_rfl) (fun _ _ _ h => by cases h.1) (Or.inl ⟨by rfl, fun w hw => by go_simp⟩) hS0 ?_
    simp only [Act.put, List.setIfInBounds_toArray, List.set_cons_zero, List.set_cons_succ]
    refine take_op (i := 7) (v := .int .u64 (y2 : Nat)) rfl (by kernel_rfl) (by kernel_rfl) (by kernel_rfl) (fun _ _ _ h => by cases h.1) (Or.inl ⟨by rfl, fun w hw => by obtain ⟨q0, q1, q2, q3⟩ := hw; go_simp⟩) hS0 ?_
    simp only [Act.put, List.setIfInBounds_toArray, List.set_cons_zero, List.set_cons_succ]
    refine take_op (i := 9) (v := .pointer (some ⟨B, 3, none⟩)) rfl (by kernel_rfl) (by kernel_rfl) (by kernel_rfl) (fun _ _ _ h => by cases h.1) (Or.inl ⟨by rfl, fun w hw => by go_simp⟩) hS0 ?_
    simp only [Act.put, List.setIfInBounds_toArray, List.set_cons_zero, List.set_cons_succ]
    refine take_op (i := 10) (v := .int .u64 (y3 : Nat)) rfl (by kernel_rfl) (by kernel_rfl) (by kernel_rfl) (fun _ _ _ h => by cases h.1) (Or.inl ⟨by rfl, fun w hw => by obtain ⟨q0, q1, q2, q3⟩ := hw; go_simp⟩) hS0 ?_
    simp only [Act.put, List.setIfInBounds_toArray, List.set_cons_zero, List.set_cons_succ]
    refine wpAnyH_inv (fun listed a W => ∃ c0 c1 c2 c3 l0 l1 l2 l3 s0 s1 s2 s3 g0 g1 g2 g3 p0 p1 p2 p3 q0 q1 q2 q3, MakeI W0 B (.agg #[.int .u64 (y0 : Nat), .int .u64 (y1 : Nat), .int .u64 (y2 : Nat), .int .u64 (y3 : Nat)]) (.int .i64 (n : Nat)) (.pointer (some ⟨B, 0, none⟩)) (.pointer (some ⟨B + 1, 0, none⟩)) y0 y1 y2 y3 x00 x01 x10 x11 x20 x21 x30 x31 listed a W c0 c1 c2 c3 l0 l1 l2 l3 s0 s1 s2 s3 g0 g1 g2 g3 p0 p1 p2 p3 q0 q1 q2 q3) ?_ ?_ _ _ _ _ ⟨false, false, false, false, false, false, false, false, false, false, false, false, 0, 0, 0, 0, undef, undef, undef, undef, undef, undef, undef, undef, ?_⟩ (by decide)
    · rintro listed a W ⟨c0, c1, c2, c3, l0, l1, l2, l3, s0, s1, s2, s3, g0, g1, g2, g3, p0, p1, p2, p3, q0, q1, q2, q3, h⟩ hr
      obtain rfl := h.list
      obtain rfl : c0 = true := by
        cases c0 with
        | true => rfl
        | false => exact (not_in (i := 2) hr rfl rfl (by rfl)).elim
      obtain rfl : c1 = true := by
        cases c1 with
        | true => rfl
        | false => exact (not_in (i := 5) hr rfl rfl (by rfl)).elim
      obtain rfl : c2 = true := by
        cases c2 with
        | true => rfl
        | false => exact (not_in (i := 8) hr rfl rfl (by rfl)).elim
      obtain rfl : c3 = true := by
        cases c3 with
        | true => rfl
        | false => exact (not_in (i := 11) hr rfl rfl (by rfl)).elim
      obtain rfl : l0 = true := by
        cases l0 with
        | true => rfl
        | false => exact (not_in (i := 12) hr rfl rfl (by rfl)).elim
      obtain rfl : l1 = true := by
        cases l1 with
        | true => rfl
        | false => exact (not_in (i := 13) hr rfl rfl (by rfl)).elim
      obtain rfl : l2 = true := by
        cases l2 with
        | true => rfl
        | false => exact (not_in (i := 14) hr rfl rfl (by rfl)).elim
      obtain rfl : l3 = true := by
        cases l3 with
        | true => rfl
        | false => exact (not_in (i := 15) hr rfl rfl (by rfl)).elim
      obtain rfl : s0 = true := by
        cases s0 with
        | true => rfl
        | false => exact (not_in (i := 16) hr rfl rfl (by rfl)).elim
      obtain rfl : s1 = true := by
        cases s1 with
        | true => rfl
        | false => exact (not_in (i := 17) hr rfl rfl (by rfl)).elim
      obtain rfl : s2 = true := by
        cases s2 with
        | true => rfl
        | false => exact (not_in (i := 18) hr rfl rfl (by rfl)).elim
      obtain rfl : s3 = true := by
        cases s3 with
        | true => rfl
        | false => exact (not_in (i := 19) hr rfl rfl (by rfl)).elim
      obtain rfl := h.p0 rfl
      obtain rfl := h.q0 rfl
      obtain rfl := h.p1 rfl
      obtain rfl := h.q1 rfl
      obtain rfl := h.p2 rfl
      obtain rfl := h.q2 rfl
      obtain rfl := h.p3 rfl
      obtain rfl := h.q3 rfl
      exact ⟨rfl, g0, g1, g2, g3, h.act, (h.f0 rfl).1, (h.f0 rfl).2, (h.f1 rfl).1, (h.f1 rfl).2, (h.f2 rfl).1, (h.f2 rfl).2, (h.f3 rfl).1, (h.f3 rfl).2, h.n01 rfl rfl, h.n02 rfl rfl, h.n03 rfl rfl, h.n12 rfl rfl, h.n13 rfl rfl, h.n23 rfl rfl, h.hB⟩
    · rintro listed a W ⟨c0, c1, c2, c3, l0, l1, l2, l3, s0, s1, s2, s3, g0, g1, g2, g3, p0, p1, p2, p3, q0, q1, q2, q3, h⟩ i hi
      have hu := (mem_ready.1 hi).1
      have hlt : i < 20 := ready_lt hi
      have hcs : i = 0 \/ i = 1 \/ i = 2 \/ i = 3 \/ i = 4 \/ i = 5 \/ i = 6 \/ i = 7 \/ i = 8 \/ i = 9 \/ i = 10 \/ i = 11 \/ i = 12 \/ i = 13 \/ i = 14 \/ i = 15 \/ i = 16 \/ i = 17 \/ i = 18 \/ i = 19 := by omega
      obtain rfl := h.list
      obtain rfl := h.act
      rcases hcs with rfl | rfl | rfl | rfl | rfl | rfl | rfl | rfl | rfl | rfl | rfl | rfl | rfl | rfl | rfl | rfl | rfl | rfl | rfl | rfl
      · cases hu
      · cases hu
      ·
        obtain rfl : c0 = false := hu
        clear hi hlt
        refine wpOp_step rfl (fun K' hK => ?_)
        replace hK := Lib.hid hK
        rw [if_pos (by rfl)]
        go_simp
        refine (C0.out W).mono ?_
        rintro e W' ⟨rfl, hb⟩
        go_wp2_with fail
        have hB' := h.hB.trans (hb.mono h.hB.size)
        refine hK.out _ _ ⟨HCB.out _ hB', ?_⟩
        exact ⟨true, c1, c2, c3, l0, l1, l2, l3, s0, s1, s2, s3, g0, g1, g2, g3, p0, p1, p2, p3, .agg #[.int .u64 (x00 : Nat), .int .u64 (x01 : Nat)], q1, q2, q3, rfl, rfl, hB', h.p0, (fun _ => rfl), h.m0, (fun e => ⟨(h.f0 e).1, (hb.block _ (heap_lt (h.f0 e).2)).trans (h.f0 e).2⟩), h.p1, h.q1, h.m1, (fun e => ⟨(h.f1 e).1, (hb.block _ (heap_lt (h.f1 e).2)).trans (h.f1 e).2⟩), h.p2, h.q2, h.m2, (fun e => ⟨(h.f2 e).1, (hb.block _ (heap_lt (h.f2 e).2)).trans (h.f2 e).2⟩), h.p3, h.q3, h.m3, (fun e => ⟨(h.f3 e).1, (hb.block _ (heap_lt (h.f3 e).2)).trans (h.f3 e).2⟩), h.n01, h.n02, h.n03, h.n12, h.n13, h.n23⟩
      · cases hu
      · cases hu
      ·
        obtain rfl : c1 = false := hu
        clear hi hlt
        refine wpOp_step rfl (fun K' hK => ?_)
        replace hK := Lib.hid hK
        rw [if_pos (by rfl)]
        go_simp
        refine (C1.out W).mono ?_
        rintro e W' ⟨rfl, hb⟩
        go_wp2_with fail
        have hB' := h.hB.trans (hb.mono h.hB.size)
        refine hK.out _ _ ⟨HCB.out _ hB', ?_⟩
        exact ⟨c0, true, c2, c3, l0, l1, l2, l3, s0, s1, s2, s3, g0, g1, g2, g3, p0, p1, p2, p3, q0, .agg #[.int .u64 (x10 : Nat), .int .u64 (x11 : Nat)], q2, q3, rfl, rfl, hB', h.p0, h.q0, h.m0, (fun e => ⟨(h.f0 e).1, (hb.block _ (heap_lt (h.f0 e).2)).trans (h.f0 e).2⟩), h.p1, (fun _ => rfl), h.m1, (fun e => ⟨(h.f1 e).1, (hb.block _ (heap_lt (h.f1 e).2)).trans (h.f1 e).2⟩), h.p2, h.q2, h.m2, (fun e => ⟨(h.f2 e).1, (hb.block _ (heap_lt (h.f2 e).2)).trans (h.f2 e).2⟩), h.p3, h.q3, h.m3, (fun e => ⟨(h.f3 e).1, (hb.block _ (heap_lt (h.f3 e).2)).trans (h.f3 e).2⟩), h.n01, h.n02, h.n03, h.n12, h.n13, h.n23⟩
      · cases hu
      · cases hu
      ·
        obtain rfl : c2 = false := hu
        clear hi hlt
        refine wpOp_step rfl (fun K' hK => ?_)
        replace hK := Lib.hid hK
        rw [if_pos (by rfl)]
        go_simp
        refine (C2.out W).mono ?_
        rintro e W' ⟨rfl, hb⟩
        go_wp2_with fail
        have hB' := h.hB.trans (hb.mono h.hB.size)
        refine hK.out _ _ ⟨HCB.out _ hB', ?_⟩
        exact ⟨c0, c1, true, c3, l0, l1, l2, l3, s0, s1, s2, s3, g0, g1, g2, g3, p0, p1, p2, p3, q0, q1, .agg #[.int .u64 (x20 : Nat), .int .u64 (x21 : Nat)], q3, rfl, rfl, hB', h.p0, h.q0, h.m0, (fun e => ⟨(h.f0 e).1, (hb.block _ (heap_lt (h.f0 e).2)).trans (h.f0 e).2⟩), h.p1, h.q1, h.m1, (fun e => ⟨(h.f1 e).1, (hb.block _ (heap_lt (h.f1 e).2)).trans (h.f1 e).2⟩), h.p2, (fun _ => rfl), h.m2, (fun e => ⟨(h.f2 e).1, (hb.block _ (heap_lt (h.f2 e).2)).trans (h.f2 e).2⟩), h.p3, h.q3, h.m3, (fun e => ⟨(h.f3 e).1, (hb.block _ (heap_lt (h.f3 e).2)).trans (h.f3 e).2⟩), h.n01, h.n02, h.n03, h.n12, h.n13, h.n23⟩
      · cases hu
      · cases hu
      ·
        obtain rfl : c3 = false := hu
        clear hi hlt
        refine wpOp_step rfl (fun K' hK => ?_)
        replace hK := Lib.hid hK
        rw [if_pos (by rfl)]
        go_simp
        refine (C3.out W).mono ?_
        rintro e W' ⟨rfl, hb⟩
        go_wp2_with fail
        have hB' := h.hB.trans (hb.mono h.hB.size)
        refine hK.out _ _ ⟨HCB.out _ hB', ?_⟩
        exact ⟨c0, c1, c2, true, l0, l1, l2, l3, s0, s1, s2, s3, g0, g1, g2, g3, p0, p1, p2, p3, q0, q1, q2, .agg #[.int .u64 (x30 : Nat), .int .u64 (x31 : Nat)], rfl, rfl, hB', h.p0, h.q0, h.m0, (fun e => ⟨(h.f0 e).1, (hb.block _ (heap_lt (h.f0 e).2)).trans (h.f0 e).2⟩), h.p1, h.q1, h.m1, (fun e => ⟨(h.f1 e).1, (hb.block _ (heap_lt (h.f1 e).2)).trans (h.f1 e).2⟩), h.p2, h.q2, h.m2, (fun e => ⟨(h.f2 e).1, (hb.block _ (heap_lt (h.f2 e).2)).trans (h.f2 e).2⟩), h.p3, (fun _ => rfl), h.m3, (fun e => ⟨(h.f3 e).1, (hb.block _ (heap_lt (h.f3 e).2)).trans (h.f3 e).2⟩), h.n01, h.n02, h.n03, h.n12, h.n13, h.n23⟩
      ·
        obtain rfl : l0 = false := hu
        have hsj : s0 = false := by
          cases hs : s0 with
          | false => rfl
          | true => have := h.m0 hs; cases this
        have hb : Below W.heap.size W (W.alloc (.cells #[.int .u64 0, .int .u64 0] 191)) := (Below.refl _ _).alloc (Nat.le_refl _) _
        have hnew : (W.alloc (.cells #[.int .u64 0, .int .u64 0] 191)).heap[W.heap.size]? = some (.cells (if s0 = true then #[.int .u64 (x00 : Nat), .int .u64 (x01 : Nat)] else #[.int .u64 0, .int .u64 0]) 191 (0, 0)) := by rw [hsj]; exact heap_alloc_new W _
        clear hi hlt
        refine wpOp_step rfl (fun K' hK => ?_)
        replace hK := Lib.hid hK
        rw [if_pos (by rfl)]
        go_simp
        have hB' := h.hB.trans (hb.mono h.hB.size)
        refine hK.out _ _ ⟨HCB.out _ hB', ?_⟩
        exact ⟨c0, c1, c2, c3, true, l1, l2, l3, s0, s1, s2, s3, W.heap.size, g1, g2, g3, .pointer (some ⟨W.heap.size, 0, none⟩), p1, p2, p3, q0, q1, q2, q3, rfl, rfl, hB', (fun _ => rfl), h.q0, (fun _ => rfl), (fun _ => ⟨h.hB.size, hnew⟩), h.p1, h.q1, h.m1, (fun e => ⟨(h.f1 e).1, (hb.block _ (heap_lt (h.f1 e).2)).trans (h.f1 e).2⟩), h.p2, h.q2, h.m2, (fun e => ⟨(h.f2 e).1, (hb.block _ (heap_lt (h.f2 e).2)).trans (h.f2 e).2⟩), h.p3, h.q3, h.m3, (fun e => ⟨(h.f3 e).1, (hb.block _ (heap_lt (h.f3 e).2)).trans (h.f3 e).2⟩), (fun _ e => Nat.ne_of_gt (heap_lt (h.f1 e).2)), (fun _ e => Nat.ne_of_gt (heap_lt (h.f2 e).2)), (fun _ e => Nat.ne_of_gt (heap_lt (h.f3 e).2)), h.n12, h.n13, h.n23⟩
      ·
        obtain rfl : l1 = false := hu
        have hsj : s1 = false := by
          cases hs : s1 with
          | false => rfl
          | true => have := h.m1 hs; cases this
        have hb : Below W.heap.size W (W.alloc (.cells #[.int .u64 0, .int .u64 0] 191)) := (Below.refl _ _).alloc (Nat.le_refl _) _
        have hnew : (W.alloc (.cells #[.int .u64 0, .int .u64 0] 191)).heap[W.heap.size]? = some (.cells (if s1 = true then #[.int .u64 (x10 : Nat), .int .u64 (x11 : Nat)] else #[.int .u64 0, .int .u64 0]) 191 (0, 0)) := by rw [hsj]; exact heap_alloc_new W _
        clear hi hlt
        refine wpOp_step rfl (fun K' hK => ?_)
        replace hK := Lib.hid hK
        rw [if_pos (by rfl)]
        go_simp
        have hB' := h.hB.trans (hb.mono h.hB.size)
        refine hK.out _ _ ⟨HCB.out _ hB', ?_⟩
        exact ⟨c0, c1, c2, c3, l0, true, l2, l3, s0, s1, s2, s3, g0, W.heap.size, g2, g3, p0, .pointer (some ⟨W.heap.size, 0, none⟩), p2, p3, q0, q1, q2, q3, rfl, rfl, hB', h.p0, h.q0, h.m0, (fun e => ⟨(h.f0 e).1, (hb.block _ (heap_lt (h.f0 e).2)).trans (h.f0 e).2⟩), (fun _ => rfl), h.q1, (fun _ => rfl), (fun _ => ⟨h.hB.size, hnew⟩), h.p2, h.q2, h.m2, (fun e => ⟨(h.f2 e).1, (hb.block _ (heap_lt (h.f2 e).2)).trans (h.f2 e).2⟩), h.p3, h.q3, h.m3, (fun e => ⟨(h.f3 e).1, (hb.block _ (heap_lt (h.f3 e).2)).trans (h.f3 e).2⟩), (fun e _ => Nat.ne_of_lt (heap_lt (h.f0 e).2)), h.n02, h.n03, (fun _ e => Nat.ne_of_gt (heap_lt (h.f2 e).2)), (fun _ e => Nat.ne_of_gt (heap_lt (h.f3 e).2)), h.n23⟩
      ·
        obtain rfl : l2 = false := hu
        have hsj : s2 = false := by
          cases hs : s2 with
          | false => rfl
          | true => have := h.m2 hs; cases this
        have hb : Below W.heap.size W (W.alloc (.cells #[.int .u64 0, .int .u64 0] 191)) := (Below.refl _ _).alloc (Nat.le_refl _) _
        have hnew : (W.alloc (.cells #[.int .u64 0, .int .u64 0] 191)).heap[W.heap.size]? = some (.cells (if s2 = true then #[.int .u64 (x20 : Nat), .int .u64 (x21 : Nat)] else #[.int .u64 0, .int .u64 0]) 191 (0, 0)) := by rw [hsj]; exact heap_alloc_new W _
        clear hi hlt
        refine wpOp_step rfl (fun K' hK => ?_)
        replace hK := Lib.hid hK
        rw [if_pos (by rfl)]
        go_simp
        have hB' := h.hB.trans (hb.mono h.hB.size)
        refine hK.out _ _ ⟨HCB.out _ hB', ?_⟩
        exact ⟨c0, c1, c2, c3, l0, l1, true, l3, s0, s1, s2, s3, g0, g1, W.heap.size, g3, p0, p1, .pointer (some ⟨W.heap.size, 0, none⟩), p3, q0, q1, q2, q3, rfl, rfl, hB', h.p0, h.q0, h.m0, (fun e => ⟨(h.f0 e).1, (hb.block _ (heap_lt (h.f0 e).2)).trans (h.f0 e).2⟩), h.p1, h.q1, h.m1, (fun e => ⟨(h.f1 e).1, (hb.block _ (heap_lt (h.f1 e).2)).trans (h.f1 e).2⟩), (fun _ => rfl), h.q2, (fun _ => rfl), (fun _ => ⟨h.hB.size, hnew⟩), h.p3, h.q3, h.m3, (fun e => ⟨(h.f3 e).1, (hb.block _ (heap_lt (h.f3 e).2)).trans (h.f3 e).2⟩), h.n01, (fun e _ => Nat.ne_of_lt (heap_lt (h.f0 e).2)), h.n03, (fun e _ => Nat.ne_of_lt (heap_lt (h.f1 e).2)), h.n13, (fun _ e => Nat.ne_of_gt (heap_lt (h.f3 e).2))⟩
      ·
        obtain rfl : l3 = false := hu
        have hsj : s3 = false := by
          cases hs : s3 with
          | false => rfl
          | true => have := h.m3 hs; cases this
        have hb : Below W.heap.size W (W.alloc (.cells #[.int .u64 0, .int .u64 0] 191)) := (Below.refl _ _).alloc (Nat.le_refl _) _
        have hnew : (W.alloc (.cells #[.int .u64 0, .int .u64 0] 191)).heap[W.heap.size]? = some (.cells (if s3 = true then #[.int .u64 (x30 : Nat), .int .u64 (x31 : Nat)] else #[.int .u64 0, .int .u64 0]) 191 (0, 0)) := by rw [hsj]; exact heap_alloc_new W _
        clear hi hlt
        refine wpOp_step rfl (fun K' hK => ?_)
        replace hK := Lib.hid hK
        rw [if_pos (by rfl)]
        go_simp
        have hB' := h.hB.trans (hb.mono h.hB.size)
        refine hK.out _ _ ⟨HCB.out _ hB', ?_⟩
        exact ⟨c0, c1, c2, c3, l0, l1, l2, true, s0, s1, s2, s3, g0, g1, g2, W.heap.size, p0, p1, p2, .pointer (some ⟨W.heap.size, 0, none⟩), q0, q1, q2, q3, rfl, rfl, hB', h.p0, h.q0, h.m0, (fun e => ⟨(h.f0 e).1, (hb.block _ (heap_lt (h.f0 e).2)).trans (h.f0 e).2⟩), h.p1, h.q1, h.m1, (fun e => ⟨(h.f1 e).1, (hb.block _ (heap_lt (h.f1 e).2)).trans (h.f1 e).2⟩), h.p2, h.q2, h.m2, (fun e => ⟨(h.f2 e).1, (hb.block _ (heap_lt (h.f2 e).2)).trans (h.f2 e).2⟩), (fun _ => rfl), h.q3, (fun _ => rfl), (fun _ => ⟨h.hB.size, hnew⟩), h.n01, h.n02, (fun e _ => Nat.ne_of_lt (heap_lt (h.f0 e).2)), h.n12, (fun e _ => Nat.ne_of_lt (heap_lt (h.f1 e).2)), (fun e _ => Nat.ne_of_lt (heap_lt (h.f2 e).2))⟩
      ·
        obtain rfl : s0 = false := hu
        obtain rfl : l0 = true := ready_dep hi rfl ⟨12, .data⟩ (by simp) rfl
        obtain rfl : c0 = true := ready_dep hi rfl ⟨2, .data⟩ (by simp) rfl
        obtain rfl := h.p0 rfl
        obtain rfl := h.q0 rfl
        have hbk : W.heap[g0]? = some (.cells #[.int .u64 0, .int .u64 0] 191 (0, 0)) := (h.f0 rfl).2
        obtain ⟨⟨k0, k1⟩, e0, e1⟩ := cells2 hbk
        clear hi hlt
        refine wpOp_step rfl (fun K' hK => ?_)
        replace hK := Lib.hid hK
        rw [if_pos (by rfl)]
        go_simp
        have hB' := set2_below (x0 := .int .u64 (x00 : Nat)) (x1 := .int .u64 (x01 : Nat)) h.hB (h.f0 rfl).1
        refine hK.out _ _ ⟨HCB.out _ hB', ?_⟩
        exact ⟨true, c1, c2, c3, true, l1, l2, l3, true, s1, s2, s3, g0, g1, g2, g3, .pointer (some ⟨g0, 0, none⟩), p1, p2, p3, .agg #[.int .u64 (x00 : Nat), .int .u64 (x01 : Nat)], q1, q2, q3, rfl, rfl, hB', (fun _ => rfl), (fun _ => rfl), (fun _ => rfl), (fun _ => ⟨(h.f0 rfl).1, set2_heap hbk⟩), h.p1, h.q1, h.m1, (fun e => ⟨(h.f1 e).1, (set2_other (Ne.symm (h.n01 rfl e))).trans (h.f1 e).2⟩), h.p2, h.q2, h.m2, (fun e => ⟨(h.f2 e).1, (set2_other (Ne.symm (h.n02 rfl e))).trans (h.f2 e).2⟩), h.p3, h.q3, h.m3, (fun e => ⟨(h.f3 e).1, (set2_other (Ne.symm (h.n03 rfl e))).trans (h.f3 e).2⟩), h.n01, h.n02, h.n03, h.n12, h.n13, h.n23⟩
      ·
        obtain rfl : s1 = false := hu
        obtain rfl : l1 = true := ready_dep hi rfl ⟨13, .data⟩ (by simp) rfl
        obtain rfl : c1 = true := ready_dep hi rfl ⟨5, .data⟩ (by simp) rfl
        obtain rfl := h.p1 rfl
        obtain rfl := h.q1 rfl
        have hbk : W.heap[g1]? = some (.cells #[.int .u64 0, .int .u64 0] 191 (0, 0)) := (h.f1 rfl).2
        obtain ⟨⟨k0, k1⟩, e0, e1⟩ := cells2 hbk
        clear hi hlt
        refine wpOp_step rfl (fun K' hK => ?_)
        replace hK := Lib.hid hK
        rw [if_pos (by rfl)]
        go_simp
        have hB' := set2_below (x0 := .int .u64 (x10 : Nat)) (x1 := .int .u64 (x11 : Nat)) h.hB (h.f1 rfl).1
        refine hK.out _ _ ⟨HCB.out _ hB', ?_⟩
        exact ⟨c0, true, c2, c3, l0, true, l2, l3, s0, true, s2, s3, g0, g1, g2, g3, p0, .pointer (some ⟨g1, 0, none⟩), p2, p3, q0, .agg #[.int .u64 (x10 : Nat), .int .u64 (x11 : Nat)], q2, q3, rfl, rfl, hB', h.p0, h.q0, h.m0, (fun e => ⟨(h.f0 e).1, (set2_other (h.n01 e rfl)).trans (h.f0 e).2⟩), (fun _ => rfl), (fun _ => rfl), (fun _ => rfl), (fun _ => ⟨(h.f1 rfl).1, set2_heap hbk⟩), h.p2, h.q2, h.m2, (fun e => ⟨(h.f2 e).1, (set2_other (Ne.symm (h.n12 rfl e))).trans (h.f2 e).2⟩), h.p3, h.q3, h.m3, (fun e => ⟨(h.f3 e).1, (set2_other (Ne.symm (h.n13 rfl e))).trans (h.f3 e).2⟩), h.n01, h.n02, h.n03, h.n12, h.n13, h.n23⟩
      ·
        obtain rfl : s2 = false := hu
        obtain rfl : l2 = true := ready_dep hi rfl ⟨14, .data⟩ (by simp) rfl
        obtain rfl : c2 = true := ready_dep hi rfl ⟨8, .data⟩ (by simp) rfl
        obtain rfl := h.p2 rfl
        obtain rfl := h.q2 rfl
        have hbk : W.heap[g2]? = some (.cells #[.int .u64 0, .int .u64 0] 191 (0, 0)) := (h.f2 rfl).2
        obtain ⟨⟨k0, k1⟩, e0, e1⟩ := cells2 hbk
        clear hi hlt
        refine wpOp_step rfl (fun K' hK => ?_)
        replace hK := Lib.hid hK
        rw [if_pos (by rfl)]
        go_simp
        have hB' := set2_below (x0 := .int .u64 (x20 : Nat)) (x1 := .int .u64 (x21 : Nat)) h.hB (h.f2 rfl).1
        refine hK.out _ _ ⟨HCB.out _ hB', ?_⟩
        exact ⟨c0, c1, true, c3, l0, l1, true, l3, s0, s1, true, s3, g0, g1, g2, g3, p0, p1, .pointer (some ⟨g2, 0, none⟩), p3, q0, q1, .agg #[.int .u64 (x20 : Nat), .int .u64 (x21 : Nat)], q3, rfl, rfl, hB', h.p0, h.q0, h.m0, (fun e => ⟨(h.f0 e).1, (set2_other (h.n02 e rfl)).trans (h.f0 e).2⟩), h.p1, h.q1, h.m1, (fun e => ⟨(h.f1 e).1, (set2_other (h.n12 e rfl)).trans (h.f1 e).2⟩), (fun _ => rfl), (fun _ => rfl), (fun _ => rfl), (fun _ => ⟨(h.f2 rfl).1, set2_heap hbk⟩), h.p3, h.q3, h.m3, (fun e => ⟨(h.f3 e).1, (set2_other (Ne.symm (h.n23 rfl e))).trans (h.f3 e).2⟩), h.n01, h.n02, h.n03, h.n12, h.n13, h.n23⟩
      ·
        obtain rfl : s3 = false := hu
        obtain rfl : l3 = true := ready_dep hi rfl ⟨15, .data⟩ (by simp) rfl
        obtain rfl : c3 = true := ready_dep hi rfl ⟨11, .data⟩ (by simp) rfl
        obtain rfl := h.p3 rfl
        obtain rfl := h.q3 rfl
        have hbk : W.heap[g3]? = some (.cells #[.int .u64 0, .int .u64 0] 191 (0, 0)) := (h.f3 rfl).2
        obtain ⟨⟨k0, k1⟩, e0, e1⟩ := cells2 hbk
        clear hi hlt
        refine wpOp_step rfl (fun K' hK => ?_)
        replace hK := Lib.hid hK
        rw [if_pos (by rfl)]
        go_simp
        have hB' := set2_below (x0 := .int .u64 (x30 : Nat)) (x1 := .int .u64 (x31 : Nat)) h.hB (h.f3 rfl).1
        refine hK.out _ _ ⟨HCB.out _ hB', ?_⟩
        exact ⟨c0, c1, c2, true, l0, l1, l2, true, s0, s1, s2, true, g0, g1, g2, g3, p0, p1, p2, .pointer (some ⟨g3, 0, none⟩), q0, q1, q2, .agg #[.int .u64 (x30 : Nat), .int .u64 (x31 : Nat)], rfl, rfl, hB', h.p0, h.q0, h.m0, (fun e => ⟨(h.f0 e).1, (set2_other (h.n03 e rfl)).trans (h.f0 e).2⟩), h.p1, h.q1, h.m1, (fun e => ⟨(h.f1 e).1, (set2_other (h.n13 e rfl)).trans (h.f1 e).2⟩), h.p2, h.q2, h.m2, (fun e => ⟨(h.f2 e).1, (set2_other (h.n23 e rfl)).trans (h.f2 e).2⟩), (fun _ => rfl), (fun _ => rfl), (fun _ => rfl), (fun _ => ⟨(h.f3 rfl).1, set2_heap hbk⟩), h.n01, h.n02, h.n03, h.n12, h.n13, h.n23⟩
    · exact ⟨rfl, rfl, hb0, fun e => (by cases e), fun e => (by cases e), fun e => (by cases e), fun e => (by cases e), fun e => (by cases e), fun e => (by cases e), fun e => (by cases e), fun e => (by cases e), fun e => (by cases e), fun e => (by cases e), fun e => (by cases e), fun e => (by cases e), fun e => (by cases e), fun e => (by cases e), fun e => (by cases e), fun e => (by cases e), fun e => (by cases e), fun e => (by cases e), fun e => (by cases e), fun e => (by cases e), fun e => (by cases e), fun e => (by cases e)⟩
  rintro a' WA ⟨g0, g1, g2, g3, rfl, h4⟩
  have H0 : Hid (RndR (y0, y1, y2, y3) n W0 g0 g1 g2 g3 (.int .i64 0) WA) := Lib.hid ⟨0, x00, x01, x10, x11, x20, x21, x30, x31, Nat.zero_le _, rfl, HT.out, h4⟩
  clear h4 C0 C1 C2 C3
  go_wp2_with fail
  go_loopw [9] (RndR (y0, y1, y2, y3) n W0 g0 g1 g2 g3) (fun i _ => n - (intOf i).toNat)
  case atStart => exact H0.out
  case round =>
    clear HT H0
    obtain ⟨k, x00, x01, x10, x11, x20, x21, x30, x31, hk, rfl, ⟨t0, t1, t2, t3⟩, h4⟩ := hrel
    have hok := Bw.sipN_ok HX.out k
    by_cases hlt : k < n
    · have i1 : (k : Int) < (n : Int) := by omega
      have C := fun W => round05_any hok W
      obtain ⟨z00, z01, e0⟩ : ∃ a b : Nat, twoV (Bw.sipRound (Bw.sipN k (y0, y1, y2, y3))).1 = .agg #[.int .u64 (a : Nat), .int .u64 (b : Nat)] := ⟨_, _, rfl⟩
      obtain ⟨z10, z11, e1⟩ : ∃ a b : Nat, twoV (Bw.sipRound (Bw.sipN k (y0, y1, y2, y3))).2.1 = .agg #[.int .u64 (a : Nat), .int .u64 (b : Nat)] := ⟨_, _, rfl⟩
      obtain ⟨z20, z21, e2⟩ : ∃ a b : Nat, twoV (Bw.sipRound (Bw.sipN k (y0, y1, y2, y3))).2.2.1 = .agg #[.int .u64 (a : Nat), .int .u64 (b : Nat)] := ⟨_, _, rfl⟩
      obtain ⟨z30, z31, e3⟩ : ∃ a b : Nat, twoV (Bw.sipRound (Bw.sipN k (y0, y1, y2, y3))).2.2.2 = .agg #[.int .u64 (a : Nat), .int .u64 (b : Nat)] := ⟨_, _, rfl⟩
      simp only [t0, t1, t2, t3, e0, e1, e2, e3] at C
      have HC := Lib.hid C
      have HE := Lib.hid (And.intro e0 (And.intro e1 (And.intro e2 e3)))
      have H4 := Lib.hid h4
      have HLT := Lib.hid hlt
      have HNN : Hid (n <= 1048576) := Lib.hid (by have := HN.out; omega)
      clear C e0 e1 e2 e3 t0 t1 t2 t3 hok hlt hk
      obtain ⟨⟨k00, k01⟩, f00, f01⟩ := cells2 h4.b0
      obtain ⟨⟨k10, k11⟩, f10, f11⟩ := cells2 h4.b1
      obtain ⟨⟨k20, k21⟩, f20, f21⟩ := cells2 h4.b2
      obtain ⟨⟨k30, k31⟩, f30, f31⟩ := cells2 h4.b3
      have n01 := h4.n01
      have m01 := h4.n01.symm
      have n02 := h4.n02
      have m02 := h4.n02.symm
      have n03 := h4.n03
      have m03 := h4.n03.symm
      have n12 := h4.n12
      have m12 := h4.n12.symm
      have n13 := h4.n13
      have m13 := h4.n13.symm
      have n23 := h4.n23
      have m23 := h4.n23.symm
      clear h4
      go_wp2_with fail
      refine (HC.out _).mono ?_
      rintro e w5 ⟨rfl, hb5⟩
      have h5 := H4.out.below hb5
      have H5 := Lib.hid (h5.set (z00 := z00) (z01 := z01) (z10 := z10) (z11 := z11) (z20 := z20) (z21 := z21) (z30 := z30) (z31 := z31))
      clear k00 k01 f00 f01 k10 k11 f10 f11 k20 k21 f20 f21 k30 k31 f30 f31
      obtain ⟨⟨k00, k01⟩, f00, f01⟩ := cells2 h5.b0
      obtain ⟨⟨k10, k11⟩, f10, f11⟩ := cells2 h5.b1
      obtain ⟨⟨k20, k21⟩, f20, f21⟩ := cells2 h5.b2
      obtain ⟨⟨k30, k31⟩, f30, f31⟩ := cells2 h5.b3
      clear h5 hb5
      go_wp2
      exact ⟨⟨k + 1, z00, z01, z10, z11, z20, z21, z30, z31, HLT.out, int_succ HLT.out HNN.out, HE.out, H5.out⟩, less_succ HLT.out HNN.out⟩
    · obtain rfl : k = n := by omega
      have hz : Bw.Sip.ok (Bw.sipN k (y0, y1, y2, y3)) := hok
      obtain ⟨z, hzz⟩ : ∃ z, Bw.sipN k (y0, y1, y2, y3) = z := ⟨_, rfl⟩
      rw [hzz] at t0 t1 t2 t3 hz
      have HZ := Lib.hid hzz
      clear hzz
      obtain ⟨z0, z1, z2, z3⟩ := z
      obtain ⟨q0, q1, q2, q3⟩ := hz
      dsimp only at t0 t1 t2 t3 q0 q1 q2 q3
      have C0 := fun W => whole05_any q0 W
      rw [t0] at C0
      replace C0 := Lib.hid C0
      have C1 := fun W => whole05_any q1 W
      rw [t1] at C1
      replace C1 := Lib.hid C1
      have C2 := fun W => whole05_any q2 W
      rw [t2] at C2
      replace C2 := Lib.hid C2
      have C3 := fun W => whole05_any q3 W
      rw [t3] at C3
      replace C3 := Lib.hid C3
      have hF0 := h4.below ((Below.refl wr.heap.size wr).drew)
      have hR0 : wr.drew.heap[B + 1]? = some (.cells #[.int .u64 0, .int .u64 0, .int .u64 0, .int .u64 0] 136 (0, 0)) := (hF0.hB.block (B + 1) (by have := HS0.out; omega)).trans (hBeq ▸ HR1.out)
      have n0 : ¬ (B + 1 = g0) := by have := hF0.l0; have := HS0.out; omega
      have n1 : ¬ (B + 1 = g1) := by have := hF0.l1; have := HS0.out; omega
      have n2 : ¬ (B + 1 = g2) := by have := hF0.l2; have := HS0.out; omega
      have n3 : ¬ (B + 1 = g3) := by have := hF0.l3; have := HS0.out; omega
      clear t0 t1 t2 t3 q0 q1 q2 q3 hok hlt hk h4
      go_wp2_with fail
      go_region_held3 (fun W => W.cell? ⟨g0, 0, none⟩ = some (.int .u64 (x00 : Nat)) /\ W.cell? ⟨g0, 1, none⟩ = some (.int .u64 (x01 : Nat)) /\ W.cell? ⟨g1, 0, none⟩ = some (.int .u64 (x10 : Nat)) /\ W.cell? ⟨g1, 1, none⟩ = some (.int .u64 (x11 : Nat)) /\ W.cell? ⟨g2, 0, none⟩ = some (.int .u64 (x20 : Nat)) /\ W.cell? ⟨g2, 1, none⟩ = some (.int .u64 (x21 : Nat)) /\ W.cell? ⟨g3, 0, none⟩ = some (.int .u64 (x30 : Nat)) /\ W.cell? ⟨g3, 1, none⟩ = some (.int .u64 (x31 : Nat)))
        (first | exact hF4.cells | exact hF3.cells | exact hF2.cells | exact hF1.cells | exact hF0.cells | go_keep)
        ((first
          | (go_at_call 118; (with_reducible refine (C3.out w3).mono ?_); rintro e w4 ⟨rfl, hb4⟩; have hF4 := hF3.below hb4; have hR4 := (hb4.block _ (heap_lt hR3)).trans hR3; obtain ⟨⟨r0, r1, r2, r3⟩, s0, s1, s2, s3⟩ := cells4 hR4)
          | (go_at_call 118; (with_reducible refine (C2.out w2).mono ?_); rintro e w3 ⟨rfl, hb3⟩; have hF3 := hF2.below hb3; have hR3 := (hb3.block _ (heap_lt hR2)).trans hR2)
          | (go_at_call 118; (with_reducible refine (C1.out w1).mono ?_); rintro e w2 ⟨rfl, hb2⟩; have hF2 := hF1.below hb2; have hR2 := (hb2.block _ (heap_lt hR1)).trans hR1)
          | (go_at_call 118; (with_reducible refine (C0.out _).mono ?_); rintro e w1 ⟨rfl, hb1⟩; have hF1 := hF0.below hb1; have hR1 := (hb1.block _ (heap_lt hR0)).trans hR0)))
      have hbb := HB0.out.trans (hF4.hB.mono HB0.out.size)
      rw [hBeq] at hbb
      obtain ⟨⟨l0, l1, l2, l3⟩, _⟩ := cells4 (set4 (x0 := .int .u64 (z0 : Nat)) (x1 := .int .u64 (z1 : Nat)) (x2 := .int .u64 (z2 : Nat)) (x3 := .int .u64 (z3 : Nat)) hR4)
      clear r0 r1 r2 r3 s0 s1 s2 s3 hR0 hR1 hR2 hR3 hR4 hF0 hF1 hF2 hF3 hF4 hb1 hb2 hb3 hb4 C0 C1 C2 C3
      go_wp2_with fail
      refine bodyPost_ret (v := sipV (z0, z1, z2, z3)) ?_ rfl ⟨by rw [HZ.out]; rfl, ?_⟩
      · simp [results, Tryz.results93, go_sem, l0, l1, l2, l3, sipV]
      · clear l0 l1 l2 l3
        first | (rw [hBeq]; exact gB5) | exact gB5
end Go.Proofs.YtadaoceidkagfaaGreatDoor
/- ref05.Take, End, Hash. -/
namespace Go.Proofs.YtadaoceidkagfaaGreatDoor
open Go.RowKit Go.Bw
set_option maxRecDepth 100000 in
set_option maxHeartbeats 2000000 in
theorem take05_any {x : Bw.Sip} {m : Nat} (hx : x.ok) (hm : m < 18446744073709551616) (w : World) :
    Calls Tryz.prog 65 #[sipV x, .int .u64 (m : Nat)] w fun e w' => e = .returned (sipV (Bw.sipTake x m)) /\ Below w.heap.size w w' := by
  obtain ⟨p, q, r, s⟩ := x
  obtain ⟨h0, h1, h2, h3⟩ := hx
  simp only [sipV]
  have x3 : bits .xor .u64 (s : Int) (m : Int) = ((s ^^^ m : Nat) : Int) := bits_xor_u64_nat _ _ h3 hm
  have hok1 : Bw.Sip.ok (p, q, r, s ^^^ m) := ⟨h0, h1, h2, Bw.xor_lt64 h3 hm⟩
  have hok3 := Bw.sipN_ok hok1 2
  have C1 := fun w => rounds05_any hok1 2 (by decide) w
  have x0 : bits .xor .u64 (((Bw.sipN 2 (p, q, r, s ^^^ m)).1 : Nat) : Int) (m : Int) = (((Bw.sipN 2 (p, q, r, s ^^^ m)).1 ^^^ m : Nat) : Int) := bits_xor_u64_nat _ _ hok3.1 hm
  have ht : Bw.sipTake (p, q, r, s) m = ((Bw.sipN 2 (p, q, r, s ^^^ m)).1 ^^^ m, (Bw.sipN 2 (p, q, r, s ^^^ m)).2.1, (Bw.sipN 2 (p, q, r, s ^^^ m)).2.2.1, (Bw.sipN 2 (p, q, r, s ^^^ m)).2.2.2) := rfl
  rw [ht]
  simp only [sipV] at C1
  generalize s ^^^ m = s' at *
  generalize Bw.sipN 2 (p, q, r, s') = y at *
  obtain ⟨y0, y1, y2, y3⟩ := y
  dsimp only at *
  have C1 := Lib.hid C1
  generalize y0 ^^^ m = y0' at *
  clear h0 h1 h2 h3 hm hok1 hok3 ht
  go_enter Tryz.func65, Tryz.ntmps65
  go_wp2_with fail
  obtain ⟨W0, hW0⟩ : ∃ W0, (w.alloc (.cells #[.int .u64 (p : Nat), .int .u64 (q : Nat), .int .u64 (r : Nat), .int .u64 (s' : Nat)] 136)).alloc (.cells #[.int .u64 0, .int .u64 0, .int .u64 0, .int .u64 0] 136) = W0 := ⟨_, rfl⟩
  have hr0 : Below w.heap.size w W0 := by rw [<- hW0]; exact gB3
  have b1 : W0.heap[w.heap.size]? = some (.cells #[.int .u64 (p : Nat), .int .u64 (q : Nat), .int .u64 (r : Nat), .int .u64 (s' : Nat)] 136 (0, 0)) := by rw [<- hW0]; exact (heap_alloc_old _ _ (by simp)).trans (heap_alloc_new w _)
  have b2 : W0.heap[w.heap.size + 1]? = some (.cells #[.int .u64 0, .int .u64 0, .int .u64 0, .int .u64 0] 136 (0, 0)) := by rw [<- hW0]; have := heap_alloc_new (w.alloc (.cells #[.int .u64 (p : Nat), .int .u64 (q : Nat), .int .u64 (r : Nat), .int .u64 (s' : Nat)] 136)) (.cells #[.int .u64 0, .int .u64 0, .int .u64 0, .int .u64 0] 136); simpa using this
  rw [hW0]
  have HR0 := Lib.hid hr0
  clear hW0 hr0
  refine (C1.out _).mono ?_
  rintro e w2 ⟨rfl, hb2⟩
  have d1 := (hb2.block w.heap.size (heap_lt b1)).trans b1
  have d2 := (hb2.block (w.heap.size + 1) (heap_lt b2)).trans b2
  have HB2 := Lib.hid (HR0.out.trans (hb2.mono HR0.out.size))
  have hn := heap_lt d1
  have hn2 := heap_lt d2
  clear hb2 b1 b2 C1 HR0
  obtain ⟨⟨k0, k1, k2, k3⟩, f0, f1, f2, f3⟩ := cells4 d1
  obtain ⟨⟨l0, l1, l2, l3⟩, g0, g1, g2, g3⟩ := cells4 d2
  go_wp2
  have e1 := set4 (x0 := .int .u64 (y0 : Nat)) (x1 := .int .u64 (y1 : Nat)) (x2 := .int .u64 (y2 : Nat)) (x3 := .int .u64 (y3 : Nat)) d1
  have e2 := (set4_other (W := w2) (b := w.heap.size) (k := w.heap.size + 1) (x0 := .int .u64 (y0 : Nat)) (x1 := .int .u64 (y1 : Nat)) (x2 := .int .u64 (y2 : Nat)) (x3 := .int .u64 (y3 : Nat)) (by omega)).trans d2
  have e3 := set4 (x0 := .int .u64 (y0' : Nat)) (x1 := .int .u64 (y1 : Nat)) (x2 := .int .u64 (y2 : Nat)) (x3 := .int .u64 (y3 : Nat)) ((Below.heap_setCell _ ⟨w.heap.size, 0, none⟩ (.int .u64 (y0' : Nat)) (w.heap.size + 1) (by simp)).trans e2)
  obtain ⟨⟨n0, n1, n2, n3⟩, _⟩ := cells4 e3
  have hbb := HB2.out
  refine bodyPost_ret (v := .agg #[.int .u64 (y0' : Nat), .int .u64 (y1 : Nat), .int .u64 (y2 : Nat), .int .u64 (y3 : Nat)]) ?_ rfl ?_
  · clear hbb d1 d2 e1 e2 e3 k0 k1 k2 k3 l0 l1 l2 l3 f0 f1 f2 f3 g0 g1 g2 g3
    simp [results, Tryz.results65, go_sem, n0, n1, n2, n3]
  · clear d1 d2 e1 e2 e3 k0 k1 k2 k3 l0 l1 l2 l3 f0 f1 f2 f3 g0 g1 g2 g3 n0 n1 n2 n3 HB2
    refine ⟨rfl, ?_⟩
    exact gB5
set_option maxRecDepth 100000 in
set_option maxHeartbeats 2000000 in
theorem end05_any {x : Bw.Sip} (hx : x.ok) (w : World) :
    Calls Tryz.prog 66 #[sipV x] w fun e w' => e = .returned (.int .u64 (Bw.sipEnd x : Nat)) /\ Below w.heap.size w w' := by
  obtain ⟨p, q, r, s⟩ := x
  obtain ⟨h0, h1, h2, h3⟩ := hx
  simp only [sipV]
  have x2 : bits .xor .u64 (r : Int) 255 = ((r ^^^ 255 : Nat) : Int) := bits_xor_u64_nat r 255 h2 (by decide)
  have hok : Bw.Sip.ok (p, q, r ^^^ 255, s) := ⟨h0, h1, Bw.xor_lt64 h2 (by decide), h3⟩
  have hok4 := Bw.sipN_ok hok 4
  have C1 := fun w => rounds05_any hok 4 (by decide) w
  have hend : Bw.sipEnd (p, q, r, s) = (Bw.sipN 4 (p, q, r ^^^ 255, s)).1 ^^^ (Bw.sipN 4 (p, q, r ^^^ 255, s)).2.1 ^^^ (Bw.sipN 4 (p, q, r ^^^ 255, s)).2.2.1 ^^^ (Bw.sipN 4 (p, q, r ^^^ 255, s)).2.2.2 := rfl
  rw [hend]
  simp only [sipV] at C1
  generalize r ^^^ 255 = r' at *
  generalize Bw.sipN 4 (p, q, r', s) = y at *
  obtain ⟨y0, y1, y2, y3⟩ := y
  obtain ⟨g0, g1, g2, g3⟩ := hok4
  dsimp only at *
  have C1 := Lib.hid C1
  have e1 : bits .xor .u64 (y0 : Int) (y1 : Int) = ((y0 ^^^ y1 : Nat) : Int) := bits_xor_u64_nat _ _ g0 g1
  have e2 : bits .xor .u64 ((y0 ^^^ y1 : Nat) : Int) (y2 : Int) = ((y0 ^^^ y1 ^^^ y2 : Nat) : Int) := bits_xor_u64_nat _ _ (Bw.xor_lt64 g0 g1) g2
  have e3 : bits .xor .u64 ((y0 ^^^ y1 ^^^ y2 : Nat) : Int) (y3 : Int) = ((y0 ^^^ y1 ^^^ y2 ^^^ y3 : Nat) : Int) := bits_xor_u64_nat _ _ (Bw.xor_lt64 (Bw.xor_lt64 g0 g1) g2) g3
  generalize y0 ^^^ y1 ^^^ y2 ^^^ y3 = n3 at *
  generalize y0 ^^^ y1 ^^^ y2 = n2 at *
  generalize y0 ^^^ y1 = n1 at *
  clear h0 h1 h2 h3 hok hend g0 g1 g2 g3
  go_enter Tryz.func66, Tryz.ntmps66
  go_wp2_with fail
  obtain ⟨W0, hW0⟩ : ∃ W0, w.alloc (.cells #[.int .u64 (p : Nat), .int .u64 (q : Nat), .int .u64 (r' : Nat), .int .u64 (s : Nat)] 136) = W0 := ⟨_, rfl⟩
  have hr0 : Below w.heap.size w W0 := by rw [<- hW0]; exact gB3
  have b1 : W0.heap[w.heap.size]? = some (.cells #[.int .u64 (p : Nat), .int .u64 (q : Nat), .int .u64 (r' : Nat), .int .u64 (s : Nat)] 136 (0, 0)) := by rw [<- hW0]; exact heap_alloc_new w _
  rw [hW0]
  refine (C1.out _).mono ?_
  rintro e w2 ⟨rfl, hb2⟩
  have d1 := (hb2.block w.heap.size (heap_lt b1)).trans b1
  have HB2 := Lib.hid (hr0.trans (hb2.mono hr0.size))
  have hn := heap_lt d1
  clear hb2 b1 C1 hr0 hW0
  obtain ⟨⟨k0, k1, k2, k3⟩, f0, f1, f2, f3⟩ := cells4 d1
  go_wp2
  go_ret
  refine ⟨rfl, ?_⟩
  have hbb := HB2.out
  clear d1 k0 k1 k2 k3 f0 f1 f2 f3 HB2 e1 e2 e3 x2
  exact gB5
theorem arr16_size : (Tryz.prog.info? 22).map (·.size) = some 16 := by kernel_rfl
section
variable {ops : Array Oper} {rest : List Oper} {op : Oper} {a : Act} {w : World} {Q : Exit -> Act -> World -> Prop} {S : World -> Prop} {s : List UInt8} {x : Operand} {b : Nat}
theorem wpl_load_16 (hgd : op.guard = none) (ho : op.op = .load 22 x) (hx : a.eval x = .pointer (some ⟨b, 0, none⟩)) (hs : s.length = 16) (hc : w.rangeAt b 0 (seedL s))
    (h : wpList Tryz.prog ops Q rest (a.put op.dst (seedV s)) w) : wpList Tryz.prog ops Q (op :: rest) a w :=
  wpList_load_mid (P := Tryz.prog) hgd 22 x ho b 0 hx (seedL s) _ hc Tryz.underlying22 rfl (arr16_size.trans (congrArg some (seedL_length hs).symm)) h
theorem yieldsIf_load_16 (hw : Region.wanted op (yielded ops a.tmps) = true) (ho : op.op = .load 22 x) (hx : a.eval x = .pointer (some ⟨b, 0, none⟩)) (hs : s.length = 16) (hc : ∀ W, S W -> W.rangeAt b 0 (seedL s)) :
    YieldsIf Tryz.prog ops S op (seedV s) a :=
  yieldsIf_load_mid (P := Tryz.prog) hw 22 x ho b 0 hx (seedL s) _ hc Tryz.underlying22 rfl (arr16_size.trans (congrArg some (seedL_length hs).symm))
end
theorem seed_in16 {w : World} {s : List UInt8} : (w.alloc (.cells (seedL s).toArray 22)).rangeAt w.heap.size 0 (seedL s) := fun j v hv => by
  have h := cell_of_row (w.alloc (.cells (seedL s).toArray 22)) w.heap.size j _ _ (0, 0) (heap_alloc_new w _)
  rw [Nat.zero_add, h]
  simpa using hv
theorem int_wrap {k n : Nat} (h : k < n) (hn : n <= 1048576) : wrap64 ((k : Int) + 1) = ((k + 1 : Nat) : Int) := by unfold wrap64; omega
def HashR5 (s : List UInt8) (key : Bw.Bytes) (q : Value) (B : Nat) (w : World) (i : Value) (W : World) : Prop :=
  ∃ (k : Nat) (x : Bw.Sip), k <= (numsOf key).length /\ i = .int .i64 (k : Nat) /\ x = ((numsOf key).take k).foldl Bw.sipTake (Bw.sipBegin s) /\ x.ok /\ RowAt 1 natK64 (fun b => b ≠ B) W q (numsOf key) /\ w.heap.size <= B /\
    W.heap[B]? = some (.cells #[.int .u64 (x.1 : Nat), .int .u64 (x.2.1 : Nat), .int .u64 (x.2.2.1 : Nat), .int .u64 (x.2.2.2 : Nat)] 136 (0, 0)) /\ Below w.heap.size w W
set_option maxRecDepth 100000 in
set_option maxHeartbeats 2000000 in
theorem hash05_any {s : List UInt8} {key : Bw.Bytes} (hs : s.length = 16) (hl : key.length <= 1048576) (w : World) :
    Calls Tryz.prog 37 #[seedV s, .string ⟨key.toArray⟩] w fun e w' => e = .returned (.int .u64 (Bw.sipHash s key : Nat)) /\ Below w.heap.size w w' := by
  obtain ⟨W0, hW0⟩ : ∃ W0, w.alloc (.cells (seedL s).toArray 22) = W0 := ⟨_, rfl⟩
  have hB0 : Below w.heap.size w W0 := by rw [<- hW0]; exact (Below.refl _ _).alloc (Nat.le_refl _) _
  have hr1 : W0.rangeAt w.heap.size 0 (seedL s) := by rw [<- hW0]; exact seed_in16
  have hs0 : w.heap.size < W0.heap.size := by rw [<- hW0]; simp
  have HW0 := Lib.hid hW0; have HB0 := Lib.hid hB0; have HR1 := Lib.hid hr1; have HS := Lib.hid hs; have HS0 := Lib.hid hs0
  have CB := Lib.hid (fun W => begin05_any hs W)
  have CN := Lib.hid (fun W => numbers05_any hl W)
  have hbo := Bw.sipBegin_ok s
  obtain ⟨b0, hb0⟩ : ∃ b0, Bw.sipBegin s = b0 := ⟨_, rfl⟩
  rw [hb0] at CB hbo
  have HBG := Lib.hid hb0
  obtain ⟨z0, z1, z2, z3⟩ := b0
  simp only [sipV] at CB
  have HBO := Lib.hid hbo
  rw [hash_nums]
  have HNS := Lib.hid (nums_small key)
  have hnl : (numsOf key).length <= 1048576 := by
    have key2 : ∀ l : Bw.Bytes, 8 * (nums l).1.length <= l.length := by
      intro l
      induction hn : l.length using Nat.strongRecOn generalizing l with
      | _ n ih =>
        by_cases h : 8 <= l.length
        · rw [nums_ge h]
          have h1 := ih (l.drop 8).length (by rw [List.length_drop]; omega) (l.drop 8) rfl
          rw [List.length_drop] at h1
          simp only [List.length_cons]
          omega
        · rw [nums_lt (by omega)]; simp
    have := key2 key
    unfold numsOf
    rw [List.length_append, List.length_singleton]
    omega
  have HNL := Lib.hid hnl
  simp only [seedV_is]
  clear hW0 hB0 hr1 hs hl hbo hb0 hs0 hnl
  go_enter Tryz.func37, Tryz.ntmps37
  go_wp2_with (first
    | (rw [HW0.out]; (refine wpl_load_16 (x := .tmp 2) rfl rfl (b := w.heap.size) rfl HS.out HR1.out ?_; simp only [Act.put, List.setIfInBounds_toArray, List.set_cons_zero, List.set_cons_succ]))
    | (go_at_call 63; (with_reducible refine (CB.out _).mono ?_); rintro e w1 ⟨rfl, hb1⟩))
  obtain ⟨W2, hW2⟩ : ∃ W2, w1.alloc (.cells #[.int .u64 (z0 : Nat), .int .u64 (z1 : Nat), .int .u64 (z2 : Nat), .int .u64 (z3 : Nat)] 136) = W2 := ⟨_, rfl⟩
  have hb12 : Below w1.heap.size w1 W2 := by rw [<- hW2]; exact (Below.refl _ _).alloc (Nat.le_refl _) _
  have hbk : W2.heap[w1.heap.size]? = some (.cells #[.int .u64 (z0 : Nat), .int .u64 (z1 : Nat), .int .u64 (z2 : Nat), .int .u64 (z3 : Nat)] 136 (0, 0)) := by rw [<- hW2]; exact heap_alloc_new w1 _
  have hb1w := HB0.out.trans (hb1.mono HB0.out.size)
  have hb2w := hb1w.trans (hb12.mono hb1w.size)
  rw [hW2]
  refine (CN.out W2).mono ?_
  rintro e w3 ⟨q, rfl, hq, hb3⟩
  have H0 : Hid (HashR5 s key q w1.heap.size w (.int .i64 0) w3) := Lib.hid ⟨0, (z0, z1, z2, z3), Nat.zero_le _, rfl, HBG.out.symm, HBO.out, hq.move goodNat64 (Moves.weaken fun b hb _ => by have := heap_lt hbk; omega), hb1w.size, (hb3.block _ (heap_lt hbk)).trans hbk, hb2w.trans (hb3.mono hb2w.size)⟩
  obtain ⟨Q, cq, rfl⟩ := hq.form
  clear hb1 hW2 hb12 hbk hb1w hb2w hq hb3 CB CN HW0 HB0 HR1 HS0
  go_wp2_with fail
  go_loopw [13] (HashR5 s key (.slice Q (numsOf key).length cq) w1.heap.size w) (fun i _ => (numsOf key).length - (intOf i).toNat)
  case atStart => exact H0.out
  case round =>
    obtain ⟨k, x, hk, rfl, hx, hok, hq, hBw, hbk, hB⟩ := hrel
    by_cases hlt : k < (numsOf key).length
    · have hsm := HNS.out _ (List.getElem_mem hlt)
      have htk : (numsOf key).take (k + 1) = (numsOf key).take k ++ [(numsOf key)[k]] := take_succ_snoc hlt
      obtain ⟨b, o, cs, rfl, hd, hc⟩ := hq.get (List.getElem?_eq_getElem hlt)
      obtain rfl := hd
      have c0 := (hc 0 _ rfl).2
      simp only [Nat.mul_one, Nat.add_zero] at c0
      have h0 : (0 : Int) <= (k : Int) := by omega
      have h1 : (k : Int) < ((numsOf key).length : Int) := by omega
      generalize (numsOf key)[k] = m at *
      have CT := fun W => take05_any hok hsm W
      have hok2 := Bw.sipTake_ok hok hsm
      have hx2 : Bw.sipTake x m = ((numsOf key).take (k + 1)).foldl Bw.sipTake (Bw.sipBegin s) := by rw [htk, List.foldl_append, <- hx]; rfl
      obtain ⟨y, hy⟩ : ∃ y, Bw.sipTake x m = y := ⟨_, rfl⟩
      rw [hy] at CT hok2 hx2
      obtain ⟨y0, y1, y2, y3⟩ := y
      obtain ⟨x0, x1, x2, x3⟩ := x
      simp only [sipV] at CT
      dsimp only at hbk
      have CT := Lib.hid CT
      have HX2 := Lib.hid hx2; have HOK2 := Lib.hid hok2; have HQ := Lib.hid hq; have HBW := Lib.hid hBw; have HBK := Lib.hid hbk; have HB := Lib.hid hB; have HLT := Lib.hid hlt
      obtain ⟨⟨k0, k1, k2, k3⟩, f0, f1, f2, f3⟩ := cells4 hbk
      clear hx hok hq hBw hbk hB hlt hsm htk hok2 hx2 hy hc H0 hk
      go_wp2_with fail
      refine (CT.out _).mono ?_
      rintro e w5 ⟨rfl, hb5⟩
      have hbk5 := (hb5.block _ (heap_lt HBK.out)).trans HBK.out
      clear k0 k1 k2 k3 f0 f1 f2 f3
      obtain ⟨⟨k0, k1, k2, k3⟩, f0, f1, f2, f3⟩ := cells4 hbk5
      have H5 := Lib.hid (set4 (x0 := .int .u64 (y0 : Nat)) (x1 := .int .u64 (y1 : Nat)) (x2 := .int .u64 (y2 : Nat)) (x3 := .int .u64 (y3 : Nat)) hbk5)
      go_wp2
      rw [int_wrap HLT.out HNL.out]
      refine ⟨⟨k + 1, (y0, y1, y2, y3), HLT.out, rfl, HX2.out, HOK2.out, (HQ.out.move (ok' := fun b => b ≠ w1.heap.size) goodNat64 (Moves.below hb5)).move goodNat64 (fun b hb _ => ⟨hb, set4_other hb⟩), HBW.out, H5.out, ?_⟩, by have := HLT.out; simp only [intOf]; omega⟩
      have hbb := HB.out.trans (hb5.mono HB.out.size)
      have hbw := HBW.out
      clear k0 k1 k2 k3 f0 f1 f2 f3 hb5 hbk5 H5
      exact gB5
    · obtain rfl : k = (numsOf key).length := by omega
      rw [List.take_length] at hx
      have CE := fun W => end05_any hok W
      have HX := Lib.hid (congrArg Bw.sipEnd hx)
      obtain ⟨x0, x1, x2, x3⟩ := x
      simp only [sipV] at CE
      dsimp only at hbk
      have CE := Lib.hid CE
      have HB := Lib.hid hB
      obtain ⟨⟨k0, k1, k2, k3⟩, f0, f1, f2, f3⟩ := cells4 hbk
      clear hx hok hq hBw hbk hB hlt hk H0
      go_wp2_with fail
      refine (CE.out _).mono ?_
      rintro e w5 ⟨rfl, hb5⟩
      clear k0 k1 k2 k3 f0 f1 f2 f3
      go_wp2
      go_ret
      exact ⟨by rw [<- HX.out]; rfl, HB.out.trans (hb5.mono HB.out.size)⟩
end Go.Proofs.YtadaoceidkagfaaGreatDoor
