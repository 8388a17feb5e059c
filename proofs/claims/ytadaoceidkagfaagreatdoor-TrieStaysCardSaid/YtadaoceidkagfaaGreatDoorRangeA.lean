
import Derived.Test.YtadaoceidkagfaaGreatDoorBwAll
import Derived.Test.YtadaoceidkagfaaGreatDoorBits1
import Derived.RangeFuncNested
import Derived.RangeFuncBound
import Derived.RangeFuncCalls
import Derived.RangeFuncLeaves
import Derived.Shelf.Abstract
import Derived.Shelf.RegionOpen
import Derived.WalkKit
import Derived.OwnWalkIn
import Derived.TacticsInMore
import Derived.LoopNIn
import Derived.LoopIn
import Derived.RangeFuncFrom
import Derived.Deep.RegionHeld
/- The lowest number of a set; the set without it. Plain. -/
namespace Bw
def low : Nat -> Nat -> Nat
  | 0, _ => 0
  | n + 1, x => if x % 2 = 1 then 0 else 1 + low n (x / 2)
theorem and_half (a b : Nat) : (a &&& b) / 2 = (a / 2) &&& (b / 2) := by
  apply Nat.eq_of_testBit_eq
  intro i
  rw [Nat.testBit_div_two, Nat.testBit_and, Nat.testBit_and, Nat.testBit_div_two, Nat.testBit_div_two]
theorem and_odd (a b : Nat) : (a &&& b) % 2 = (a % 2) * (b % 2) := by
  have h : (a &&& b).testBit 0 = (a.testBit 0 && b.testBit 0) := Nat.testBit_and ..
  simp only [Nat.testBit_zero] at h
  generalize a &&& b = c at h ⊢
  rcases Nat.mod_two_eq_zero_or_one a with ha | ha <;> rcases Nat.mod_two_eq_zero_or_one b with hb | hb <;> rcases Nat.mod_two_eq_zero_or_one c with hc | hc <;> rw [ha, hb, hc] at h ⊢ <;> revert h <;> decide
theorem low_lt : ∀ n x, 0 < x -> x < 2 ^ n -> low n x < n
  | 0, x, h0, h => by simp at h; omega
  | n + 1, x, h0, h => by
    simp only [low]
    split
    · omega
    · have := low_lt n (x / 2) (by omega) (by rw [Nat.pow_succ] at h; omega)
      omega
theorem and_rest : ∀ n y, y < 2 ^ n -> y &&& (2 ^ n - 1 - y) = 0
  | 0, y, h => by simp at h; subst h; rfl
  | n + 1, y, h => by
    have ih := and_rest n (y / 2) (by rw [Nat.pow_succ] at h; omega)
    rw [Nat.pow_succ] at h ⊢
    generalize 2 ^ n = p at *
    have h1 : (y &&& (p * 2 - 1 - y)) / 2 = 0 := by
      rw [and_half, <- ih]; congr 1; omega
    have h2 : (y &&& (p * 2 - 1 - y)) % 2 = 0 := by
      rw [and_odd]
      rcases Nat.mod_two_eq_zero_or_one y with hy | hy
      · rw [hy]; simp
      · have : (p * 2 - 1 - y) % 2 = 0 := by omega
        rw [this, Nat.mul_zero]
    omega
theorem and_neg : ∀ n x, 0 < x -> x < 2 ^ n -> x &&& (2 ^ n - x) = 2 ^ low n x
  | 0, x, h0, h => by simp at h; omega
  | n + 1, x, h0, h => by
    simp only [low]
    split
    · rename_i hx
      have hr := and_rest n (x / 2) (by rw [Nat.pow_succ] at h; omega)
      rw [Nat.pow_zero]
      rw [Nat.pow_succ] at h ⊢
      generalize 2 ^ n = p at *
      have h1 : (x &&& (p * 2 - x)) / 2 = 0 := by rw [and_half, <- hr]; congr 1; omega
      have h2 : (x &&& (p * 2 - x)) % 2 = 1 := by
        rw [and_odd, hx, show (p * 2 - x) % 2 = 1 by omega]
      omega
    · rename_i hx
      have ih := and_neg n (x / 2) (by omega) (by rw [Nat.pow_succ] at h; omega)
      rw [Nat.pow_add 2 1 (low n (x / 2)), Nat.pow_one]
      rw [Nat.pow_succ] at h ⊢
      generalize 2 ^ n = p at *
      generalize 2 ^ low n (x / 2) = r at *
      have h1 : (x &&& (p * 2 - x)) / 2 = r := by rw [and_half, <- ih]; congr 1; omega
      have h2 : (x &&& (p * 2 - x)) % 2 = 0 := by
        rw [and_odd, show x % 2 = 0 by omega]; simp
      omega
def bitsN (n x : Nat) : List Nat := (List.range n).filter (x.testBit ·)
theorem bitsN_succ (n x : Nat) : bitsN (n + 1) x = (if x % 2 = 1 then [0] else []) ++ (bitsN n (x / 2)).map (· + 1) := by
  have e : (fun i => x.testBit i) ∘ Nat.succ = fun i => (x / 2).testBit i := by funext i; simp [Nat.testBit_succ]
  unfold bitsN
  rw [List.range_succ_eq_map, List.filter_cons, List.filter_map, e, Nat.testBit_zero]
  by_cases h : x % 2 = 1
  · rw [if_pos (by simpa using h), if_pos h]; rfl
  · rw [if_neg (by simpa using h), if_neg h]; rfl
theorem and_pred (x : Nat) (h : x % 2 = 0) (h0 : 0 < x) : (x &&& (x - 1)) % 2 = 0 /\ (x &&& (x - 1)) / 2 = x / 2 &&& (x / 2 - 1) := by
  constructor
  · rw [and_odd, h]; simp
  · rw [and_half]; congr 1; omega
theorem bitsN_step : ∀ n x, 0 < x -> x < 2 ^ n -> bitsN n x = low n x :: bitsN n (x &&& (x - 1))
  | 0, x, h0, h => by simp at h; omega
  | n + 1, x, h0, h => by
    rw [bitsN_succ, bitsN_succ]
    simp only [low]
    by_cases hx : x % 2 = 1
    · rw [if_pos hx, if_pos hx]
      have h1 : (x &&& (x - 1)) % 2 = 0 := by rw [and_odd, show (x - 1) % 2 = 0 by omega]; simp
      have h2 : (x &&& (x - 1)) / 2 = x / 2 := by
        rw [and_half, show (x - 1) / 2 = x / 2 by omega, Nat.and_self]
      rw [if_neg (by omega), h2]; rfl
    · obtain ⟨h1, h2⟩ := and_pred x (by omega) h0
      rw [if_neg hx, if_neg hx, if_neg (by omega), h2]
      rw [bitsN_step n (x / 2) (by omega) (by rw [Nat.pow_succ] at h; omega)]
      simp only [List.nil_append, List.map_cons]
      rw [Nat.add_comm 1]
theorem bitsOf_step (x : Nat) (h0 : 0 < x) (h : x < 4294967296) : bitsOf x = low 32 x :: bitsOf (x &&& (x - 1)) := bitsN_step 32 x h0 h
theorem bitsOf_zero : bitsOf 0 = [] := by decide
theorem pred_lt (x : Nat) (h0 : 0 < x) : x &&& (x - 1) < x := by have : x &&& (x - 1) <= x - 1 := Nat.and_le_right; omega
def tab : List Nat := [0, 1, 28, 2, 29, 14, 24, 3, 30, 22, 20, 15, 25, 17, 4, 8, 31, 27, 13, 23, 21, 19, 16, 7, 26, 12, 18, 6, 11, 5, 10, 9]
theorem tab_at : ∀ t : Fin 32, 2 ^ t.val * 125613361 % 4294967296 / 134217728 < 32 /\ tab[2 ^ t.val * 125613361 % 4294967296 / 134217728]? = some t.val := by decide +kernel
end Bw
namespace Go.Proofs.YtadaoceidkagfaaGreatDoor
open Go.RowKit Go.Bw
def Tab (w : World) : Prop := ∀ i t, Bw.tab[i]? = some t -> w.cell? ⟨2, i, none⟩ = some (.int .u8 (t : Nat))
theorem Tab.pos {w : World} (h : Tab w) : 2 < w.heap.size := by
  have := World.block_lt_of_cell? w _ (h 0 0 rfl)
  exact this
theorem Tab.below {n : Nat} {w w' : World} (h : Tab w) (h0 : 2 < n) (hB : Below n w w') : Tab w' := fun i t ht => (hB.cell (p := ⟨2, i, none⟩) h0).trans (h i t ht)
set_option maxRecDepth 100000 in
set_option maxHeartbeats 400000 in
theorem tz_any (x : Nat) (h0 : 0 < x) (hx : x < 4294967296) (w : World) (hT : Tab w) :
    Calls Tryz.prog 132 #[.int .u32 (x : Nat)] w fun e w' => e = .returned (.int .i64 (Bw.low 32 x : Nat)) /\ w' = w := by
  have hlow := Bw.low_lt 32 x h0 hx
  have hneg : IntKind.u32.wrap (-(x : Int)) = ((4294967296 - x : Nat) : Int) := by rw [IntKind.wrap_u32]; omega
  have hand : bits .and .u32 (x : Int) ((4294967296 - x : Nat) : Int) = ((2 ^ Bw.low 32 x : Nat) : Int) := by
    rw [and_u32 x _ hx (by omega)]; congr 1; exact Bw.and_neg 32 x h0 hx
  have hmul : IntKind.u32.wrap (((2 ^ Bw.low 32 x : Nat) : Int) * 125613361) = ((2 ^ Bw.low 32 x * 125613361 % 4294967296 : Nat) : Int) := by
    rw [IntKind.wrap_u32]; generalize 2 ^ Bw.low 32 x = y; omega
  obtain ⟨ht1, ht2⟩ := Bw.tab_at ⟨Bw.low 32 x, hlow⟩
  simp only at ht1 ht2
  have hc := hT _ _ ht2
  generalize Bw.low 32 x = t at *
  generalize hz : 2 ^ t * 125613361 % 4294967296 = z at *
  generalize ((2 ^ t : Nat) : Int) = y at *
  rw [IntKind.wrap_u32] at hneg hmul
  have hd : (z : Int) / 134217728 = ((z / 134217728 : Nat) : Int) := (Int.natCast_ediv z 134217728).symm
  have hE : bits .and .u32 (x : Int) (-(x : Int) % 4294967296) * 125613361 % 4294967296 / 134217728 = ((z / 134217728 : Nat) : Int) := by rw [hneg, hand, hmul, hd]
  have hc : w.cell? ⟨2, (bits .and .u32 (x : Int) (-(x : Int) % 4294967296) * 125613361 % 4294967296 / 134217728).toNat, none⟩ = some (.int .u8 (t : Nat)) := by rw [hE, Int.toNat_natCast]; exact hc
  have hE0 : 0 <= bits .and .u32 (x : Int) (-(x : Int) % 4294967296) * 125613361 % 4294967296 / 134217728 := by rw [hE]; omega
  have hE1 : bits .and .u32 (x : Int) (-(x : Int) % 4294967296) * 125613361 % 4294967296 / 134217728 < 32 := by rw [hE]; omega
  have hw : IntKind.i64.wrap (t : Int) = (t : Int) := by rw [IntKind.wrap_i64]; omega
  have hne : ((x : Int) == 0) = false := by rw [beq_eq_false_iff_ne]; omega
  clear hneg hand hmul hz ht2 hE ht1 hT hd
  go_enter Tryz.func132, Tryz.ntmps132
  go_wp2
  go_ret
  exact ⟨rfl, rfl⟩
open Go.RowKit Go.Bw Go.Shelf
attribute [local go_sem] Oper.semAt_some
theorem all_in (n m : Nat) (w : World) :
    CallsIn Fence.wide n Tryz.prog 103 #[.int .u32 (m : Nat)] w fun e w' => e = .returned (.func (.func 131) #[] #[.pointer (some ⟨w.heap.size, 0, none⟩)]) /\ w' = w.alloc (.cells #[.int .u32 (m : Nat)] 85) := by
  refine callsIn_of_wp Tryz.func103 rfl trivial ?_ rfl
  simp only [Tryz.ntmps103, List.size_toArray, List.length_cons, List.length_nil, Nat.reduceAdd, Nat.reduceSub, Array.replicate_succ, Array.replicate_zero, List.push_toArray, List.append_toArray, List.nil_append, List.cons_append]
  gi_wp2
  go_ret
  exact ⟨rfl, rfl⟩
def leftOf : Value -> Nat
  | .int _ x => x.toNat
  | _ => 0
set_option maxRecDepth 100000 in
set_option maxHeartbeats 1000000 in
theorem all1_in (n : Nat) (hn : 1 <= n) (l Bn n₀ : Nat) (m : Nat) (hm : m < 4294967296) (h0 : 2 < n₀) (J Jx : List Nat -> World -> Prop)
    (hY : ∀ pre x W, J pre W -> pre.length < (Bw.bitsOf m).length -> YieldAt Fence.wide (n - 1) Tryz.prog l #[.int .i64 (x : Nat)] W fun e W' =>
      (e = .returned (.bool true) /\ J (pre ++ [x]) W' /\ Below n₀ W W') \/ (e = .returned (.bool false) /\ Jx (pre ++ [x]) W'))
    (W : World) (hBn : W.cell? ⟨Bn, 0, none⟩ = some (.int .u32 (m : Nat))) (hT : Tab W) (hJ0 : J [] W) :
    CallsIn Fence.wide n Tryz.prog 131 #[.func (.yield l) #[] #[], .pointer (some ⟨Bn, 0, none⟩)] W fun e W' => (∃ v, e = .returned v) /\
      ((∃ ys, ys = Bw.bitsOf m /\ J ys W') \/ (∃ pre, pre <+: Bw.bitsOf m /\ Jx pre W')) := by
  refine callsIn_of_wp Tryz.func131 rfl trivial ?_ rfl
  simp only [Tryz.ntmps131, List.size_toArray, List.length_cons, List.length_nil, Nat.reduceAdd, Nat.reduceSub, Array.replicate_succ, Array.replicate_zero, List.push_toArray, List.append_toArray, List.nil_append, List.cons_append]
  gi_wp2
  gi_loopw [3] (fun p wr => ∃ (pre : List Nat) (x : Nat), p = .int .u32 (x : Nat) /\ x < 4294967296 /\ Bw.bitsOf m = pre ++ Bw.bitsOf x /\ J pre wr /\ Tab wr)
    (fun p _ => leftOf p)
  case atStart =>
    exact ⟨[], m, rfl, hm, rfl, hJ0, hT⟩
  case round =>
    obtain ⟨pre, x, rfl, hx, hb, hJs, hTs⟩ := hrel
    rcases Nat.eq_zero_or_pos x with rfl | hpos
    · gi_wp2
      go_end0
      exact ⟨⟨_, rfl⟩, .inl ⟨pre, by rw [hb, Bw.bitsOf_zero, List.append_nil], hJs⟩⟩
    · have hst := Bw.bitsOf_step x hpos hx
      have hlt := Bw.pred_lt x hpos
      rw [hst] at hb
      obtain ⟨fn, tmps, assign, body, hy, hR⟩ := hY pre (Bw.low 32 x) wr hJs (by rw [hb]; simp)
      have hne : ((x : Int) == 0) = false := by rw [beq_eq_false_iff_ne]; omega
      have C := Lib.hid (tz_any x hpos hx wr hTs)
      clear hst hY
      have HB := Lib.hid hb
      clear hb
      gi_wp2_with (refine ⟨trivial, ?_⟩; gi_at_call 132; refine (callsIn_wide.2 C.out).mono ?_; rintro e w' ⟨rfl, rfl⟩)
      refine hR.mono ?_
      rintro e W3 (⟨rfl, hJ3, hk3⟩ | ⟨rfl, hJx3⟩)
      · gi_wp2
        have he : bits .and .u32 (x : Int) ((x : Int) - 1) = ((x &&& (x - 1) : Nat) : Int) := by
          rw [show (x : Int) - 1 = ((x - 1 : Nat) : Int) by omega, and_u32 x _ hx (by omega)]
        rw [he]
        refine ⟨⟨pre ++ [Bw.low 32 x], _, rfl, by omega, by rw [HB.out]; simp, hJ3, hTs.below h0 hk3⟩, ?_⟩
        simp only [leftOf]
        omega
      · gi_wp2
        refine bodyPost_ret (results_none rfl _ _ _) rfl ?_
        exact ⟨⟨_, rfl⟩, .inr ⟨pre ++ [Bw.low 32 x], ⟨Bw.bitsOf (x &&& (x - 1)), by rw [HB.out]; simp⟩, hJx3⟩⟩
theorem all_stops (n : Nat) (hn : 1 <= n) (Bn n₀ m : Nat) (hm : m < 4294967296) (h0 : 2 < n₀) (w : World) (hBn : Bn < w.heap.size)
    (hc : w.cell? ⟨Bn, 0, none⟩ = some (.int .u32 (m : Nat))) (hT : Tab w) :
    SeqStopsK Fence.wide n Tryz.prog 131 #[.pointer (some ⟨Bn, 0, none⟩)] (fun x : Nat => #[Value.int .i64 (x : Nat)]) (Below n₀) (fun ys => ys = Bw.bitsOf m) (fun pre => pre <+: Bw.bitsOf m) (Bw.bitsOf m).length w := fun l J Jx W hW _ _ hY hJ0 =>
  all1_in n hn l Bn n₀ m hm h0 J Jx hY W ((hW.cell (p := ⟨Bn, 0, none⟩) hBn).trans hc) (hT.below hT.pos hW) hJ0
open Go.RowKit Go.Bw Go.Shelf
attribute [local go_sem] Oper.semAt_some
theorem cell_boxL {W : World} {B : Nat} {v : Value} {t : TypeId} (h : W.heap[B]? = some (.cells #[v] t (0, 0))) : W.cell? ⟨B, 0, none⟩ = some v /\ W.frozen? ⟨B, 0, none⟩ = false := by
  constructor <;> simp [World.cell?, World.frozen?, h]
theorem cell_newL (W : World) (v : Value) (t : TypeId) : (W.alloc (.cells #[v] t)).cell? ⟨W.heap.size, 0, none⟩ = some v /\ (W.alloc (.cells #[v] t)).frozen? ⟨W.heap.size, 0, none⟩ = false :=
  cell_boxL (World.alloc_heap_new W _)
theorem cell_allocL {W : World} {a : Addr} {v : Value} (o : Obj) (h : W.cell? a = some v) : (W.alloc o).cell? a = some v := cell_kept h (World.grownBy_alloc W o none) (fun r e => by cases e)
theorem frozen_allocL {W : World} {a : Addr} {v : Value} (o : Obj) (h : W.cell? a = some v) (hf : W.frozen? a = false) : (W.alloc o).frozen? a = false := (frozen_kept h (World.grownBy_alloc W o none) (fun r e => by cases e)).trans hf
def NthI (w : World) (k : Nat) (pre : List Nat) (W : World) : Prop :=
  pre.length <= k /\ W.cell? ⟨w.heap.size, 0, none⟩ = some (.int .i64 ((k - pre.length : Nat) : Int)) /\ W.frozen? ⟨w.heap.size, 0, none⟩ = false /\
  W.cell? ⟨w.heap.size + 1, 0, none⟩ = some (.int .i64 0) /\ W.frozen? ⟨w.heap.size + 1, 0, none⟩ = false /\ W.cell? ⟨w.heap.size + 2, 0, none⟩ = some (.bool false) /\ W.frozen? ⟨w.heap.size + 2, 0, none⟩ = false
def NthX (w : World) (k : Nat) (c : Code) (pre : List Nat) (W : World) : Prop :=
  c = .ret /\ ∃ pre' x, pre = pre' ++ [x] /\ pre'.length = k /\ W.cell? ⟨w.heap.size + 1, 0, none⟩ = some (.int .i64 (x : Nat)) /\ W.cell? ⟨w.heap.size + 2, 0, none⟩ = some (.bool true)
set_option maxRecDepth 100000 in
set_option maxHeartbeats 2000000 in
theorem nth_any (m k x : Nat) (hm : m < 4294967296) (hx : (Bw.bitsOf m)[k]? = some x) (w : World) (hT : Tab w) :
    Calls Tryz.prog 146 #[.int .u32 (m : Nat), .int .i64 (k : Nat)] w fun e w' => e = .returned (.tuple #[.int .i64 (x : Nat), .bool true]) /\ Below w.heap.size w w' := by
  refine (callsIn_wide (n := 3)).1 ?_
  have hk : k < (Bw.bitsOf m).length := (List.getElem?_eq_some_iff.1 hx).1
  have hk32 : k < 32 := by have h1 := Bw.length_bitsOf m; have h2 := Bw.ones_le 32 m; omega
  have hpos := hT.pos
  refine callsIn_of_wp_marks Tryz.func146 rfl trivial ?_ rfl
  simp only [Tryz.ntmps146, List.size_toArray, List.length_cons, List.length_nil, Nat.reduceAdd, Nat.reduceSub, Array.replicate_succ, Array.replicate_zero, List.push_toArray, List.append_toArray, List.nil_append, List.cons_append]
  gi_wp2_with (refine ⟨trivial, ?_⟩; gi_at_call 103; refine (all_in _ m _).mono ?_; rintro e w' ⟨rfl, rfl⟩)
  have c0 := cell_newL w (.int .i64 (k : Nat)) 3
  have c1 := cell_newL (w.alloc (.cells #[.int .i64 (k : Nat)] 3)) (.int .i64 0) 3
  have c2 := cell_newL ((w.alloc (.cells #[.int .i64 (k : Nat)] 3)).alloc (.cells #[.int .i64 0] 3)) (.bool false) 4
  have c3 := cell_newL (((w.alloc (.cells #[.int .i64 (k : Nat)] 3)).alloc (.cells #[.int .i64 0] 3)).alloc (.cells #[.bool false] 4)) (.int .u32 (m : Nat)) 85
  simp only [World.size_alloc] at c1 c2 c3
  have hB0 : Below w.heap.size w ((((w.alloc (.cells #[.int .i64 (k : Nat)] 3)).alloc (.cells #[.int .i64 0] 3)).alloc (.cells #[.bool false] 4)).alloc (.cells #[.int .u32 (m : Nat)] 85)) :=
    ((((Below.refl _ w).alloc (Nat.le_refl _) _).alloc (by simp) _).alloc (by simp; omega) _).alloc (by simp; omega) _
  refine wpIn_rangeFunc_ownF (w := ((((w.alloc (.cells #[.int .i64 (k : Nat)] 3)).alloc (.cells #[.int .i64 0] 3)).alloc (.cells #[.bool false] 4)).alloc (.cells #[.int .u32 (m : Nat)] 85))) rfl (by omega) (gf := 131) (lb := #[.pointer (some ⟨w.heap.size + 1 + 1 + 1, 0, none⟩)]) rfl trivial (enters_of Tryz.func131 (by kernel_rfl) rfl)
    (all_stops _ (by omega) (w.heap.size + 1 + 1 + 1) w.heap.size m hm hpos _ (by simp) c3.1 (hT.below hpos hB0)) belowK_t (belowK_b (by simp; omega)) (Below.refl _ _) (fun _ => rfl)
    (fun pre W => NthI w k pre W /\ Below w.heap.size w W)
    (fun c pre W => NthX w k c pre W /\ Below w.heap.size w W)
    (OwnFrom.and (Own.from (fun s A B row hs hg hr => ⟨hs.1, cell_kept hs.2.1 hg hr, (frozen_kept hs.2.1 hg hr).trans hs.2.2.1, cell_kept hs.2.2.2.1 hg hr, (frozen_kept hs.2.2.2.1 hg hr).trans hs.2.2.2.2.1, cell_kept hs.2.2.2.2.2.1 hg hr, (frozen_kept hs.2.2.2.2.2.1 hg hr).trans hs.2.2.2.2.2.2⟩) _) (ownFrom_below (Nat.le_refl _) (by simp; omega)))
    (fun c => OwnFrom.and (Own.from (fun s A B row hs hg hr => by
      obtain ⟨h1, p, y, h2, h3, h4, h5⟩ := hs
      exact ⟨h1, p, y, h2, h3, cell_kept h4 hg hr, cell_kept h5 hg hr⟩) _) (ownFrom_below (Nat.le_refl _) (by simp; omega)))
    ⟨⟨Nat.zero_le _, cell_allocL _ (cell_allocL _ (cell_allocL _ c0.1)), frozen_allocL _ (cell_allocL _ (cell_allocL _ c0.1)) (frozen_allocL _ (cell_allocL _ c0.1) (frozen_allocL _ c0.1 c0.2)), cell_allocL _ (cell_allocL _ c1.1), frozen_allocL _ (cell_allocL _ c1.1) (frozen_allocL _ c1.1 c1.2), cell_allocL _ c2.1, frozen_allocL _ c2.1 c2.2⟩, hB0⟩
    (fun y => { tmps := #[.int .u32 (m : Nat), .int .i64 (k : Nat), undef, .pointer (some ⟨w.heap.size, 0, none⟩), .pointer (some ⟨w.heap.size + 1, 0, none⟩), .pointer (some ⟨w.heap.size + 1 + 1, 0, none⟩), .int .i64 (y : Nat), .int .u32 (m : Nat), .func (.func 131) #[] #[.pointer (some ⟨w.heap.size + 1 + 1 + 1, 0, none⟩)], .int .i64 (y : Nat), undef, undef, undef, undef, undef], defers := [] }) ?assign ?body ?done ?stop
  case assign =>
    intro l x W K hK
    gi_wp2
    exact hK
  case body =>
    rintro l pre y W ⟨⟨hle, hck, hfk, hcr, hfr, hcb, hfb⟩, hB⟩ _
    by_cases hz : pre.length = k
    · have h0 : k - pre.length = 0 := by omega
      rw [h0] at hck
      have hck : W.cell? ⟨w.heap.size, 0, none⟩ = some (.int .i64 0) := hck
      gi_wp2
      exact ⟨(KeepsOthers.setCell _ _ _).trans (KeepsOthers.setCell _ _ _), ⟨rfl, pre, y, rfl, hz,
        (World.cell?_setCell_far _ _ _ _ (by simp)).trans (World.cell?_setCell_same' _ _ _ (by rw [hcr]; rfl)),
        World.cell?_setCell_same' _ _ _ (by rw [World.cell?_setCell_far _ _ _ _ (by simp), hcb]; rfl)⟩,
        (hB.setCell (p := ⟨w.heap.size + 1, 0, none⟩) (by simp) _).setCell (p := ⟨w.heap.size + 1 + 1, 0, none⟩) (by simp; omega) _⟩
    · have hne : (((k - pre.length : Nat) : Int) == 0) = false := by rw [beq_eq_false_iff_ne]; omega
      gi_wp2
      have hs : ((k - pre.length : Nat) : Int) - 1 = ((k - (pre ++ [y]).length : Nat) : Int) := by simp; omega
      rw [hs]
      exact ⟨KeepsOthers.setCell _ _ _, (Below.refl w.heap.size W).setCell (p := ⟨w.heap.size, 0, none⟩) (Nat.le_refl _) _,
        ⟨by simp; omega, World.cell?_setCell_same' _ _ _ (by rw [hck]; rfl), by rw [World.frozen?_setCell]; exact hfk,
         (World.cell?_setCell_far _ _ _ _ (by simp)).trans hcr, by rw [World.frozen?_setCell]; exact hfr,
         (World.cell?_setCell_far _ _ _ _ (by simp)).trans hcb, by rw [World.frozen?_setCell]; exact hfb⟩,
        hB.setCell (p := ⟨w.heap.size, 0, none⟩) (Nat.le_refl _) _⟩
  case done =>
    rintro D ys W hD rfl ⟨⟨hle, _⟩, _⟩ _
    omega
  case stop =>
    rintro D c pre W hD hpre ⟨⟨rfl, pre', y, rfl, hlen, hcr, hcb⟩, hB⟩ hK
    gi_wp2
    refine ⟨by simp, .inl ⟨_, _, rfl, run_takeDeferred hK, ?_⟩⟩
    have k1 := cell_kept hcr (grownBy_putObj' _ D (.deferred none)) (fun r e => by cases e; exact ⟨_, hK, rfl⟩)
    have k2 := cell_kept hcb (grownBy_putObj' _ D (.deferred none)) (fun r e => by cases e; exact ⟨_, hK, rfl⟩)
    have hy : y = x := by
      have h1 := hpre.getElem (i := k) (by simp; omega)
      obtain ⟨h2, h3⟩ := List.getElem?_eq_some_iff.1 hx
      rw [<- h3, <- h1, List.getElem_append_right (by omega)]
      simp
    subst hy
    refine ⟨.tuple #[.int .i64 (y : Nat), .bool true], ?_, rfl, hB.trans (belowK_b (w := w) (Nat.le_refl _) W D _ _ (by simp at hD; omega) hK rfl rfl)⟩
    simp [results, Tryz.results146, go_sem, k1, k2]
end Go.Proofs.YtadaoceidkagfaaGreatDoor
