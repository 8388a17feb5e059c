
import Derived.Test.YtkblhilaeecdlaaDoorRef4
import Derived.Test.YtkblhilaeecdlaaDoorBwAll
namespace Go.Proofs.YtkblhilaeecdlaaDoor
open Go.RowKit Go.Bw

def HasRel (l : List Nat) (x : Nat) (w : World) (i : Value) (wr : World) : Prop :=
  ∃ k : Nat, k ≤ l.length ∧ i = .int .i64 k ∧ x ∉ l.take k ∧ wr = w

def ListRel (m : Nat) (w : World) (r v i : Value) (wr : World) : Prop :=
  ∃ k : Nat, k ≤ 32 ∧ r = .int .u32 (m / 2 ^ k : Nat) ∧ i = .int .i64 k ∧ OwnAt 3 1 natK (fun k => w.heap.size ≤ k) wr w.heap.size v ((List.range k).filter (m.testBit ·)) ∧ Below w.heap.size w wr

theorem infoI : (Tryd.prog.info? 3).map (fun i => (i.zero, i.size, i.bytes)) = some (some (.int .i64 0), 1, 8) := by kernel_rfl

theorem wp_natapp {rest : List Oper} {a : Act} {Q : Exit → Act → World → Prop} {o : Oper} {ops : Array Oper} {w0 w : World} {s x : Nat} {v : Value} {xs : List Nat} {base : Nat}
    (hgd : o.guard = none) (ho : o.op = .call { callee := .builtin .append, args := #[.tmp s, .tmp x], argTypes := #[29, 29] })
    (hs : a.eval (.tmp s) = v) (hown : OwnAt 3 1 natK (fun k => w0.heap.size ≤ k) w base v xs)
    (y : Nat) (e' : TypeId) (hx : a.eval (.tmp x) = .slice (some ⟨w.heap.size, 0, none⟩) 1 1) (hw : w0.heap.size ≤ w.heap.size) (hl : xs.length ≤ 4194304) (hbase : base ≤ w.heap.size)
    (h : ∀ v' w', OwnAt 3 1 natK (fun k => w0.heap.size ≤ k) w' base v' (xs ++ [y]) → Below base w w' → w.grownBy w' v.ownBlock → wpList Tryd.prog ops Q rest (a.put o.dst v') w') :
    wpList Tryd.prog ops Q (o :: rest) a (w.alloc (.cells #[.int .i64 (y : Nat)] e')) := by
  obtain ⟨i0, hi, hz0, hz1, hz2⟩ := info_parts infoI
  exact wp_app1 goodNat hgd (.tmp s) (.tmp x) 29 ho base 3 i0 _ 8 Tryd.underlying29 hi hz0 hz1 hz2 rfl (by decide) v xs hs hown y _ e' hx rfl (fun k hk => Nat.le_trans hw hk) (by omega) (by decide) hbase fun v' w' h1 h2 _ h4 => h v' w' h1 h2 h4

set_option maxRecDepth 100000 in
set_option maxHeartbeats 400000 in
theorem rlist_any {m : Nat} {w : World} (hm : m < 4294967296) :
    Calls Tryd.prog 17 #[.int .u32 (m : Nat)] w (Gives w fun q w' => NatsAt (fun k => w.heap.size ≤ k) w' q (Bw.bitsOf m)) := by
  have H0 : Hid (ListRel m w (.int .u32 (m : Nat)) (.slice none 0 0) (.int .i64 0) w) := Lib.hid ⟨0, Nat.zero_le _, by simp, rfl, OwnAt.nil, Below.refl _ _⟩
  go_enter Tryd.func17, Tryd.ntmps17
  go_wp2_with fail
  go_loopw [0, 3, 4] (ListRel m w) (fun _ _ i _ => 32 - (intOf i).toNat)
  case atStart => exact H0.out
  case round =>
    obtain ⟨k, hk, rfl, rfl, hown, hB⟩ := hrel
    have hdiv : m / 2 ^ (k + 1) = m / 2 ^ k / 2 := by rw [Nat.pow_succ, Nat.div_div_eq_div_mul]
    have hbit : m.testBit k = decide (m / 2 ^ k % 2 = 1) := Nat.testBit_eq_decide_div_mod_eq
    have hlt4 : m / 2 ^ k < 4294967296 := Nat.lt_of_le_of_lt (Nat.div_le_self _ _) hm
    have hlen : ((List.range k).filter (m.testBit ·)).length ≤ 32 := Nat.le_trans (List.length_filter_le _ _) (by simp; exact hk)
    have hs : (List.range (k + 1)).filter (m.testBit ·) = (List.range k).filter (m.testBit ·) ++ (if m.testBit k then [k] else []) := by
      rw [List.range_succ, List.filter_append]
      by_cases h : m.testBit k = true
      · simp [h]
      · simp [Bool.eq_false_iff.2 h]
    by_cases hlt : k < 32
    · have h1 : (k : Int) < 32 := by omega
      generalize hr : m / 2 ^ k = r at *
      have HD := Lib.hid hdiv
      have HO : Hid (∀ W, Below wr.heap.size wr W → OwnAt 3 1 natK (fun k => w.heap.size ≤ k) W w.heap.size _ ((List.range k).filter (m.testBit ·))) := Lib.hid fun W hW => hown.move goodNat (Moves.below hW)
      have HB := Lib.hid hB
      have HLEN := Lib.hid hlen
      have hr0 : (0 : Int) ≤ (r : Int) := by omega
      have hq : IntKind.u32.wrap ((r : Int) / 2) = ((r / 2 : Nat) : Int) := by rw [IntKind.wrap_u32]; omega
      clear hdiv hown hB hlen hr
      by_cases hb : r % 2 = 1
      · have HS : Hid ((List.range (k + 1)).filter (m.testBit ·) = (List.range k).filter (m.testBit ·) ++ [k]) := Lib.hid (by rw [hs, hbit]; simp [hb])
        have hbi : (r : Int) % 2 = 1 := by omega
        clear hs hbit hb
        go_wp2_with (at_builtin; go_loud (refine wp_natapp rfl rfl rfl (HO.out _ (by (repeat (first | exact Below.refl _ _ | with_reducible assumption | refine Below.drew ?_ | refine b_drewN ?_ _ | (refine Below.alloc ?_ (by simp) _) | (refine Below.alloc ?_ (by simp; omega) _))))) k 3 (by go_simp) HB.out.size (by have := HLEN.out; omega) HB.out.size ?_; intro v3 w3 hown3 hb3 hg3))
        exact ⟨⟨k + 1, hlt, by rw [HD.out, Int.natCast_ediv]; rfl, by rw [Int.natCast_add]; rfl, by rw [HS.out]; exact hown3, HB.out.trans hb3⟩, by simp only [intOf]; omega⟩
      · have HS : Hid ((List.range (k + 1)).filter (m.testBit ·) = (List.range k).filter (m.testBit ·)) := Lib.hid (by rw [hs, hbit]; simp [hb])
        have hbi : (r : Int) % 2 = 0 := by omega
        clear hs hbit hb
        go_wp2
        exact ⟨⟨k + 1, hlt, by rw [HD.out, Int.natCast_ediv]; rfl, by rw [Int.natCast_add]; rfl, by rw [HS.out]; exact HO.out _ (Below.refl _ _), HB.out⟩, by simp only [intOf]; omega⟩
    · obtain rfl : k = 32 := by omega
      have HOWN := Lib.hid hown
      clear hown hs hlen hlt4 hbit hdiv
      go_wp2
      go_ret
      exact ⟨_, rfl, HOWN.out.row goodNat, hB⟩

def NumRel (m : Nat) (w : World) (r i : Value) (wr : World) : Prop :=
  ∃ p : Nat, p ≤ 32 ∧ r = .int .u32 (m / 2 ^ p : Nat) ∧ i = .int .i64 ((p : Int) - 1) ∧ wr = w

end Go.Proofs.YtkblhilaeecdlaaDoor
