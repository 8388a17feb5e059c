
import Derived.Test.YtehkjnmnbplcoaaDoorRef4
import Derived.Test.YtehkjnmnbplcoaaDoorBwAll
namespace Go.Proofs.YtehkjnmnbplcoaaDoor
open Go.RowKit Go.Bw

def HasRel (l : List Nat) (x : Nat) (w : World) (i : Value) (wr : World) : Prop :=
  ∃ k : Nat, k ≤ l.length ∧ i = .int .i64 k ∧ x ∉ l.take k ∧ wr = w

set_option maxRecDepth 100000 in
set_option maxHeartbeats 400000 in
theorem rhas_any {ok : Nat → Prop} {l : List Nat} {x : Nat} {v : Value} {w : World} (hl : l.length ≤ 1048576) (hr : NatsAt ok w v l) :
    Calls Tryd.prog 87 #[v, .int .i64 (x : Nat)] w fun e w' => e = .returned (.bool (decide (x ∈ l))) ∧ w' = w := by
  obtain ⟨A, c, rfl⟩ := hr.form
  have HL := Lib.hid hl
  have HR := Lib.hid hr
  have H0 : Hid (HasRel l x w (.int .i64 0) w) := Lib.hid ⟨0, Nat.zero_le _, rfl, by simp, rfl⟩
  clear hl hr
  go_enter Tryd.func87, Tryd.ntmps87
  go_wp2_with fail
  go_loopw [5] (HasRel l x w) (fun i _ => l.length - (intOf i).toNat)
  case atStart => exact H0.out
  case round =>
    obtain ⟨k, hk, rfl, hx, rfl⟩ := hrel
    have HX := Lib.hid hx
    clear hx H0
    by_cases hlt : k < l.length
    · obtain ⟨b, o, cs, rfl, rfl, hc⟩ := HR.out.get (List.getElem?_eq_getElem hlt)
      have d0 := (hc 0 _ rfl).2
      simp only [Nat.mul_one, Nat.add_zero, encN] at d0
      have h0 : (0 : Int) ≤ (k : Int) := by omega
      have h1 : (k : Int) < (l.length : Int) := by omega
      have hs : l.take (k + 1) = l.take k ++ [l[k]] := take_succ_snoc hlt
      have hmem : l[k] ∈ l := List.getElem_mem hlt
      generalize l[k] = y at *
      have HS := Lib.hid hs; have HMEM := Lib.hid hmem
      clear hs hmem hc
      by_cases hxy : y = x
      · subst hxy
        go_wp2
        go_ret
        exact ⟨by rw [decide_eq_true HMEM.out]; rfl, rfl⟩
      · have hb : ((y : Int) == (x : Int)) = false := beq_eq_false_iff_ne.2 (by omega)
        have HX2 : Hid (x ∉ l.take (k + 1)) := Lib.hid (by rw [HS.out, List.mem_append]; rintro (h | h); exact HX.out h; simp at h; exact hxy h.symm)
        clear hxy
        go_wp2
        exact ⟨⟨k + 1, hlt, int_succ hlt HL.out, HX2.out, rfl⟩, less_succ hlt HL.out⟩
    · obtain rfl : k = l.length := by omega
      rw [List.take_length] at HX
      clear hlt
      go_wp2
      go_ret
      exact ⟨by rw [decide_eq_false HX.out]; rfl, rfl⟩

def ListRel (m : Nat) (w : World) (r v i : Value) (wr : World) : Prop :=
  ∃ k : Nat, k ≤ 32 ∧ r = .int .u32 (m / 2 ^ k : Nat) ∧ i = .int .i64 k ∧ OwnAt 3 1 natK (fun k => w.heap.size ≤ k) wr w.heap.size v ((List.range k).filter (m.testBit ·)) ∧ Below w.heap.size w wr

theorem infoI : (Tryd.prog.info? 3).map (fun i => (i.zero, i.size, i.bytes)) = some (some (.int .i64 0), 1, 8) := by kernel_rfl

theorem wp_natapp {rest : List Oper} {a : Act} {Q : Exit → Act → World → Prop} {o : Oper} {ops : Array Oper} {w0 w : World} {s x : Nat} {v : Value} {xs : List Nat} {base : Nat}
    (hgd : o.guard = none) (ho : o.op = .call { callee := .builtin .append, args := #[.tmp s, .tmp x], argTypes := #[42, 42] })
    (hs : a.eval (.tmp s) = v) (hown : OwnAt 3 1 natK (fun k => w0.heap.size ≤ k) w base v xs)
    (y : Nat) (e' : TypeId) (hx : a.eval (.tmp x) = .slice (some ⟨w.heap.size, 0, none⟩) 1 1) (hw : w0.heap.size ≤ w.heap.size) (hl : xs.length ≤ 4194304) (hbase : base ≤ w.heap.size)
    (h : ∀ v' w', OwnAt 3 1 natK (fun k => w0.heap.size ≤ k) w' base v' (xs ++ [y]) → Below base w w' → w.grownBy w' v.ownBlock → wpList Tryd.prog ops Q rest (a.put o.dst v') w') :
    wpList Tryd.prog ops Q (o :: rest) a (w.alloc (.cells #[.int .i64 (y : Nat)] e')) := by
  obtain ⟨i0, hi, hz0, hz1, hz2⟩ := info_parts infoI
  exact wp_app1 goodNat hgd (.tmp s) (.tmp x) 42 ho base 3 i0 _ 8 Tryd.underlying42 hi hz0 hz1 hz2 rfl (by decide) v xs hs hown y _ e' hx rfl (fun k hk => Nat.le_trans hw hk) (by omega) (by decide) hbase fun v' w' h1 h2 _ h4 => h v' w' h1 h2 h4

def NumRel (m : Nat) (w : World) (r i : Value) (wr : World) : Prop :=
  ∃ p : Nat, p ≤ 32 ∧ r = .int .u32 (m / 2 ^ p : Nat) ∧ i = .int .i64 ((p : Int) - 1) ∧ wr = w

set_option maxRecDepth 100000 in
set_option maxHeartbeats 400000 in
theorem rnumber_any {ok : Nat → Prop} {m : Nat} {v : Value} {w : World} (hm : m < 4294967296) (hr : NatsAt ok w v (Bw.bitsOf m)) :
    Calls Tryd.prog 50 #[v] w fun e w' => e = .returned (.int .u32 (m : Nat)) ∧ w' = w := by
  have H0 : Hid (NumRel m w (.int .u32 0) (.int .i64 31) w) := Lib.hid ⟨32, Nat.le_refl _, by rw [Nat.div_eq_of_lt hm]; rfl, rfl, rfl⟩
  have HR := Lib.hid hr
  have HLEN : Hid ((Bw.bitsOf m).length ≤ 1048576) := Lib.hid (Nat.le_trans (List.length_filter_le _ _) (by simp))
  clear hr
  go_enter Tryd.func50, Tryd.ntmps50
  go_wp2_with fail
  go_loopw [3, 4] (NumRel m w) (fun _ i _ => (intOf i + 1).toNat)
  case atStart => exact H0.out
  case round =>
    obtain ⟨p, hp, rfl, rfl, rfl⟩ := hrel
    cases p with
    | zero =>
      have h1 : ¬ (0 : Int) ≤ ((0 : Nat) : Int) - 1 := by omega
      go_wp2
      go_ret
      exact ⟨by simp, rfl⟩
    | succ p =>
      have hdiv : m / 2 ^ (p + 1) = m / 2 ^ p / 2 := by rw [Nat.pow_succ, Nat.div_div_eq_div_mul]
      have hbit : m.testBit p = decide (m / 2 ^ p % 2 = 1) := Nat.testBit_eq_decide_div_mod_eq
      have hlt4 : m / 2 ^ p < 4294967296 := Nat.lt_of_le_of_lt (Nat.div_le_self _ _) hm
      have hmem : p ∈ Bw.bitsOf m ↔ m.testBit p = true := by
        unfold Bw.bitsOf
        rw [List.mem_filter, List.mem_range]
        exact ⟨fun h => h.2, fun h => ⟨by omega, h⟩⟩
      have e1 : (((p + 1 : Nat) : Int) - 1) = (p : Int) := by omega
      rw [e1, hdiv]
      generalize hrr : m / 2 ^ p = r at *
      have HRR := Lib.hid hrr
      clear hrr
      have h0 : (0 : Int) ≤ (p : Int) := by omega
      have CH := Lib.hid (rhas_any (x := p) HLEN.out HR.out)
      have hq : IntKind.u32.wrap (((r / 2 : Nat) : Int) * 2) = ((r / 2 * 2 : Nat) : Int) := by rw [IntKind.wrap_u32]; omega
      have hq1 : IntKind.u32.wrap (((r / 2 * 2 : Nat) : Int) + 1) = ((r / 2 * 2 + 1 : Nat) : Int) := by rw [IntKind.wrap_u32]; omega
      have hw1 : IntKind.i64.wrap ((p : Int) - 1) = (p : Int) - 1 := by rw [IntKind.wrap_i64]; omega
      by_cases hb : r % 2 = 1
      · have hd : decide (p ∈ Bw.bitsOf m) = true := decide_eq_true (hmem.2 (by rw [hbit]; exact decide_eq_true hb))
        have HE : Hid (r / 2 * 2 + 1 = r) := Lib.hid (by omega)
        clear hmem hbit hdiv hb
        go_wp2_with fail
        refine CH.out.mono ?_
        rintro e w1 ⟨rfl, rfl⟩
        rw [hd]
        go_wp2
        exact ⟨⟨p, by omega, by rw [HRR.out, show (r : Int) / 2 * 2 + 1 = (r : Int) by have := HE.out; omega], rfl, rfl⟩, by simp only [intOf]; omega⟩
      · have hd : decide (p ∈ Bw.bitsOf m) = false := decide_eq_false (fun h => hb (by have := hmem.1 h; rw [hbit] at this; exact of_decide_eq_true this))
        have HE : Hid (r / 2 * 2 = r) := Lib.hid (by omega)
        clear hmem hbit hdiv hb
        go_wp2_with fail
        refine CH.out.mono ?_
        rintro e w1 ⟨rfl, rfl⟩
        rw [hd]
        go_wp2
        exact ⟨⟨p, by omega, by rw [HRR.out, show (r : Int) / 2 * 2 = (r : Int) by have := HE.out; omega], rfl, rfl⟩, by simp only [intOf]; omega⟩
end Go.Proofs.YtehkjnmnbplcoaaDoor
