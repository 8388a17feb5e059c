
import Derived.Test.YtehkjnmnbplcoaaGreatDoorEnds
import Derived.Test.YtehkjnmnbplcoaaGreatDoorPSame
namespace Go.Proofs.YtehkjnmnbplcoaaGreatDoor
open Go.RowKit Go.Bw

/-! ### how much is gone through -/
theorem need_le {wt : Bw.N × Nat → Nat} (hw : ∀ x, 1 ≤ wt x) (n : Bw.N) : ∀ lv, n.need wt lv ≤ 33 * (vol wt (n.visits lv) * vol wt (n.visits lv)) := by
  refine Bw.N.ind (P := fun n => ∀ lv, n.need wt lv ≤ 33 * (vol wt (n.visits lv) * vol wt (n.visits lv))) ?_ ?_ ?_ n
  · intro h p lv
    simp only [Bw.N.need, Bw.N.visits, vol, List.map_cons, List.map_nil, List.sum_cons, List.sum_nil, Nat.add_zero]
    have := hw (.leaf h p, lv)
    have := Nat.le_mul_of_pos_right (wt (.leaf h p, lv)) this
    omega
  · intro h t lv
    simp only [Bw.N.need, Bw.N.visits, vol, List.map_cons, List.map_nil, List.sum_cons, List.sum_nil, Nat.add_zero]
    have := hw (.bucket h t, lv)
    have := Nat.le_mul_of_pos_right (wt (.bucket h t, lv)) this
    omega
  · intro m kids ih lv
    have hk : Bw.N.needL wt (lv + 1) kids ≤ 33 * (vol wt (Bw.N.visitsL (lv + 1) kids) * vol wt (Bw.N.visitsL (lv + 1) kids)) := by
      have : ∀ ks : List Bw.N, (∀ k ∈ ks, k ∈ kids) → Bw.N.needL wt (lv + 1) ks ≤ 33 * (vol wt (Bw.N.visitsL (lv + 1) ks) * vol wt (Bw.N.visitsL (lv + 1) ks)) := by
        intro ks
        induction ks with
        | nil => intro _; simp [Bw.N.needL]
        | cons k r ihr =>
          intro hm
          have h1 := ih k (hm k (by simp)) (lv + 1)
          have h2 := ihr fun x hx => hm x (by simp [hx])
          simp only [Bw.N.needL, Bw.N.visitsL, vol_append]
          generalize vol wt (k.visits (lv + 1)) = a at *
          generalize vol wt (Bw.N.visitsL (lv + 1) r) = b at *
          have e : (a + b) * (a + b) = a * a + b * b + 2 * (a * b) := by rw [Nat.add_mul, Nat.mul_add, Nat.mul_add, Nat.mul_comm b a]; omega
          omega
      exact this kids fun _ h => h
    simp only [Bw.N.need, Bw.N.visits, vol_cons]
    have h0 := hw (.branch m kids, lv)
    generalize wt (.branch m kids, lv) = a at *
    generalize vol wt (Bw.N.visitsL (lv + 1) kids) = b at *
    have e : (a + b) * (a + b) = a * a + b * b + 2 * (a * b) := by rw [Nat.add_mul, Nat.mul_add, Nat.mul_add, Nat.mul_comm b a]; omega
    have h1 := Nat.le_mul_of_pos_right a h0
    have h2 := Nat.le_mul_of_pos_left b h0
    omega

/-- what is gone through in a layout: few, and none lies deep -/
theorem lays_visits {level : Nat} {n : Bw.N} {S : Bw.En → Prop} (h : Bw.Lays level n S) : ∀ l : List Bw.En, Bw.Unlike l → (∀ e, e ∈ l ↔ S e) → level ≤ 13 → (∃ r, ∀ e, S e → e.1 % 32 ^ level = r) → (∀ e, S e → e.1 < 18446744073709551616) →
    1 ≤ l.length ∧ (∀ x ∈ n.visits level, x.2 ≤ 13) ∧ (n.visits level).length ≤ l.length * (14 - level) := by
  induction h with
  | @leaf level h p S hs =>
    intro l hu hm hlv _ _
    have h1 : 1 ≤ l.length := List.length_pos_iff.2 (List.ne_nil_of_mem ((hm (h, p)).2 ((hs _).2 rfl)))
    refine ⟨h1, ?_, ?_⟩
    · intro x hx; simp only [Bw.N.visits, List.mem_singleton] at hx; subst hx; exact hlv
    · simp only [Bw.N.visits, List.length_singleton]; exact Nat.mul_pos h1 (by omega)
  | @bucket level h t S he hr h2 hs =>
    intro l hu hm hlv _ _
    obtain ⟨a, b, r, hl⟩ := Bw.two_of_length h2
    have h1 : 1 ≤ l.length := List.length_pos_iff.2 (List.ne_nil_of_mem ((hm (h, a)).2 ((hs _).2 ⟨rfl, by rw [hl]; simp⟩)))
    refine ⟨h1, ?_, ?_⟩
    · intro x hx; simp only [Bw.N.visits, List.mem_singleton] at hx; subst hx; exact hlv
    · simp only [Bw.N.visits, List.length_singleton]; exact Nat.mul_pos h1 (by omega)
  | @branch level m kids S hm32 hl h2 hc hk ih =>
    intro l hu hm hlv hr hb
    have hlv12 := Bw.lays_branch_level (Bw.Lays.branch hm32 hl h2 hc hk) hlv hr hb
    obtain ⟨a, b, ha, _⟩ := h2
    have h1 : 1 ≤ l.length := List.length_pos_iff.2 (List.ne_nil_of_mem ((hm a).2 ha))
    have key : ∀ (j : Nat) (hj : j < kids.length), (∀ x ∈ kids[j].visits (level + 1), x.2 ≤ 13) ∧ (kids[j].visits (level + 1)).length ≤ (Bw.partOf level ((Bw.bitsOf m)[j]'(by omega)) l).length * (13 - level) := by
      intro j hj
      have hjb : j < (Bw.bitsOf m).length := by omega
      have hp := ih j _ _ (List.getElem?_eq_getElem hjb) (List.getElem?_eq_getElem hj) (Bw.partOf level ((Bw.bitsOf m)[j]) l) (hu.filter _) (fun e => by rw [Bw.mem_partOf, hm]) (by omega)
        (by
          obtain ⟨r, hr⟩ := hr
          obtain ⟨e0, he0⟩ := (hk j _ _ (List.getElem?_eq_getElem hjb) (List.getElem?_eq_getElem hj)).some
          exact ⟨e0.1 % 32 ^ (level + 1), fun e he => Bw.chunk_inj ((hr e he.1).trans (hr e0 he0.1).symm) (he.2.trans he0.2.symm)⟩)
        (fun e he => hb e he.1)
      exact ⟨hp.2.1, by have := hp.2.2; rwa [show 14 - (level + 1) = 13 - level by omega] at this⟩
    have hsum : ∀ k, k ≤ kids.length → (∀ x ∈ Bw.N.visitsL (level + 1) (kids.take k), x.2 ≤ 13) ∧ (Bw.N.visitsL (level + 1) (kids.take k)).length ≤ (((Bw.bitsOf m).take k).map fun c => (Bw.partOf level c l).length).sum * (13 - level) := by
      intro k
      induction k with
      | zero => intro _; simp [Bw.N.visitsL]
      | succ k ihk =>
        intro hk'
        have hlt : k < kids.length := by omega
        obtain ⟨i1, i2⟩ := ihk (by omega)
        obtain ⟨k1, k2⟩ := key k hlt
        rw [take_succ_snoc hlt, take_succ_snoc (show k < (Bw.bitsOf m).length by omega), Bw.N.visitsL_append]
        refine ⟨fun x hx => ?_, ?_⟩
        · rcases List.mem_append.1 hx with hx | hx
          · exact i1 x hx
          · simp only [Bw.N.visitsL, List.append_nil] at hx; exact k1 x hx
        · simp only [List.length_append, Bw.N.visitsL, List.append_nil, List.map_append, List.map_cons, List.map_nil, List.sum_append, List.sum_cons, List.sum_nil, Nat.add_zero, Nat.add_mul]
          omega
    obtain ⟨s1, s2⟩ := hsum kids.length (Nat.le_refl _)
    rw [List.take_length] at s1 s2
    rw [hl, List.take_length] at s2
    have hall := Bw.sum_parts (fun e : Bw.En => Bw.chunkAt e.1 level) l (Bw.bitsOf m) (Bw.nodup_bitsOf m) (fun e he => hc e ((hm e).1 he))
    have hall' : ((Bw.bitsOf m).map fun c => (Bw.partOf level c l).length).sum = l.length := hall
    rw [hall'] at s2
    refine ⟨h1, fun x hx => ?_, ?_⟩
    · simp only [Bw.N.visits] at hx
      rcases List.mem_cons.1 hx with rfl | hx
      · exact hlv
      · exact s1 x hx
    · simp only [Bw.N.visits, List.length_cons]
      rw [show 14 - level = (13 - level) + 1 by omega, Nat.mul_succ]
      omega

def wtE (x : Bw.N × Nat) : Nat := 1 + x.1.held.length
theorem vol_wtE (l : List (Bw.N × Nat)) : vol wtE l = l.length + (Bw.heldOf l).length := by
  induction l with
  | nil => rfl
  | cons a r ih => rw [vol_cons, ih]; simp only [wtE, Bw.heldOf, List.flatMap_cons, List.length_append, List.length_cons]; omega
theorem vol_one (l : List (Bw.N × Nat)) : vol (fun _ => 1) l = l.length := by
  induction l with
  | nil => rfl
  | cons a r ih => rw [vol_cons, ih]; simp only [List.length_cons]; omega

theorem fit_visits (n : Bw.N) : ∀ lv, n.fit → ∀ x ∈ n.visits lv, x.1.fit := by
  refine Bw.N.ind (P := fun n => ∀ lv, n.fit → ∀ x ∈ n.visits lv, x.1.fit) ?_ ?_ ?_ n
  · intro h p lv hf x hx; simp only [Bw.N.visits, List.mem_singleton] at hx; subst hx; exact hf
  · intro h t lv hf x hx; simp only [Bw.N.visits, List.mem_singleton] at hx; subst hx; exact hf
  · intro m kids ih lv hf x hx
    have hf' := hf
    simp only [Bw.N.fit, Bw.N.fitL_iff] at hf'
    simp only [Bw.N.visits, visitsL_flat, List.mem_cons, List.mem_flatMap, List.mem_map] at hx
    rcases hx with rfl | ⟨o, ⟨k, hk, rfl⟩, hx⟩
    · exact hf
    · exact ih k hk (lv + 1) (hf'.2.2 k hk) x hx

theorem held_count (n : Bw.N) : ∀ lv, (Bw.heldOf (n.visits lv)).length = n.count := by
  refine Bw.N.ind (P := fun n => ∀ lv, (Bw.heldOf (n.visits lv)).length = n.count) ?_ ?_ ?_ n
  · intro h p lv; simp [Bw.heldOf, Bw.N.visits, Bw.N.held, Bw.N.count]
  · intro h t lv; simp [Bw.heldOf, Bw.N.visits, Bw.N.held, Bw.N.count, Bw.T.length_list]
  · intro m kids ih lv
    have : ∀ ks : List Bw.N, (∀ k ∈ ks, k ∈ kids) → (Bw.heldOf (Bw.N.visitsL (lv + 1) ks)).length = Bw.N.countL ks := by
      intro ks
      induction ks with
      | nil => intro _; rfl
      | cons k r ihr =>
        intro hm
        simp only [Bw.N.visitsL, Bw.heldOf_append, List.length_append, Bw.N.countL, ih k (hm k (by simp)) (lv + 1), ihr fun x hx => hm x (by simp [hx])]
    have h := this kids fun _ h => h
    simp only [Bw.N.count, Bw.N.visits]
    rw [← h]
    simp [Bw.heldOf, Bw.N.held]

/-- a node that is gone through with ease -/
structure Slim (n : Bw.N) : Prop where
  fit : n.fit
  deep : ∀ x ∈ n.visits 0, x.2 ≤ 100000
  few : vol wtE (n.visits 0) ≤ 100000

theorem Slim.need {n : Bw.N} (h : Slim n) : n.need wtE 0 ≤ 1099511627776 := by
  have h1 := need_le (wt := wtE) (fun x => by unfold wtE; omega) n 0
  have h2 := Nat.mul_le_mul h.few h.few
  omega
theorem Slim.need1 {n : Bw.N} (h : Slim n) : n.need (fun _ => 1) 0 ≤ 1099511627776 := by
  have h1 := need_le (wt := fun _ => 1) (fun _ => Nat.le_refl _) n 0
  have h2 : vol (fun _ => 1) (n.visits 0) ≤ 100000 := by have := h.few; rw [vol_wtE] at this; rw [vol_one]; omega
  have h3 := Nat.mul_le_mul h2 h2
  omega

theorem shape_ok {w : World} (hT : Tab w) : EachOk 52 (.pointer (some ⟨w.heap.size, 0, none⟩)) w.heap.size w.heap.size 75 1099511627776 (fun _ => 1) (InvShape w w.heap.size) (fun _ => True) where
  enters := enters_of Tryz.func52 (by kernel_rfl) rfl
  pos := hT.pos
  ty := by decide
  low := fun _ _ h => h.low hT
  own := InvRow.own steady_spot
  run := by
    intro pre n lv W nv hi _ hn hv
    have hl : pre.length < 1099511627776 := by rw [vol_one] at hv; omega
    have hn' := hn
    cases n with
    | leaf h p =>
      simp only [NodeAt] at hn'
      obtain ⟨b, _, _, rfl, _⟩ := hn'
      exact shape1_leaf hi hl hn
    | bucket h t =>
      simp only [NodeAt] at hn'
      obtain ⟨b, _, rfl, _⟩ := hn'
      exact shape1_bucket hi hl hn
    | branch m kids =>
      simp only [NodeAt] at hn'
      obtain ⟨b, _, _, _, rfl, _⟩ := hn'
      exact shape1_branch hi hl hn

theorem ends_ok {w : World} (hT : Tab w) : EachOk 56 (.pointer (some ⟨w.heap.size, 0, none⟩)) w.heap.size w.heap.size 31 1099511627776 wtE (InvEnds w w.heap.size) (fun x => x.1.fit) where
  enters := enters_of Tryz.func56 (by kernel_rfl) rfl
  pos := hT.pos
  ty := by decide
  low := fun _ _ h => h.low hT
  own := InvRow.own steady_pair
  run := by
    intro pre n lv W nv hi hf hn hv
    rw [vol_wtE] at hv
    have hn' := hn
    cases n with
    | leaf h p =>
      simp only [NodeAt] at hn'
      obtain ⟨b, _, _, rfl, _⟩ := hn'
      exact ends1_leaf hi (by simp only [wtE, Bw.N.held] at hv; omega) hf hn
    | bucket h t =>
      simp only [NodeAt] at hn'
      obtain ⟨b, _, rfl, _⟩ := hn'
      exact ends1_bucket hi (by simp only [wtE, Bw.N.held] at hv; omega) hf hn
    | branch m kids =>
      simp only [NodeAt] at hn'
      obtain ⟨b, _, _, _, rfl, _⟩ := hn'
      exact ends1_branch hi

theorem onodeL_form {ok : Nat → Prop} {w : World} {v : Value} {o : Option Bw.N} (h : ONodeAt nt ok w v o) : v = .nilIface ∨ ∃ t b, v = .iface t (.pointer (some ⟨b, 0, none⟩)) := by
  cases o with
  | none => exact .inl h
  | some n => exact .inr h.form

set_option maxRecDepth 100000 in
set_option maxHeartbeats 1000000 in
theorem shape_any {ok : Nat → Prop} {nv : Value} {o : Option Bw.N} {w : World} (hn : ONodeAt nt ok w nv o) (hS : ∀ n, o = some n → Slim n) (hT : Tab w) :
    Calls Tryz.prog 25 #[nv] w (Gives w fun q w' => SpotsAt (fun k => w.heap.size ≤ k) w' q (Bw.spotsOf (Bw.visitsO 0 o))) := by
  have hmf : ∀ (fn : Fn) (first cap : Array Value) (w : World), (Instr.makeFunc fn first cap).run Tryz.prog w = .ok (.func fn first cap) w := fun _ _ _ _ => rfl
  obtain ⟨W1, hW1⟩ : ∃ W1, w.alloc (.cells #[.slice none 0 0] 71) = W1 := ⟨_, rfl⟩
  have hB1 : Below w.heap.size w W1 := by rw [← hW1]; (repeat (first | exact Below.refl _ _ | with_reducible assumption | refine Below.drew ?_ | refine b_drewN ?_ _ | (refine Below.alloc ?_ (by first | omega | (simp <;> omega)) _)))
  have hi1 : InvShape w w.heap.size [] W1 := ⟨.slice none 0 0, by rw [← hW1]; exact Boxed.new w _ _, OwnAt.nil, hB1⟩
  have hT1 := hT.below hT.pos hB1
  have CE : Hid (Calls Tryz.prog 51 #[nv, .int .i64 0, .func (Fn.func 52) #[] #[.pointer (some ⟨w.heap.size, 0, none⟩)]] W1 fun e' w' => e' = .returned (.tuple #[]) ∧ InvShape w w.heap.size (Bw.visitsO 0 o) w') := Lib.hid (by
    cases o with
    | none =>
      simp only [ONodeAt] at hn
      subst hn
      refine (leach_nil 0 W1).mono ?_
      rintro e' w' ⟨rfl, hb⟩
      exact ⟨rfl, InvRow.own steady_spot _ W1 w' none hi1 ⟨hb.os, hb.tape, hb.output, hb.size, fun k hk _ => hb.block k hk⟩ (fun r e => by cases e)⟩
    | some n =>
      have hs := hS n rfl
      refine (leach_any (shape_ok hT) n hs.fit nv 0 [] W1 hi1 (NodeAt.move (fun k _ hl => ⟨hl, hB1.block k hl⟩) _ _ hn) (fun x hx => ⟨trivial, hs.deep x hx⟩) (by simp only [vol, List.map_nil, List.sum_nil, Nat.zero_add]; exact hs.need1)).mono ?_
      rintro e' w' ⟨rfl, h1, _⟩
      exact ⟨rfl, by simpa [Bw.visitsO] using h1⟩)
  rcases onodeL_form hn with rfl | ⟨tn, bn, rfl⟩
  all_goals clear hn hS hT hi1 hT1
  all_goals go_enter Tryz.func25, Tryz.ntmps25
  all_goals go_wp2_with fail
  all_goals refine CE.out.mono ?_
  all_goals rintro e w2 ⟨rfl, vo, hbo, hown, hB⟩
  all_goals have c0 := hbo.cell
  all_goals obtain ⟨AO, co, rfl⟩ := (hown.row goodSpot).form
  all_goals have HR := Lib.hid ((hown.row goodSpot).weaken goodSpot (ok' := fun k => w.heap.size ≤ k) (fun k hk => hk.1))
  all_goals have HB := Lib.hid hB
  all_goals clear hown hB hbo
  all_goals go_wp2
  all_goals go_ret
  all_goals exact ⟨_, rfl, HR.out, HB.out⟩

set_option maxRecDepth 100000 in
set_option maxHeartbeats 1000000 in
theorem ends_any {ok : Nat → Prop} {nv : Value} {o : Option Bw.N} {w : World} (hn : ONodeAt nt ok w nv o) (hS : ∀ n, o = some n → Slim n) (hT : Tab w) :
    Calls Tryz.prog 27 #[nv] w (Gives w fun q w' => PairsAt (fun k => w.heap.size ≤ k) w' q (Bw.heldOf (Bw.visitsO 0 o))) := by
  have hmf : ∀ (fn : Fn) (first cap : Array Value) (w : World), (Instr.makeFunc fn first cap).run Tryz.prog w = .ok (.func fn first cap) w := fun _ _ _ _ => rfl
  obtain ⟨W1, hW1⟩ : ∃ W1, w.alloc (.cells #[.slice none 0 0] 23) = W1 := ⟨_, rfl⟩
  have hB1 : Below w.heap.size w W1 := by rw [← hW1]; (repeat (first | exact Below.refl _ _ | with_reducible assumption | refine Below.drew ?_ | refine b_drewN ?_ _ | (refine Below.alloc ?_ (by first | omega | (simp <;> omega)) _)))
  have hi1 : InvEnds w w.heap.size [] W1 := ⟨.slice none 0 0, by rw [← hW1]; exact Boxed.new w _ _, OwnAt.nil, hB1⟩
  have hT1 := hT.below hT.pos hB1
  have CE : Hid (Calls Tryz.prog 51 #[nv, .int .i64 0, .func (Fn.func 56) #[] #[.pointer (some ⟨w.heap.size, 0, none⟩)]] W1 fun e' w' => e' = .returned (.tuple #[]) ∧ InvEnds w w.heap.size (Bw.visitsO 0 o) w') := Lib.hid (by
    cases o with
    | none =>
      simp only [ONodeAt] at hn
      subst hn
      refine (leach_nil 0 W1).mono ?_
      rintro e' w' ⟨rfl, hb⟩
      exact ⟨rfl, InvRow.own steady_pair _ W1 w' none hi1 ⟨hb.os, hb.tape, hb.output, hb.size, fun k hk _ => hb.block k hk⟩ (fun r e => by cases e)⟩
    | some n =>
      have hs := hS n rfl
      refine (leach_any (ends_ok hT) n hs.fit nv 0 [] W1 hi1 (NodeAt.move (fun k _ hl => ⟨hl, hB1.block k hl⟩) _ _ hn) (fun x hx => ⟨fit_visits n 0 hs.fit x hx, hs.deep x hx⟩) (by simp only [vol, List.map_nil, List.sum_nil, Nat.zero_add]; exact hs.need)).mono ?_
      rintro e' w' ⟨rfl, h1, _⟩
      exact ⟨rfl, by simpa [Bw.visitsO] using h1⟩)
  rcases onodeL_form hn with rfl | ⟨tn, bn, rfl⟩
  all_goals clear hn hS hT hi1 hT1
  all_goals go_enter Tryz.func27, Tryz.ntmps27
  all_goals go_wp2_with fail
  all_goals refine CE.out.mono ?_
  all_goals rintro e w2 ⟨rfl, vo, hbo, hown, hB⟩
  all_goals have c0 := hbo.cell
  all_goals obtain ⟨AO, co, rfl⟩ := (hown.row goodPair).form
  all_goals have HR := Lib.hid ((hown.row goodPair).weaken goodPair (ok' := fun k => w.heap.size ≤ k) (fun k hk => hk.1))
  all_goals have HB := Lib.hid hB
  all_goals clear hown hB hbo
  all_goals go_wp2
  all_goals go_ret
  all_goals exact ⟨_, rfl, HR.out, HB.out⟩

theorem slim_len {o : Option Bw.N} (h : ∀ n, o = some n → Slim n) : (Bw.spotsOf (Bw.visitsO 0 o)).length ≤ 1048576 ∧ (Bw.heldOf (Bw.visitsO 0 o)).length ≤ 1048576 := by
  cases o with
  | none => simp [Bw.visitsO, Bw.spotsOf, Bw.heldOf]
  | some n =>
    have := (h n rfl).few
    rw [vol_wtE] at this
    simp only [Bw.visitsO, Bw.spotsOf, List.length_map]
    omega

/-- are two nodes one, in shape and in what they hold? -/
def sameB (a b : Option Bw.N) : Bool := decide (Bw.spotsOf (Bw.visitsO 0 a) = Bw.spotsOf (Bw.visitsO 0 b)) && decide (Bw.heldOf (Bw.visitsO 0 a) = Bw.heldOf (Bw.visitsO 0 b))

set_option maxRecDepth 100000 in
set_option maxHeartbeats 1000000 in
theorem lsame_any {ok ok' : Nat → Prop} {u v : Value} {a b : Option Bw.N} {w : World} (hu : ONodeAt nt ok w u a) (hv : ONodeAt nt ok' w v b) (hSa : ∀ n, a = some n → Slim n) (hSb : ∀ n, b = some n → Slim n) (hT : Tab w) :
    Calls Tryz.prog 12 #[u, v] w fun e w' => e = .returned (.bool (sameB a b)) ∧ Below w.heap.size w w' := by
  have CA := Lib.hid (fun W (hW : Below w.heap.size w W) => shape_any (hu.move (Moves.below hW)) hSa (hT.below hT.pos hW))
  have CB := Lib.hid (fun W (hW : Below w.heap.size w W) => shape_any (hv.move (Moves.below hW)) hSb (hT.below hT.pos hW))
  have DA := Lib.hid (fun W (hW : Below w.heap.size w W) => ends_any (hu.move (Moves.below hW)) hSa (hT.below hT.pos hW))
  have DB := Lib.hid (fun W (hW : Below w.heap.size w W) => ends_any (hv.move (Moves.below hW)) hSb (hT.below hT.pos hW))
  have CQ := Lib.hid (fun ok ok' (W : World) (x y : Value) (h1 : SpotsAt ok W x (Bw.spotsOf (Bw.visitsO 0 a))) (h2 : SpotsAt ok' W y (Bw.spotsOf (Bw.visitsO 0 b))) => speq_any h1 h2 (slim_len hSa).1)
  have CP := Lib.hid (fun ok ok' (W : World) (x y : Value) (h1 : PairsAt ok W x (Bw.heldOf (Bw.visitsO 0 a))) (h2 : PairsAt ok' W y (Bw.heldOf (Bw.visitsO 0 b))) => psame_any h1 h2 (slim_len hSa).2)
  have HS := Lib.hid (show sameB a b = (decide (Bw.spotsOf (Bw.visitsO 0 a) = Bw.spotsOf (Bw.visitsO 0 b)) && decide (Bw.heldOf (Bw.visitsO 0 a) = Bw.heldOf (Bw.visitsO 0 b))) from rfl)
  generalize Bw.spotsOf (Bw.visitsO 0 a) = sa at *
  generalize Bw.spotsOf (Bw.visitsO 0 b) = sb at *
  generalize Bw.heldOf (Bw.visitsO 0 a) = ha at *
  generalize Bw.heldOf (Bw.visitsO 0 b) = hb at *
  generalize hd1 : decide (sa = sb) = d1 at *
  generalize hd2 : decide (ha = hb) = d2 at *
  clear hd1 hd2
  rcases onodeL_form hu with rfl | ⟨ta, ba, rfl⟩ <;> rcases onodeL_form hv with rfl | ⟨tb, bb, rfl⟩ <;> clear hu hv hSa hSb hT
  all_goals cases d1
  all_goals go_enter Tryz.func12, Tryz.ntmps12
  all_goals go_wp2_with (first | (go_at_call 25; (with_reducible refine (CA.out _ (Below.refl _ _)).mono ?_); rintro e w1 ⟨q1, rfl, hq1, hb1⟩; obtain ⟨Q1, e1, rfl⟩ := hq1.form) | (go_at_call 25; (with_reducible refine (CB.out _ hb1).mono ?_); rintro e w2 ⟨q2, rfl, hq2, hb2⟩; obtain ⟨Q2, e2, rfl⟩ := hq2.form; have hB2 := hb1.trans (hb2.mono hb1.size)) | (go_at_call 24; (with_reducible refine (CQ.out _ _ _ _ _ (hq1.move goodSpot (Moves.below hb2)) hq2).mono ?_); rintro e w3 ⟨rfl, hb3⟩; have hB3 := hB2.trans (hb3.mono hB2.size)) | (go_at_call 27; (with_reducible refine (DA.out _ hB3).mono ?_); rintro e w4 ⟨q4, rfl, hq4, hb4⟩; obtain ⟨Q4, e4, rfl⟩ := hq4.form; have hB4 := hB3.trans (hb4.mono hB3.size)) | (go_at_call 27; (with_reducible refine (DB.out _ hB4).mono ?_); rintro e w5 ⟨q5, rfl, hq5, hb5⟩; obtain ⟨Q5, e5, rfl⟩ := hq5.form; have hB5 := hB4.trans (hb5.mono hB4.size)) | (go_at_call 26; (with_reducible refine (CP.out _ _ _ _ _ (hq4.move goodPair (Moves.below hb5)) hq5).mono ?_); rintro e w6 ⟨rfl, hb6⟩; have hB6 := hB5.trans (hb6.mono hB5.size)))
  all_goals go_ret
  all_goals first
    | exact ⟨by rw [HS.out]; rfl, hB6⟩
    | exact ⟨by rw [HS.out]; rfl, hB3⟩
end Go.Proofs.YtehkjnmnbplcoaaGreatDoor
