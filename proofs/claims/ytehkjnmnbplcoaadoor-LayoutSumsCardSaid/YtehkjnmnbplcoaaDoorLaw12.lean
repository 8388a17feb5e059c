/- law17.LayoutSums. -/
import Derived.Test.YtehkjnmnbplcoaaDoorLSame
import Derived.Test.YtehkjnmnbplcoaaDoorPairs
import Derived.Test.YtehkjnmnbplcoaaDoorAw17
import Derived.Test.YtehkjnmnbplcoaaDoorLaw8
import Derived.Test.YtehkjnmnbplcoaaDoorHigh
import Derived.Test.YtehkjnmnbplcoaaDoorBwSums
namespace Go.Proofs.YtehkjnmnbplcoaaDoor
open Go.RowKit Go.Bw

set_option maxRecDepth 100000 in
theorem ncollect_nil (w : World) : Calls Tryd.prog 62 #[.slice none 0 0, .nilIface] w fun e w' => e = .returned (.slice none 0 0) ∧ w' = w := by
  have t1 := @ta_nl; have t2 := @ta_nb; have t3 := @ta_nr
  go_enter Tryd.func62, Tryd.ntmps62
  go_wp2
  go_ret
  exact ⟨rfl, rfl⟩

set_option maxRecDepth 100000 in
theorem nopairs_any (w : World) : Calls Tryd.prog 31 #[.nilIface] w (Gives w fun q _ => ∃ A cap, q = .slice A 0 cap) := by
  have HE := Lib.hid (enters_of Tryd.func64 (by kernel_rfl) rfl)
  go_enter Tryd.func31, Tryd.ntmps31
  go_wp2_with fail
  refine (ncollect_nil w).mono ?_
  rintro e w1 ⟨rfl, rfl⟩
  have CO := Lib.hid (pown_any (ok := AllB) (l := []) (v := .slice none 0 0) (w := w1) (by decide) (fun p hp => by cases hp) RowAt.nil)
  go_wp2_with fail
  refine CO.out.mono ?_
  rintro e w2 ⟨v2, rfl, ⟨g, cap, rfl, hown2⟩, hb2⟩
  have CS := Lib.hid (sortp_any pairsc_any HE.out hown2 (by decide) List.Pairwise.nil)
  have HB2 := Lib.hid hb2
  have HG := Lib.hid (hown2.lt g rfl)
  clear hown2 hb2
  go_wp2_with fail
  refine CS.out.mono ?_
  rintro e w3 ⟨rfl, hown3, hg3⟩
  go_wp2
  go_ret
  exact ⟨_, rfl, ⟨_, cap, rfl⟩, HB2.out.grown hg3 HB2.out.size (fun k e => by cases e; exact HG.out.1)⟩

theorem unlike_two {l : List Bw.En} (h : Bw.Unlike l) {a b : Bw.En} (ha : a ∈ l) (hb : b ∈ l) (hne : a ≠ b) : a.2.1 ≠ b.2.1 := by
  induction l with
  | nil => simp at ha
  | cons x r ih =>
    obtain ⟨h1, h2⟩ := List.pairwise_cons.1 h
    rcases List.mem_cons.1 ha with ea | ha' <;> rcases List.mem_cons.1 hb with eb | hb'
    · exact absurd (ea.trans eb.symm) hne
    · rw [ea]; exact h1 b hb'
    · rw [eb]; exact fun e => h1 a ha' e.symm
    · exact ih h2 ha' hb'

theorem lays_pairs {level : Nat} {n : Bw.N} {S : Bw.En → Prop} (h : Bw.Lays level n S) : (∀ a b, S a → S b → a ≠ b → a.2.1 ≠ b.2.1) →
    (∀ p ∈ n.pairs, ∃ e, S e ∧ e.2 = p) ∧ n.pairs.Pairwise (fun a b => a.1 ≠ b.1) ∧ n.pairs.length = n.count := by
  induction h with
  | @leaf level h p S hs =>
    intro _
    refine ⟨fun q hq => ?_, List.pairwise_singleton _ _, rfl⟩
    simp only [Bw.N.pairs, List.mem_singleton] at hq
    exact ⟨(h, p), (hs _).2 rfl, hq.symm⟩
  | @bucket level h t S he hr h2 hs =>
    intro _
    exact ⟨fun q hq => ⟨(h, q), (hs _).2 ⟨rfl, hq⟩, rfl⟩, List.Pairwise.imp (fun h => Bw.lt_ne h) hr, Bw.T.length_list t⟩
  | @branch level m kids S hm32 hl h2 hc hk ih =>
    intro hu
    have IH : ∀ (j : Nat) (hj : j < kids.length) (hb : j < (Bw.bitsOf m).length), (∀ p ∈ (kids[j]).pairs, ∃ e, (S e ∧ Bw.chunkAt e.1 level = (Bw.bitsOf m)[j]) ∧ e.2 = p) ∧ (kids[j]).pairs.Pairwise (fun a b => a.1 ≠ b.1) ∧ (kids[j]).pairs.length = (kids[j]).count := fun j hj hb =>
      ih j _ _ (List.getElem?_eq_getElem hb) (List.getElem?_eq_getElem hj) fun a b ha hb' hne => hu a b ha.1 hb'.1 hne
    have hat : ∀ k ∈ kids, ∃ (j : Nat) (hj : j < kids.length), kids[j] = k := fun k hk => List.getElem_of_mem hk
    simp only [Bw.N.pairs, pairsL_flat, Bw.N.count]
    refine ⟨fun p hp => ?_, ?_, ?_⟩
    · obtain ⟨k, hk', hpk⟩ := List.mem_flatMap.1 hp
      obtain ⟨j, hj, rfl⟩ := hat k hk'
      obtain ⟨e, he, hep⟩ := (IH j hj (by omega)).1 p hpk
      exact ⟨e, he.1, hep⟩
    · rw [List.pairwise_flatMap]
      refine ⟨fun k hk' => ?_, ?_⟩
      · obtain ⟨j, hj, rfl⟩ := hat k hk'
        exact (IH j hj (by omega)).2.1
      · rw [List.pairwise_iff_getElem]
        intro i j hi hj hij x hx y hy
        obtain ⟨e1, he1, rfl⟩ := (IH i hi (by omega)).1 x hx
        obtain ⟨e2, he2, rfl⟩ := (IH j hj (by omega)).1 y hy
        refine hu e1 e2 he1.1 he2.1 fun e => ?_
        have h1 := he1.2
        rw [e, he2.2] at h1
        have := (List.getElem_inj (Bw.nodup_bitsOf m)).1 h1
        omega
    · have key : ∀ ks : List Bw.N, (∀ k ∈ ks, k ∈ kids) → (ks.flatMap Bw.N.pairs).length = Bw.N.countL ks := by
        intro ks
        induction ks with
        | nil => intro _; rfl
        | cons k r ihr =>
          intro hm
          obtain ⟨j, hj, e⟩ := hat k (hm k (by simp))
          have := (IH j hj (by omega)).2.2
          rw [e] at this
          rw [List.flatMap_cons, List.length_append, this, ihr fun x hx => hm x (by simp [hx]), Bw.N.countL]
      exact key kids fun _ h => h

/-- all pairs of a layout: as many as there are entries -/
theorem lpairs_any {l : List Bw.En} (hE : EnsOk l) {ok : Nat → Prop} {nv : Value} {w : World} (hn : ONodeAt nt ok w nv (Bw.ofO l)) :
    Calls Tryd.prog 31 #[nv] w (Gives w fun q _ => ∃ A cap, q = .slice A (Bw.lasts l).length cap) := by
  have hO := hE.lays
  have hc := ofO_count hE
  cases ho : Bw.ofO l with
  | none =>
    rw [ho] at hn hc
    cases hn
    rw [← hc]
    exact nopairs_any w
  | some n =>
    rw [ho] at hn hO hc
    obtain ⟨_, h2, h3⟩ := lays_pairs hO fun a b ha hb hne => unlike_two hE.lay.unlike ha hb hne
    have hs := hE.slim n ho
    have hcnt : n.count = (Bw.lasts l).length := hc
    refine (npairs_any hs.fit hn (by rw [h3, hcnt]; exact Nat.le_trans (lasts_len l) (Nat.le_trans hE.len (by decide))) h2).mono ?_
    rintro e w1 ⟨q, rfl, ⟨g, cap, rfl, _⟩, hb⟩
    exact ⟨_, rfl, ⟨_, cap, by rw [h3, hcnt]⟩, hb⟩

def SumRel (s : List Bw.Spot) (w : World) (a i : Value) (wr : World) : Prop := ∃ k : Nat, k ≤ s.length ∧ i = .int .i64 (k : Nat) ∧ a = .int .i64 (Bw.leavesOf (s.take k) : Nat) ∧ Below w.heap.size w wr
def KidRel (s : List Bw.Spot) (k lv t1 t2 : Nat) (w : World) (a c i : Value) (wr : World) : Prop :=
  ∃ d x y : Nat, k + 1 + d ≤ s.length ∧ i = .int .i64 (d : Nat) ∧ a = .int .i64 (x : Nat) ∧ c = .int .i64 (y : Nat) ∧ x + (Bw.sums lv (s.drop (k + 1 + d))).1 = t1 ∧ y + (Bw.sums lv (s.drop (k + 1 + d))).2 = t2 ∧ Below w.heap.size w wr

theorem leaves_take {s : List Bw.Spot} {k : Nat} (h : k < s.length) : Bw.leavesOf (s.take (k + 1)) = Bw.leavesOf (s.take k) + if (s[k]).2.1 = 3 then 0 else (s[k]).2.2.2.2 := by
  rw [take_succ_snoc h, Bw.leavesOf_append]
  simp only [Bw.leavesOf, Nat.add_zero]
theorem leaves_le (s : List Bw.Spot) (k : Nat) : Bw.leavesOf (s.take k) ≤ Bw.leavesOf s := by
  conv => rhs; rw [← List.take_append_drop k s, Bw.leavesOf_append]
  omega

set_option maxRecDepth 100000 in
set_option maxHeartbeats 1000000 in
theorem layoutsums_any {l : List Bw.En} {v : Value} {w : World} (hr : EntsAt AllB w v l) (hh : ∀ e ∈ l, e.1 < 18446744073709551616) (hT : Tab w) :
    Calls Tryd.prog 7 #[v] w fun e w' => e = .returned (.bool true) ∧ Below w.heap.size w w' := by
  have CS := Lib.hid (small17_any 40 (by decide) hr)
  obtain ⟨A, c, rfl⟩ := hr.form
  have CAW := Lib.hid (fun (W : World) (hW : Below w.heap.size w W) => awake17_any W (hT.below hT.pos hW))
  cases hsm : smallE l 40 with
  | false =>
    rw [hsm] at CS
    clear hr hT hh
    go_enter Tryd.func7, Tryd.ntmps7
    go_wp2_with fail
    refine CS.out.mono ?_
    rintro e w1 ⟨rfl, hb1⟩
    go_wp2_with fail
    refine (CAW.out _ hb1).mono ?_
    rintro e w2 ⟨rfl, hb2⟩
    go_wp2
    go_ret
    exact ⟨rfl, hb1.trans (hb2.mono hb1.size)⟩
  | true =>
    rw [hsm] at CS
    have hE := smallE_ok (by decide) hsm hh
    have hr0 : EntsAt (fun k => k < w.heap.size) w (.slice A l.length c) l := hr.move goodEnt (Moves.weaken fun k _ h => h)
    have CO := Lib.hid (fun (W : World) (hW : Below w.heap.size w W) => lof_any hE (hr0.move (ok' := fun k => k < w.heap.size) goodEnt (fun k hk _ => ⟨hk, hW.block k hk⟩)) (hT.below hT.pos hW))
    have CCM := Lib.hid (fun (W : World) (hW : Below w.heap.size w W) => lcome_any (Nat.le_trans hE.len (by decide)) hE.bytes (hr0.move (ok' := fun k => k < w.heap.size) goodEnt (fun k hk _ => ⟨hk, hW.block k hk⟩)))
    have CSH := Lib.hid (fun (W : World) (hW : Below w.heap.size w W) (nv : Value) (hn : ONodeAt nt AllB W nv (Bw.ofO l)) => shape_any hn hE.slim (hT.below hT.pos hW))
    have CNP := Lib.hid (fun (W : World) (nv : Value) (hn : ONodeAt nt AllB W nv (Bw.ofO l)) => lpairs_any hE hn)
    have hlen := (slim_len hE.slim).1
    have hok : Bw.OkS (Bw.spotsOf (Bw.visitsO 0 (Bw.ofO l))) ∧ Bw.leavesOf (Bw.spotsOf (Bw.visitsO 0 (Bw.ofO l))) = (Bw.lasts l).length ∧ ∀ x ∈ Bw.spotsOf (Bw.visitsO 0 (Bw.ofO l)), x.1 ≤ 13 ∧ 1 ≤ x.2.2.2.2 ∧ (x.2.1 = 1 ∨ x.2.1 = 2 ∨ x.2.1 = 3) ∧ x.2.2.2.1 < 4294967296 ∧ x.2.2.2.2 ≤ 1000000 := by
      have hO := hE.lays
      have hc := ofO_count hE
      cases ho : Bw.ofO l with
      | none =>
        rw [ho] at hc
        exact ⟨trivial, hc, fun x hx => by simp [Bw.visitsO, Bw.spotsOf] at hx⟩
      | some n =>
        rw [ho] at hO hc
        obtain ⟨h1, h2, h3⟩ := Bw.lays_spots hO
        have h4 := Bw.okS_visits n 0 [] h1 trivial (fun y hy => by cases hy)
        rw [List.append_nil] at h4
        refine ⟨h4, (Bw.leavesOf_visits n 0).trans hc, fun x hx => ?_⟩
        obtain ⟨k1, k2, k3⟩ := h3 x hx
        obtain ⟨_, h5, _⟩ := lays_visits hO (Bw.lasts l) hE.lay.unlike (fun e => Iff.rfl) (by decide) hE.lay.res hE.lay.hash
        obtain ⟨y, hy, rfl⟩ := List.mem_map.1 hx
        have h6 := h5 y hy
        have h7 := Bw.spot_count hy
        have h8 : n.count = (Bw.lasts l).length := hc
        have h9 := Nat.le_trans (lasts_len l) hE.len
        refine ⟨?_, k1, k2, k3, by omega⟩
        obtain ⟨z, zl⟩ := y
        cases z <;> exact h6
    obtain ⟨hok, hlv, hsp⟩ := hok
    have hll : (Bw.lasts l).length ≤ 1000 := Nat.le_trans (lasts_len l) hE.len
    clear hr hr0 hT hsm hE hh
    generalize Bw.spotsOf (Bw.visitsO 0 (Bw.ofO l)) = s at *
    generalize Bw.lasts l = m at *
    generalize Bw.ofO l = o at *
    have HOK := Lib.hid hok; have HLV := Lib.hid hlv; have HSP := Lib.hid hsp; have HLL := Lib.hid hll; have HLEN := Lib.hid hlen
    clear hok hlv hsp hll hlen
    go_enter Tryd.func7, Tryd.ntmps7
    go_wp2_with fail
    refine CS.out.mono ?_
    rintro e w1 ⟨rfl, hb1⟩
    have CO1 := Lib.hid (CO.out w1 hb1)
    have HB1 := Lib.hid hb1
    clear hb1
    go_wp2_with fail
    refine CO1.out.mono ?_
    rintro e w2 ⟨nv, rfl, hnv, hb2⟩
    have HB2 := Lib.hid (HB1.out.trans (hb2.mono HB1.out.size))
    have HN : Hid (ONodeAt nt AllB w2 nv o) := Lib.hid (hnv.move (Moves.weaken fun _ _ _ => trivial))
    have hnf := onodeL_form HN.out
    clear hb2 hnv
    rcases hnf with rfl | ⟨tn, bn, rfl⟩
    all_goals go_wp2_with fail
    all_goals refine (CSH.out w2 HB2.out _ HN.out).mono ?_
    all_goals rintro e w3 ⟨q3, rfl, hq3, hb3⟩
    all_goals obtain ⟨Q3, c3, rfl⟩ := hq3.form
    all_goals have HQ3 := Lib.hid hq3
    all_goals have HB3 := Lib.hid (HB2.out.trans (hb3.mono HB2.out.size))
    all_goals have HB23 := Lib.hid hb3
    all_goals have H0 : Hid (SumRel s w3 (.int .i64 0) (.int .i64 0) w3) := Lib.hid ⟨0, Nat.zero_le _, rfl, rfl, Below.refl _ _⟩
    all_goals have hcap : s.length ≤ c3 := by obtain ⟨_, _, e, h, _⟩ := hq3; cases e; exact h
    all_goals clear hq3 hb3
    all_goals go_wp2_with fail
    all_goals go_loopw [5, 22] (SumRel s w3) (fun _ i _ => s.length - (intOf i).toNat)
    case atStart => exact H0.out
    case atStart => exact H0.out
    all_goals obtain ⟨k, hk, rfl, rfl, hB⟩ := hrel
    all_goals by_cases hlt : k < s.length
    case pos | pos =>
      obtain ⟨b, o9, rfl, c0, c1, c2, c3', c4⟩ := spot_get HQ3.out (List.getElem?_eq_getElem hlt)
      have hx3 := Bw.okS_drop HOK.out (List.getElem?_eq_getElem hlt)
      obtain ⟨hx1, hx2, hxk, hxm, hxc⟩ := HSP.out _ (List.getElem_mem hlt)
      have hlt2 := leaves_take hlt
      have hle := leaves_le s (k + 1)
      rw [HLV.out] at hle
      have hl1 := HLL.out
      generalize s[k] = x at *
      obtain ⟨xl, xk, xh, xm, xc⟩ := x
      dsimp only at *
      have hbl := World.block_lt_of_cell? _ _ c0
      dsimp only at hbl
      have d0 := (hB.cell (p := ⟨b, o9 + k * 5, none⟩) hbl).trans c0
      have d1 := (hB.cell (p := ⟨b, o9 + k * 5 + 1, none⟩) hbl).trans c1
      have d2 := (hB.cell (p := ⟨b, o9 + k * 5 + 2, none⟩) hbl).trans c2
      have d3 := (hB.cell (p := ⟨b, o9 + k * 5 + 3, none⟩) hbl).trans c3'
      have d4 := (hB.cell (p := ⟨b, o9 + k * 5 + 4, none⟩) hbl).trans c4
      have hb2 : b < wr.heap.size := Nat.lt_of_lt_of_le hbl hB.size
      have h0 : (0 : Int) ≤ (k : Int) := by omega
      have h1 : (k : Int) < (s.length : Int) := by omega
      have e1 : decide ((xl : Int) < 0) = false := by rw [decide_eq_false_iff_not]; omega
      have e2 : decide ((13 : Int) < (xl : Int)) = false := by rw [decide_eq_false_iff_not]; omega
      have e3 : decide ((xc : Int) < 1) = false := by rw [decide_eq_false_iff_not]; omega
      have e1' : ¬ ((xl : Int) < 0) := by omega
      have e2' : ¬ ((13 : Int) < (xl : Int)) := by omega
      have e3' : ¬ ((xc : Int) < 1) := by omega
      obtain ⟨W2, hW2⟩ : ∃ W2, wr.alloc (.cells #[.int .i64 (xl : Nat), .int .i64 (xk : Nat), .int .u64 (xh : Nat), .int .u32 (xm : Nat), .int .i64 (xc : Nat)] 70) = W2 := ⟨_, rfl⟩
      have hb2' : Below wr.heap.size wr W2 := by rw [← hW2]; exact (Below.refl _ _).alloc (Nat.le_refl _) _
      have hs2 : wr.heap.size < W2.heap.size := by rw [← hW2]; simp
      have n0 : W2.cell? ⟨wr.heap.size, 0, none⟩ = some (.int .i64 (xl : Nat)) := by rw [← hW2]; exact cell_new wr 0 _ _ 0 _ rfl
      have n1 : W2.cell? ⟨wr.heap.size, 1, none⟩ = some (.int .i64 (xk : Nat)) := by rw [← hW2]; exact cell_new wr 0 _ _ 1 _ rfl
      have n3 : W2.cell? ⟨wr.heap.size, 3, none⟩ = some (.int .u32 (xm : Nat)) := by rw [← hW2]; exact cell_new wr 0 _ _ 3 _ rfl
      have n4 : W2.cell? ⟨wr.heap.size, 4, none⟩ = some (.int .i64 (xc : Nat)) := by rw [← hW2]; exact cell_new wr 0 _ _ 4 _ rfl
      have HW2 := Lib.hid hW2
      have HBW := Lib.hid (hB.trans (hb2'.mono hB.size))
      have HX1 := Lib.hid hx1; have HXC := Lib.hid hxc; have HX3 := Lib.hid hx3; have HXM := Lib.hid hxm; have HLT2 := Lib.hid hlt2; have HS2 := Lib.hid hs2
      by_cases hk3 : xk = 3
      · subst hk3
        have hz : Bw.leavesOf (s.take (k + 1)) = Bw.leavesOf (s.take k) := by rw [hlt2, if_pos rfl, Nat.add_zero]
        have HZ := Lib.hid hz
        have hts := hx3 rfl
        have HTS := Lib.hid hts
        have hl0 := HLEN.out
        have i3 : (0 : Int) ≤ (k : Int) + 1 := by omega
        have i4 : (k : Int) + 1 ≤ (s.length : Int) := by omega
        have i5 : (s.length : Int) ≤ (c3 : Int) := by omega
        have H1 : Hid (KidRel s k xl xc (Bw.bitsOf xm).length W2 (.int .i64 0) (.int .i64 0) (.int .i64 0) W2) := Lib.hid ⟨0, 0, 0, hlt, rfl, rfl, rfl, by rw [Nat.add_zero, hts, Nat.zero_add], by rw [Nat.add_zero, hts, Nat.zero_add], Below.refl _ _⟩
        clear hx1 hx2 hxk hxm hxc hlt2 hle hl1 hx3 hz hts c0 c1 c2 c3' c4 hB hb2' hW2 hs2 hbl
        have h33 : ((3 : Nat) : Int) = 3 := rfl
        rw [h33] at n1 d1 HW2
        have SKX : Hid (∀ W, Below W2.heap.size W2 W → W.cell? ⟨wr.heap.size, 0, none⟩ = some (.int .i64 (xl : Nat)) ∧ W.cell? ⟨wr.heap.size, 3, none⟩ = some (.int .u32 (xm : Nat)) ∧ W.cell? ⟨wr.heap.size, 4, none⟩ = some (.int .i64 (xc : Nat))) := Lib.hid fun W hW =>
          ⟨(hW.cell (p := ⟨wr.heap.size, 0, none⟩) HS2.out).trans n0, (hW.cell (p := ⟨wr.heap.size, 3, none⟩) HS2.out).trans n3, (hW.cell (p := ⟨wr.heap.size, 4, none⟩) HS2.out).trans n4⟩
        by_cases hce : k + 1 = c3
        · have HCE := Lib.hid hce
          go_wp2_with fail
          rw [HW2.out]
          clear n0 n1 n3 n4 d0 d1 d2 d3 d4 e1 e2 e3 e1' e2' e3'
          go_loopw [8, 9, 52] (KidRel s k xl xc (Bw.bitsOf xm).length W2) (fun _ _ i _ => s.length - (intOf i).toNat)
          case atStart => exact H1.out
          obtain ⟨d, x, y, hd, rfl, rfl, rfl, hX, hY, hB4⟩ := hrel
          have hbx := HX1.out
          have hbc := HXC.out
          have hbb : (Bw.bitsOf xm).length ≤ 32 := by rw [Bw.length_bitsOf]; exact Bw.ones_le 32 _
          have hlt4 : ¬ (k + 1 + d < s.length) := by omega
          have j3 : ¬ (d < s.length - c3) := by omega
          clear hce
          have he : s.drop (k + 1 + d) = [] := List.drop_eq_nil_of_le (by omega)
          rw [he] at hX hY
          have hx9 : x = xc := hX
          have hy9 : y = (Bw.bitsOf xm).length := hY
          subst hx9 hy9
          have hbz := hB4
          have j1 : ¬ ((d : Int) < ((s.length - (k + 1) : Nat) : Int)) := by omega
          have j2 : ¬ (d < s.length - (k + 1)) := by omega
          clear he hX hY hd hlt4 hbx hbc hbb hB4
          obtain ⟨q0, q3, q4⟩ := SKX.out _ hbz
          have HFZ := Lib.hid (HBW.out.trans (hbz.mono HBW.out.size))
          have CCT := Lib.hid (fun W => count_any xm W HXM.out)
          clear hbz
          go_wp2_with fail
          refine (CCT.out _).mono ?_
          rintro e wz ⟨rfl, nz, rfl⟩
          go_wp2
          first | exact ⟨⟨k + 1, hlt, rfl, by rw [HZ.out], b_drewN HFZ.out _⟩, by show s.length - ((k : Int) + 1).toNat < s.length - (k : Int).toNat; omega⟩ | trace_state
        · have hce2 : ¬ (c3 = k + 1) := fun e => hce e.symm
          have HCE : Hid True := Lib.hid trivial
          go_wp2_with fail
          rw [HW2.out]
          clear n0 n1 n3 n4 d0 d1 d2 d3 d4 e1 e2 e3 e1' e2' e3'
          go_loopw [8, 9, 52] (KidRel s k xl xc (Bw.bitsOf xm).length W2) (fun _ _ i _ => s.length - (intOf i).toNat)
          case atStart => exact H1.out
          obtain ⟨d, x, y, hd, rfl, rfl, rfl, hX, hY, hB4⟩ := hrel
          have hbx := HX1.out
          have hbc := HXC.out
          have hbb : (Bw.bitsOf xm).length ≤ 32 := by rw [Bw.length_bitsOf]; exact Bw.ones_le 32 _
          by_cases hlt4 : k + 1 + d < s.length
          · skip
            obtain ⟨b', o', e', k0, k1, k2, k3, k4⟩ := spot_get HQ3.out (List.getElem?_eq_getElem hlt4)
            cases e'
            have hdrop : s.drop (k + 1 + d) = s[k + 1 + d] :: s.drop (k + 1 + (d + 1)) := List.drop_eq_getElem_cons hlt4
            rw [hdrop] at hX hY
            generalize s[k + 1 + d] = z at *
            obtain ⟨zl, zk, zh, zm, zc⟩ := z
            dsimp only at *
            simp only [Bw.sums] at hX hY
            have hbl := World.block_lt_of_cell? _ _ k0
            dsimp only at hbl
            have hadr : o9 + (k + 1 + d) * 5 = o9 + (k + 1) * 5 + d * 5 := by omega
            rw [hadr] at k0 k1 k2 k3 k4
            have hB34 := HBW.out.trans (hB4.mono HBW.out.size)
            have d0 := (hB34.cell (p := ⟨b, o9 + (k + 1) * 5 + d * 5, none⟩) hbl).trans k0
            have d1 := (hB34.cell (p := ⟨b, o9 + (k + 1) * 5 + d * 5 + 1, none⟩) hbl).trans k1
            have d2 := (hB34.cell (p := ⟨b, o9 + (k + 1) * 5 + d * 5 + 2, none⟩) hbl).trans k2
            have d3 := (hB34.cell (p := ⟨b, o9 + (k + 1) * 5 + d * 5 + 3, none⟩) hbl).trans k3
            have d4 := (hB34.cell (p := ⟨b, o9 + (k + 1) * 5 + d * 5 + 4, none⟩) hbl).trans k4
            have j0 : (0 : Int) ≤ (d : Int) := by omega
            have j1 : (d : Int) < ((s.length - (k + 1) : Nat) : Int) := by omega
            have j2 : d < s.length - (k + 1) := by omega
            obtain ⟨W4, hW4⟩ : ∃ W4, wr.alloc (.cells #[.int .i64 (zl : Nat), .int .i64 (zk : Nat), .int .u64 (zh : Nat), .int .u32 (zm : Nat), .int .i64 (zc : Nat)] 70) = W4 := ⟨_, rfl⟩
            have hb4 : Below wr.heap.size wr W4 := by rw [← hW4]; exact (Below.refl _ _).alloc (Nat.le_refl _) _
            have m0 : W4.cell? ⟨wr.heap.size, 0, none⟩ = some (.int .i64 (zl : Nat)) := by rw [← hW4]; exact cell_new wr 0 _ _ 0 _ rfl
            have m4 : W4.cell? ⟨wr.heap.size, 4, none⟩ = some (.int .i64 (zc : Nat)) := by rw [← hW4]; exact cell_new wr 0 _ _ 4 _ rfl
            have hbz : Below W2.heap.size W2 W4 := hB4.trans (hb4.mono hB4.size)
            obtain ⟨q0, q3, q4⟩ := SKX.out _ hbz
            have HBZ := Lib.hid hbz
            have HW4 := Lib.hid hW4
            clear k0 k1 k2 k3 k4 hdrop hadr hbl hB34 hB4 hb4 hbz hW4 j2 hce hce2
            by_cases h1z : zl ≤ xl
            · rw [if_pos h1z] at hX hY
              have hx9 : x = xc := hX
              have hy9 : y = (Bw.bitsOf xm).length := hY
              subst hx9 hy9
              have g1 : (zl : Int) ≤ (xl : Int) := Int.ofNat_le.2 h1z
              have g2 : decide ((zl : Int) ≤ (xl : Int)) = true := decide_eq_true g1
              have HFZ := Lib.hid (HBW.out.trans (HBZ.out.mono HBW.out.size))
              have CCT := Lib.hid (fun W => count_any xm W HXM.out)
              clear hX hY hbx hbc hbb
              go_wp2_with (rw [HW4.out])
              refine (CCT.out _).mono ?_
              rintro e wz ⟨rfl, nz, rfl⟩
              go_wp2
              exact ⟨⟨k + 1, hlt, rfl, by rw [HZ.out], b_drewN HFZ.out _⟩, by show s.length - ((k : Int) + 1).toNat < s.length - (k : Int).toNat; omega⟩
            · rw [if_neg h1z] at hX hY
              have g1 : ¬ ((zl : Int) ≤ (xl : Int)) := fun e => h1z (Int.ofNat_le.1 e)
              have g2 : decide ((zl : Int) ≤ (xl : Int)) = false := decide_eq_false g1
              have g3 : decide (zl ≤ xl) = false := decide_eq_false h1z
              by_cases h2z : zl = xl + 1
              · rw [if_pos h2z] at hX hY
                dsimp only at hX hY
                have hx9 : x + zc ≤ 1000000 := by omega
                have hy9 : y + 1 ≤ 32 := by omega
                have hX' : (x + zc) + (Bw.sums xl (s.drop (k + 1 + (d + 1)))).1 = xc := by omega
                have hY' : (y + 1) + (Bw.sums xl (s.drop (k + 1 + (d + 1)))).2 = (Bw.bitsOf xm).length := by omega
                have HX' := Lib.hid hX'; have HY' := Lib.hid hY'
                have g4 : ((zl : Int) == (xl : Int) + 1) = true := by rw [beq_iff_eq]; omega
                have HLT4 := Lib.hid hlt4
                clear hX hY hX' hY' hbc hbb hlt4 h1z h2z
                go_wp2_with (rw [HW4.out])
                exact ⟨⟨d + 1, x + zc, y + 1, HLT4.out, rfl, rfl, rfl, HX'.out, HY'.out, HBZ.out⟩, by have := HLT4.out; show s.length - ((d : Int) + 1).toNat < s.length - (d : Int).toNat; omega⟩
              · rw [if_neg h2z] at hX hY
                have HX' := Lib.hid hX; have HY' := Lib.hid hY
                have g4 : ((zl : Int) == (xl : Int) + 1) = false := by rw [beq_eq_false_iff_ne]; omega
                have g5 : ¬ ((zl : Int) = (xl : Int) + 1) := by omega
                have HLT4 := Lib.hid hlt4
                clear hX hY hbc hbb hlt4 h1z
                go_wp2_with (rw [HW4.out])
                exact ⟨⟨d + 1, x, y, HLT4.out, rfl, rfl, rfl, HX'.out, HY'.out, HBZ.out⟩, by have := HLT4.out; show s.length - ((d : Int) + 1).toNat < s.length - (d : Int).toNat; omega⟩
          · skip
            have he : s.drop (k + 1 + d) = [] := List.drop_eq_nil_of_le (by omega)
            rw [he] at hX hY
            have hx9 : x = xc := hX
            have hy9 : y = (Bw.bitsOf xm).length := hY
            subst hx9 hy9
            have hbz := hB4
            have j1 : ¬ ((d : Int) < ((s.length - (k + 1) : Nat) : Int)) := by omega
            have j2 : ¬ (d < s.length - (k + 1)) := by omega
            clear he hX hY hd hlt4 hbx hbc hbb hB4
            obtain ⟨q0, q3, q4⟩ := SKX.out _ hbz
            have HFZ := Lib.hid (HBW.out.trans (hbz.mono HBW.out.size))
            have CCT := Lib.hid (fun W => count_any xm W HXM.out)
            clear hbz
            go_wp2_with fail
            refine (CCT.out _).mono ?_
            rintro e wz ⟨rfl, nz, rfl⟩
            go_wp2
            first | exact ⟨⟨k + 1, hlt, rfl, by rw [HZ.out], b_drewN HFZ.out _⟩, by show s.length - ((k : Int) + 1).toNat < s.length - (k : Int).toNat; omega⟩ | trace_state
      · have hkb : ((xk : Int) != 3) = true := by rw [bne_iff_ne]; omega
        have hz : Bw.leavesOf (s.take (k + 1)) = Bw.leavesOf (s.take k) + xc := by rw [hlt2, if_neg hk3]
        have HZ := Lib.hid hz
        have hw : wrap64 ((Bw.leavesOf (s.take k) : Int) + (xc : Int)) = ((Bw.leavesOf (s.take (k + 1)) : Nat) : Int) := by rw [hz]; exact IntWalk.wrap64_in _ (by omega)
        have HW := Lib.hid hw
        clear hx1 hx2 hxk hxm hxc hlt2 hle hl1 hx3 hz hw c0 c1 c2 c3' c4 hB hb2' hW2 hs2 hbl
        go_wp2_with (rw [HW2.out])
        exact ⟨⟨k + 1, hlt, int_succ hlt HLEN.out, by rw [HW.out], HBW.out⟩, less_succ hlt HLEN.out⟩
    case neg | neg =>
      obtain rfl : k = s.length := by omega
      rw [List.take_length, HLV.out]
      have HBr := Lib.hid (HB3.out.trans (hB.mono HB3.out.size))
      have HB2r := Lib.hid (HB23.out.trans (hB.mono HB23.out.size))
      clear hB hlt hk
      go_wp2_with fail
      refine (CCM.out wr HBr.out).mono ?_
      rintro e w4 ⟨q4, rfl, hq4, hb4⟩
      obtain ⟨A4, c4, rfl⟩ := (hq4.row goodEnt).form
      have HB4 := Lib.hid (HBr.out.trans (hb4.mono HBr.out.size))
      have HB24 := Lib.hid (HB2r.out.trans (hb4.mono HB2r.out.size))
      clear hq4 hb4
      go_wp2_with fail
      refine (CNP.out w4 _ (HN.out.move (Moves.below HB24.out))).mono ?_
      rintro e w5 ⟨q5, rfl, ⟨A5, c5, rfl⟩, hb5⟩
      have HB5 := Lib.hid (HB4.out.trans (hb5.mono HB4.out.size))
      clear hb5
      go_wp2_with fail
      refine (CAW.out w5 HB5.out).mono ?_
      rintro e w6 ⟨rfl, hb6⟩
      have HF := Lib.hid (HB5.out.trans (hb6.mono HB5.out.size))
      clear hb6
      go_wp2
      go_ret
      exact ⟨rfl, HF.out⟩
end Go.Proofs.YtehkjnmnbplcoaaDoor
