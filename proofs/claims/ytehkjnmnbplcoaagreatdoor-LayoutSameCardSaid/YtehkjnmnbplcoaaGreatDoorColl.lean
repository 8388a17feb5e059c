
import Derived.Test.YtehkjnmnbplcoaaGreatDoorSameA
import Derived.Test.YtehkjnmnbplcoaaGreatDoorBwG
namespace Go.Proofs.YtehkjnmnbplcoaaGreatDoor
open Go.RowKit Go.Bw

mutual
/-- all pairs in a node, as they come -/
def _root_.Bw.N.pairs : Bw.N → List Bw.PV
  | .leaf _ p => [p]
  | .bucket _ t => t.list
  | .branch _ kids => Bw.N.pairsL kids
def _root_.Bw.N.pairsL : List Bw.N → List Bw.PV
  | [] => []
  | k :: r => k.pairs ++ Bw.N.pairsL r
end
theorem pairsL_flat (kids : List Bw.N) : Bw.N.pairsL kids = kids.flatMap Bw.N.pairs := by
  induction kids with
  | nil => rfl
  | cons k r ih => simp [Bw.N.pairsL, ih]

theorem run_app_none {w : World} {AO : Option Addr} {n co : Nat} (ty : TypeId) (h : n ≤ co) (h0 : AO = none → co = 0) :
    (Builtin.append_ #[23, 23] ty #[.slice AO n co, .slice none 0 0]).run Tryz.prog w = .ok (.slice AO n co) w := by
  obtain ⟨i0, hi, hz0, hz1, hz2⟩ := info_parts infoP
  cases AO with
  | none =>
    have hc := h0 rfl
    subst hc
    obtain rfl : n = 0 := by omega
    simp [Builtin.append_, run_underlying Tryz.underlying23, sizeOf, typeInfo, hi, Builtin.lenOf, run_firstCells_none]
  | some ad =>
    simp [Builtin.append_, run_underlying Tryz.underlying23, sizeOf, typeInfo, hi, Builtin.lenOf, run_firstCells_none, storeCells, h]

theorem wp_app_same {P : Program} {ops : Array Oper} {Q : Exit → Act → World → Prop} {o : Oper} {rest : List Oper} {a : Act} {w : World} {v u : Value} (hgd : o.guard = none) (s x : Operand) (t : TypeId)
    (ho : o.op = .call { callee := .builtin .append, args := #[s, x], argTypes := #[t, t] }) (hs : a.eval s = v) (hx : a.eval x = u) (hr : (Builtin.append_ #[t, t] o.type #[v, u]).run P w = .ok v w)
    (h : wpList P ops Q rest (a.put o.dst v) w) : wpList P ops Q (o :: rest) a w :=
  wpList_plain hgd fun _ hK => by
    unfold Oper.wp execOp
    simp only [ho, resolve, invoke, builtin, Sem.run_bind, Sem.run_pure, Result.andThen_ok, List.map_toArray, List.map_cons, List.map_nil, hs, hx, hr]
    exact hK _ _ h

def ColRel (xs : List Bw.PV) (kids : List Bw.N) (base : Nat) (w : World) (v i : Value) (wr : World) : Prop :=
  ∃ k : Nat, k ≤ kids.length ∧ i = .int .i64 k ∧ OwnAt 31 2 pairK AllB wr base v (xs ++ Bw.N.pairsL (kids.take k)) ∧ Below base w wr

theorem low_pair {base : Nat} {w : World} {v u : Value} {l : Bw.Bytes} {xs : List Bw.PV} (hown : OwnAt 31 2 pairK AllB w base v xs) (h : BytesAt (fun k => k < base) w u l) : BytesAt (fun k => AllB k ∧ some k ≠ v.ownBlock) w u l :=
  h.move goodByte (Moves.weaken fun k hk _ => ⟨trivial, fun e => by have := (hown.lt k e.symm).1; omega⟩)

set_option maxRecDepth 100000 in
set_option maxHeartbeats 1000000 in
theorem collect_any (n : Bw.N) : n.fit → ∀ (v out : Value) (xs : List Bw.PV) (base : Nat) (w : World), OwnAt 31 2 pairK AllB w base out xs → base ≤ w.heap.size → NodeAt nt (fun k => k < base) w v n → xs.length + n.pairs.length ≤ 1048576 →
    Calls Tryz.prog 81 #[out, v] w fun e w' => ∃ v', e = .returned v' ∧ OwnAt 31 2 pairK AllB w' base v' (xs ++ n.pairs) ∧ Below base w w' := by
  obtain ⟨i0, hi, hz0, hz1, hz2⟩ := info_parts infoP
  have HI := Lib.hid hi; have HZ0 := Lib.hid hz0; have HZ1 := Lib.hid hz1; have HZ2 := Lib.hid hz2
  clear hi hz0 hz1 hz2
  refine Bw.N.ind (P := fun n => n.fit → ∀ (v out : Value) (xs : List Bw.PV) (base : Nat) (w : World), OwnAt 31 2 pairK AllB w base out xs → base ≤ w.heap.size → NodeAt nt (fun k => k < base) w v n → xs.length + n.pairs.length ≤ 1048576 →
    Calls Tryz.prog 81 #[out, v] w fun e w' => ∃ v', e = .returned v' ∧ OwnAt 31 2 pairK AllB w' base v' (xs ++ n.pairs) ∧ Below base w w') ?_ ?_ ?_ n
  · intro h p hf v out xs base w hown hb hn hlen
    simp only [NodeAt] at hn
    obtain ⟨b, u1, u2, rfl, ⟨_, c0⟩, ⟨_, c1⟩, ⟨_, c2⟩, hu, hv⟩ := hn
    have hu' := low_pair hown hu
    have hv' := low_pair hown hv
    obtain ⟨U1, e1, rfl⟩ := hu.form
    obtain ⟨U2, e2, rfl⟩ := hv.form
    obtain ⟨AO, co, rfl⟩ := (hown.row goodPair).form
    have HOWN := Lib.hid hown; have HU := Lib.hid hu'; have HV := Lib.hid hv'; have HB := Lib.hid hb; have HL := Lib.hid hlen
    clear hown hu hv hu' hv' hb hlen
    simp only [Bw.N.pairs]
    have t1 := @ta_ll; have t2 := @ta_lb; have t3 := @ta_lr; have t4 := @ta_bl; have t5 := @ta_bb; have t6 := @ta_br; have t7 := @ta_rl; have t8 := @ta_rb; have t9 := @ta_rr
    go_enter Tryz.func81, Tryz.ntmps81
    go_wp2_with (at_builtin; refine wp_app1 goodPair rfl (.tmp 14) (.tmp 19) 23 rfl base 31 i0 _ 48 Tryz.underlying23 HI.out HZ0.out HZ1.out HZ2.out rfl (by decide) (.slice AO xs.length co) xs rfl HOWN.out p #[.slice U1 p.1.length e1, .slice U2 p.2.length e2] 31 (by go_simp) (pairK_mk HU.out HV.out) (fun _ _ => trivial) (by have := HL.out; simp [Bw.N.pairs] at this; omega) (by decide) HB.out ?_; intro v8 w8 hown8 hb8 hat8 hg8)
    obtain ⟨A8, c8, rfl⟩ := (hown8.row goodPair).form
    go_ret
    exact ⟨_, rfl, hown8, hb8⟩
  · intro h t hf v out xs base w hown hb hn hlen
    simp only [NodeAt] at hn
    obtain ⟨b, tv, rfl, ⟨_, c0⟩, ⟨_, c1⟩, ht⟩ := hn
    simp only [Bw.N.fit] at hf
    obtain ⟨_, _, hbd, hsz⟩ := hf
    have CL := Lib.hid (list_any ht hbd hsz)
    obtain ⟨AT, rfl⟩ := ht.form
    obtain ⟨AO, co, rfl⟩ := (hown.row goodPair).form
    have HOWN := Lib.hid hown; have HB := Lib.hid hb; have HL := Lib.hid hlen
    clear hown ht hb hlen hbd hsz
    simp only [Bw.N.pairs]
    have t1 := @ta_ll; have t2 := @ta_lb; have t3 := @ta_lr; have t4 := @ta_bl; have t5 := @ta_bb; have t6 := @ta_br; have t7 := @ta_rl; have t8 := @ta_rb; have t9 := @ta_rr
    go_enter Tryz.func81, Tryz.ntmps81
    go_wp2_with fail
    refine CL.out.mono ?_
    rintro e w1 ⟨q1, rfl, hq1, hb1⟩
    have hown1 : OwnAt 31 2 pairK AllB w1 base (.slice AO xs.length co) xs := HOWN.out.move goodPair (Moves.below hb1)
    have hB1 : Below base w w1 := hb1.mono HB.out
    obtain ⟨AL, cl, rfl⟩ := hq1.form
    have HOWN1 := Lib.hid hown1; have HB1 := Lib.hid hB1; have HQ1 := Lib.hid hq1
    clear hown1 hb1 hB1 hq1
    cases AL with
    | none =>
      have hnil : t.list = [] := by
        have h1 := HQ1.out
        obtain ⟨A', c', e', h2, _, h4, _⟩ := h1
        injection e' with e1 e2 e3
        have := h4 e1.symm
        exact List.eq_nil_of_length_eq_zero (by omega)
      have hc0 : cl = 0 := by
        have h1 := HQ1.out
        obtain ⟨A', c', e', _, _, h4, _⟩ := h1
        injection e' with e1 e2 e3
        rw [e3]; exact h4 e1.symm
      have hl0 : t.list.length = 0 := by rw [hnil]; rfl
      rw [hl0]
      subst hc0
      have HN := Lib.hid hnil
      have hrow := HOWN1.out.row goodPair
      obtain ⟨A', c', e', h2, _, h4, _⟩ := hrow
      injection e' with e1 e2 e3
      subst e1; subst e3
      have hrun := fun (ty : TypeId) => run_app_none (w := w1) ty h2 h4
      clear h2 h4 e2 hnil
      have HRUN := Lib.hid hrun
      clear hrun
      go_wp2_with (at_builtin; refine wp_app_same rfl (.tmp 24) (.tmp 29) 23 rfl rfl rfl (HRUN.out _) ?_)
      go_ret
      exact ⟨_, rfl, by rw [HN.out, List.append_nil]; exact HOWN1.out, HB1.out⟩
    | some ad =>
      have hnews : ∃ news, Reps (pairK (fun k => w.heap.size ≤ k) w1) 2 t.list news ∧ ∀ j u, news[j]? = some u → w1.cell? (ad.add j) = some u := by
        obtain ⟨bl, ol, sl⟩ := ad
        by_cases hn : t.list = []
        · exact ⟨[], by rw [hn]; exact Reps.nil _ _, fun j u hj => by simp at hj⟩
        · have h1 := HQ1.out
          obtain ⟨A', c', e', h2, _, h4, h5, _⟩ := h1
          injection e' with e1 e2 e3
          have hs := h5 _ e1.symm hn
          cases hs
          obtain ⟨news, hr, hc⟩ := RowAt.news_all goodPair HQ1.out
          exact ⟨news, hr, fun j u hj => by rw [add_none]; exact (hc j u hj).2⟩
      obtain ⟨news, hr, hc⟩ := hnews
      have hr' : Reps (pairK (fun k => AllB k ∧ some k ≠ (Value.slice AO xs.length co).ownBlock) w1) 2 t.list news := hr.move goodPair (Moves.weaken fun k hk _ => ⟨trivial, fun e => by have := (HOWN.out.lt k e.symm).2; omega⟩)
      have HR := Lib.hid hr'; have HC := Lib.hid hc
      clear hr hr' hc
      go_wp2_with (at_builtin; refine wp_app goodPair rfl (.tmp 24) (.tmp 29) 23 rfl base 31 i0 _ 48 Tryz.underlying23 HI.out HZ0.out HZ1.out HZ2.out rfl (by decide) (.slice AO xs.length co) xs rfl HOWN1.out ad t.list.length cl t.list news rfl rfl HC.out HR.out (fun _ _ => trivial) (by have := HL.out; simp only [Bw.N.pairs] at this; omega) (by decide) (Nat.le_trans HB.out HB1.out.size) ?_; intro v8 w8 hown8 hg8 hat8)
      obtain ⟨A8, c8, rfl⟩ := (hown8.row goodPair).form
      go_ret
      exact ⟨_, rfl, hown8, HB1.out.grown hg8 (Nat.le_trans HB.out HB1.out.size) (fun k e => (HOWN1.out.lt k e).1)⟩
  · intro m kids ih hf v out xs base w hown hb hn hlen
    simp only [NodeAt] at hn
    obtain ⟨b, g, o, cap, rfl, ⟨_, c0⟩, ⟨_, c1⟩, _, hcap, hmax, hk⟩ := hn
    simp only [Bw.N.fit, Bw.N.fitL_iff] at hf
    have HK := Lib.hid hk
    have HMX : Hid (kids.length ≤ maxLen) := Lib.hid (Nat.le_trans hcap hmax)
    have HIH := Lib.hid ih
    have HF := Lib.hid hf.2.2
    have HB := Lib.hid hb
    have HL := Lib.hid hlen
    have H0 : Hid (ColRel xs kids base w out (.int .i64 0) w) := Lib.hid ⟨0, Nat.zero_le _, rfl, by simpa [Bw.N.pairsL] using hown, Below.refl _ _⟩
    obtain ⟨AO, co, rfl⟩ := (hown.row goodPair).form
    clear hk ih hf hb hlen hown hcap hmax
    have t1 := @ta_ll; have t2 := @ta_lb; have t3 := @ta_lr; have t4 := @ta_bl; have t5 := @ta_bb; have t6 := @ta_br; have t7 := @ta_rl; have t8 := @ta_rb; have t9 := @ta_rr
    go_enter Tryz.func81, Tryz.ntmps81
    go_wp2_with fail
    go_loopw [0, 39] (ColRel xs kids base w) (fun _ i _ => kids.length - (intOf i).toNat)
    case atStart => exact H0.out
    case round =>
      obtain ⟨j, hj, rfl, hown, hB⟩ := hrel
      by_cases hlt : j < kids.length
      · obtain ⟨cs, ⟨vk, rfl, hvk⟩, hck⟩ := row_of_kids HK.out j (some kids[j]) (by rw [List.getElem?_map, List.getElem?_eq_getElem hlt]; rfl)
        have d0 := (hck 0 vk rfl).2
        simp only [Nat.mul_one, Nat.add_zero] at d0
        have hg := (hck 0 vk rfl).1
        simp only [ONodeAt] at hvk
        have e0 := (hB.cell (p := ⟨g, o + j, none⟩) hg).trans d0
        have hmem : kids[j] ∈ kids := List.getElem_mem hlt
        have hsum : (xs ++ Bw.N.pairsL (kids.take j)).length + kids[j].pairs.length ≤ 1048576 := by
          have h1 : Bw.N.pairsL kids = Bw.N.pairsL (kids.take j) ++ (kids[j].pairs ++ Bw.N.pairsL (kids.drop (j + 1))) := by
            conv => lhs; rw [← List.take_append_drop j kids, List.drop_eq_getElem_cons hlt]
            rw [pairsL_flat, List.flatMap_append, ← pairsL_flat, List.flatMap_cons, ← pairsL_flat]
          have := HL.out
          simp only [Bw.N.pairs] at this
          rw [h1] at this
          simp only [List.length_append] at this ⊢
          omega
        have CI := Lib.hid (HIH.out kids[j] hmem (HF.out _ hmem) vk _ (xs ++ Bw.N.pairsL (kids.take j)) base wr hown (Nat.le_trans HB.out hB.size) (NodeAt.move (fun k hk hl => ⟨hk, hB.block k hk⟩) _ _ hvk) hsum)
        have hs : xs ++ Bw.N.pairsL (kids.take j) ++ kids[j].pairs = xs ++ Bw.N.pairsL (kids.take (j + 1)) := by
          rw [take_succ_snoc hlt, pairsL_flat (kids.take j ++ _), List.flatMap_append, ← pairsL_flat]; simp
        obtain ⟨t0, b0, rfl⟩ := hvk.form
        have h0 : (0 : Int) ≤ (j : Int) := by omega
        have h1 : (j : Int) < (kids.length : Int) := by omega
        have HBW := Lib.hid hB
        have HS := Lib.hid hs
        obtain ⟨AJ, cj, rfl⟩ := (hown.row goodPair).form
        clear hvk d0 hck hB hs hmem hown hsum
        generalize (xs ++ Bw.N.pairsL (kids.take j)).length = LL at *
        go_wp2_with fail
        refine CI.out.mono ?_
        rintro e w2 ⟨v2, rfl, hown2, hb2⟩
        rw [HS.out] at hown2
        go_wp2
        exact ⟨⟨j + 1, hlt, int_succM hlt HMX.out, hown2, HBW.out.trans hb2⟩, less_succM hlt HMX.out⟩
      · obtain rfl : j = kids.length := by omega
        rw [List.take_length] at hown
        obtain ⟨AJ, cj, rfl⟩ := (hown.row goodPair).form
        have HOWN := Lib.hid hown; have HBW := Lib.hid hB
        clear hown hB
        generalize (xs ++ Bw.N.pairsL kids).length = LL at *
        go_wp2
        go_ret
        exact ⟨_, rfl, by simpa [Bw.N.pairs] using HOWN.out, HBW.out⟩
end Go.Proofs.YtehkjnmnbplcoaaGreatDoor
