
import Derived.Test.YtadaoceidkagfaaGreatDoorNodeC
import Derived.Test.YtadaoceidkagfaaGreatDoorBwG
import Derived.Laws.StructEq
import Derived.KernelRfl
import Derived.Test.YtadaoceidkagfaaGreatDoorRangeA
import Derived.Test.YtadaoceidkagfaaGreatDoorSameA
import Derived.Shelf.AbstractIn
import Derived.Deep.RegionLaw
import Derived.Deep.AppendLies
import Derived.Test.YtadaoceidkagfaaGreatDoorBwAll
import Derived.Shelf.SlSortCmp.WholeK
import Derived.Test.YtadaoceidkagfaaGreatDoorListA
import Derived.Shelf.Abstract
namespace Go.Proofs.YtadaoceidkagfaaGreatDoor
open Go.RowKit Go.Bw
open Go.RowKit Go.Bw Go.Shelf
attribute [local go_sem] Oper.semAt_some
def _root_.Bw.N.kidAt (c : Nat) : Bw.N -> Option Bw.N
  | .branch m kids => Bw.kidO m kids c
  | _ => none
def vol (wt : Bw.N × Nat -> Nat) (l : List (Bw.N × Nat)) : Nat := (l.map wt).sum
theorem vol_cons (wt : Bw.N × Nat -> Nat) (x : Bw.N × Nat) (b : List (Bw.N × Nat)) : vol wt (x :: b) = wt x + vol wt b := by simp [vol]
def ECells (e : Nat) (W : World) (k : Nat) : Prop := ∃ cs fr, W.heap[k]? = some (.cells cs e fr)
structure Tame (n o e : Nat) (W W' : World) : Prop where
  os : W'.os = W.os
  tape : W'.tape = W.tape
  output : W'.output = W.output
  size : W.heap.size <= W'.heap.size
  keep : ∀ k, k < W.heap.size -> (k < n \/ k ≠ o /\ ¬ ECells e W k) -> W'.heap[k]? = W.heap[k]?
theorem Tame.of_below {n o e : Nat} {W W' : World} (h : Below W.heap.size W W') : Tame n o e W W' := ⟨h.os, h.tape, h.output, h.size, fun k hk _ => h.block k hk⟩
theorem Tame.refl (n o e : Nat) (W : World) : Tame n o e W W := .of_below (Below.refl _ _)
theorem Tame.trans {n o e : Nat} {A B C : World} (h : Tame n o e A B) (k : Tame n o e B C) : Tame n o e A C :=
  ⟨k.os.trans h.os, k.tape.trans h.tape, k.output.trans h.output, Nat.le_trans h.size k.size, fun i hi hc => by
    have h1 := h.keep i hi hc
    refine (k.keep i (Nat.lt_of_lt_of_le hi h.size) (hc.imp id fun ⟨a, b⟩ => ⟨a, fun ⟨cs, fr, hx⟩ => b ⟨cs, fr, by rw [<- h1]; exact hx⟩⟩)).trans h1⟩
theorem Tame.below {n o e : Nat} {W W' : World} (h : Tame n o e W W') (hn : n <= W.heap.size) : Below n W W' :=
  ⟨h.os, h.tape, h.output, h.size, fun k hk => h.keep k (Nat.lt_of_lt_of_le hk hn) (.inl hk)⟩
theorem Tame.block {n o e : Nat} {W W' : World} {k : Nat} {x : Obj} (h : Tame n o e W W') (hx : W.heap[k]? = some x) (hko : k ≠ o) (hne : ∀ cs fr, x ≠ .cells cs e fr) : W'.heap[k]? = some x :=
  (h.keep k (Array.getElem?_eq_some_iff.1 hx).1 (.inr ⟨hko, fun ⟨cs, fr, hy⟩ => hne cs fr (Option.some.inj (hx.symm.trans hy))⟩)).trans hx
theorem Tame.others {n o e : Nat} {W W' : World} (h : Tame n o e W W') (ho : ∃ b, W.heap[o]? = some b /\ b.isCells = true) : KeepsOthers W W' :=
  ⟨h.size, fun k x hx hc => h.block hx (fun he => by obtain ⟨b, hb, hc'⟩ := ho; rw [he, hb] at hx; cases hx; rw [hc] at hc'; cases hc') fun cs fr he => by subst he; cases hc⟩
theorem kid_at {ok : Nat -> Prop} {v : Value} {n : Bw.N} {w : World} (c : Nat) (h : NodeAt nt ok w v n) (hf : n.fit) :
    Calls Tryz.prog 36 #[v, .int .i64 (c : Nat)] w fun e w' => ∃ u b d, e = .returned (.tuple #[u, .bool b]) /\ ONodeAt nt ok w u (n.kidAt c) /\ w' = w.drewN d := by
  refine (kid_any (n := some n) (c : Int) h (fun m kids e => by cases e; simp only [Bw.N.fit] at hf; exact ⟨hf.1, hf.2.1⟩)).mono ?_
  rintro e w' ⟨⟨r, rfl, hk⟩, d, rfl⟩
  cases n with
  | leaf h p => exact ⟨_, _, d, by rw [hk], rfl, rfl⟩
  | bucket h t => exact ⟨_, _, d, by rw [hk], rfl, rfl⟩
  | branch m kids =>
    simp only [KidTold] at hk
    simp only [Bw.N.fit] at hf
    simp only [Bw.N.kidAt, Bw.kidO]
    split at hk
    · rename_i hb
      obtain ⟨u, k, rfl, hk1, hk2⟩ := hk
      simp only [Int.toNat_natCast] at hb hk1
      exact ⟨u, true, d, rfl, by rw [if_pos hb.2.2, hk1]; exact hk2, rfl⟩
    · rename_i hb
      refine ⟨_, _, d, by rw [hk], ?_, rfl⟩
      rw [if_neg]
      · rfl
      · intro ht
        have hc : c < 32 := by
          rcases Nat.lt_or_ge c 32 with x | x
          · exact x
          · have := Nat.pow_le_pow_right (n := 2) (by decide) x
            rw [Nat.testBit_lt_two_pow (by omega)] at ht; cases ht
        exact hb ⟨by omega, by omega, by simpa using ht⟩
open Go.RowKit Go.Bw
def Steady {α : Type} (d : Knd α) : Prop := ∀ (ok : Nat -> Prop) (W W' : World) (row : Option Nat) (x : α) (cs : List Value), d ok W x cs -> W.grownBy W' row -> (∀ r, row = some r -> ∃ o : Obj, W.heap[r]? = some o /\ o.isCells = false) -> d ok W' x cs
theorem own_steady {α : Type} {e sz base : Nat} {d : Knd α} (hd : Steady d) {ok : Nat -> Prop} {W W' : World} {row : Option Nat} {v : Value} {xs : List α} (h : OwnAt e sz d ok W base v xs) (hg : W.grownBy W' row)
    (hr : ∀ r, row = some r -> ∃ o : Obj, W.heap[r]? = some o /\ o.isCells = false) : OwnAt e sz d ok W' base v xs := by
  obtain ⟨hok, inner, ho, hreps⟩ := h
  refine ⟨hok, inner, ho.kept hg ?_, hreps.imp fun x cs hx => hd _ _ _ _ _ _ hx hg hr⟩
  rcases ho.2 with ⟨rfl, _⟩ | ⟨g, cap, cur, rfl, _, hgb, _⟩
  · exact .inl rfl
  · refine .inr fun e' => ?_
    obtain ⟨o, ho, hc⟩ := hr g (by simpa [Value.ownBlock] using e'.symm)
    rw [hgb] at ho; cases ho; cases hc
def InvRow {α : Type} (e te sz : Nat) (d : Knd α) (f : List (Bw.N × Nat) -> List α) (w0 : World) (o : Nat) (pre : List (Bw.N × Nat)) (W : World) : Prop :=
  ∃ vo, Boxed W o te vo /\ OwnAt e sz d (fun k => w0.heap.size <= k /\ k ≠ o) W w0.heap.size vo (f pre) /\ Below w0.heap.size w0 W
theorem InvRow.low {α : Type} {e te sz : Nat} {d : Knd α} {f : List (Bw.N × Nat) -> List α} {w0 : World} {o : Nat} {pre : List (Bw.N × Nat)} {W : World} (h : InvRow e te sz d f w0 o pre W) (hT : Tab w0) :
    w0.heap.size <= W.heap.size /\ Tab W /\ ∃ b, W.heap[o]? = some b /\ b.isCells = true := by
  obtain ⟨vo, hb, _, hB⟩ := h
  exact ⟨hB.size, hT.below hT.pos hB, _, hb, rfl⟩
theorem InvRow.own {α : Type} {e te sz : Nat} {d : Knd α} (hd : Steady d) {f : List (Bw.N × Nat) -> List α} {w0 : World} {o : Nat} : OwnFrom w0.heap.size (InvRow e te sz d f w0 o) := by
  rintro pre X Y row ⟨vo, hb, hown, hB⟩ hg hr
  refine ⟨vo, hb.kept hg (fun e' => ?_), own_steady hd hown hg (fun r e => (hr r e).2), hB.grown hg hB.size (fun r e => (hr r e).1)⟩
  obtain ⟨_, o', ho, hc⟩ := hr o e'.symm
  rw [show X.heap[o]? = _ from hb] at ho; cases ho; cases hc
open Go.RowKit Go.Bw
mutual
def _root_.Bw.N.pairs : Bw.N -> List Bw.PV
  | .leaf _ p => [p]
  | .bucket _ t => t.list
  | .branch _ kids => Bw.N.pairsL kids
def _root_.Bw.N.pairsL : List Bw.N -> List Bw.PV
  | [] => []
  | k :: r => k.pairs ++ Bw.N.pairsL r
end
theorem pairsL_flat (kids : List Bw.N) : Bw.N.pairsL kids = kids.flatMap Bw.N.pairs := by
  induction kids with
  | nil => rfl
  | cons k r ih => simp [Bw.N.pairsL, ih]
theorem run_app_none {w : World} {AO : Option Addr} {n co : Nat} (ty : TypeId) (h : n <= co) (h0 : AO = none -> co = 0) :
    (Builtin.append_ #[40, 40] ty #[.slice AO n co, .slice none 0 0]).run Tryz.prog w = .ok (.slice AO n co) w := by
  obtain ⟨i0, hi, hz0, hz1, hz2⟩ := info_parts infoP
  cases AO with
  | none =>
    have hc := h0 rfl
    subst hc
    obtain rfl : n = 0 := by omega
    simp [Builtin.append_, run_underlying Tryz.underlying40, sizeOf, typeInfo, hi, Builtin.lenOf, run_firstCells_none]
  | some ad =>
    simp [Builtin.append_, run_underlying Tryz.underlying40, sizeOf, typeInfo, hi, Builtin.lenOf, run_firstCells_none, storeCells, h]
theorem wp_app_same {P : Program} {ops : Array Oper} {Q : Exit -> Act -> World -> Prop} {o : Oper} {rest : List Oper} {a : Act} {w : World} {v u : Value} (hgd : o.guard = none) (s x : Operand) (t : TypeId)
    (ho : o.op = .call { callee := .builtin .append, args := #[s, x], argTypes := #[t, t] }) (hs : a.eval s = v) (hx : a.eval x = u) (hr : (Builtin.append_ #[t, t] o.type #[v, u]).run P w = .ok v w)
    (h : wpList P ops Q rest (a.put o.dst v) w) : wpList P ops Q (o :: rest) a w :=
  wpList_plain hgd fun _ hK => by
    unfold Oper.wp execOp
    simp only [ho, resolve, invoke, builtin, Sem.run_bind, Sem.run_pure, Result.andThen_ok, List.map_toArray, List.map_cons, List.map_nil, hs, hx, hr]
    exact hK _ _ h
def ColRel (xs : List Bw.PV) (kids : List Bw.N) (base : Nat) (w : World) (v i : Value) (wr : World) : Prop :=
  ∃ k : Nat, k <= kids.length /\ i = .int .i64 k /\ OwnAt 62 2 pairK AllB wr base v (xs ++ Bw.N.pairsL (kids.take k)) /\ Below base w wr
theorem low_pair {base : Nat} {w : World} {v u : Value} {l : Bw.Bytes} {xs : List Bw.PV} (hown : OwnAt 62 2 pairK AllB w base v xs) (h : BytesAt (fun k => k < base) w u l) : BytesAt (fun k => AllB k /\ some k ≠ v.ownBlock) w u l :=
  h.move goodByte (Moves.weaken fun k hk _ => ⟨trivial, fun e => by have := (hown.lt k e.symm).1; omega⟩)
set_option maxRecDepth 100000 in
set_option maxHeartbeats 1000000 in
theorem collect_any (n : Bw.N) : n.fit -> ∀ (v out : Value) (xs : List Bw.PV) (base : Nat) (w : World), OwnAt 62 2 pairK AllB w base out xs -> base <= w.heap.size -> NodeAt nt (fun k => k < base) w v n -> xs.length + n.pairs.length <= 1048576 ->
    Calls Tryz.prog 50 #[out, v] w fun e w' => ∃ v', e = .returned v' /\ OwnAt 62 2 pairK AllB w' base v' (xs ++ n.pairs) /\ Below base w w' := by
  obtain ⟨i0, hi, hz0, hz1, hz2⟩ := info_parts infoP
  have HI := Lib.hid hi; have HZ0 := Lib.hid hz0; have HZ1 := Lib.hid hz1; have HZ2 := Lib.hid hz2
  clear hi hz0 hz1 hz2
  refine Bw.N.ind (P := fun n => n.fit -> ∀ (v out : Value) (xs : List Bw.PV) (base : Nat) (w : World), OwnAt 62 2 pairK AllB w base out xs -> base <= w.heap.size -> NodeAt nt (fun k => k < base) w v n -> xs.length + n.pairs.length <= 1048576 ->
    Calls Tryz.prog 50 #[out, v] w fun e w' => ∃ v', e = .returned v' /\ OwnAt 62 2 pairK AllB w' base v' (xs ++ n.pairs) /\ Below base w w') ?_ ?_ ?_ n
  · intro h p hf v out xs base w hown hb hn hlen
    simp only [NodeAt] at hn
    obtain ⟨b, u1, u2, rfl, ⟨_, c0⟩, ⟨_, c1⟩, ⟨_, c2⟩, hu, hv⟩ := hn
    have hu' := low_pair hown hu
    have hv' := low_pair hown hv
    obtain ⟨U1, e1, rfl⟩ := hu.form
    obtain ⟨U2, e2, rfl⟩ := hv.form
    obtain ⟨AO, co, rfl⟩ := (hown.row goodPair).form
    have HOWN := Lib.hid hown; have HU := Lib.hid hu'; have HV := Lib.hid hv'; have HB := Lib.hid hb; have HL := Lib.hid hlen
    clear hown hu hv hu' hv' hb hlen
    simp only [Bw.N.pairs]
    have t1 := @ta_ll; have t2 := @ta_lb; have t3 := @ta_lr; have t4 := @ta_bl; have t5 := @ta_bb; have t6 := @ta_br; have t7 := @ta_rl; have t8 := @ta_rb; have t9 := @ta_rr
    go_enter Tryz.func50, Tryz.ntmps50
    go_wp2_with (at_builtin; refine wp_app1 goodPair rfl (.tmp 14) (.tmp 19) 40 rfl base 62 i0 _ 48 Tryz.underlying40 HI.out HZ0.out HZ1.out HZ2.out rfl (by decide) (.slice AO xs.length co) xs rfl HOWN.out p #[.slice U1 p.1.length e1, .slice U2 p.2.length e2] 62 (by go_simp) (pairK_mk HU.out HV.out) (fun _ _ => trivial) (by have := HL.out; simp [Bw.N.pairs] at this; omega) (by decide) HB.out ?_; intro v8 w8 hown8 hb8 hat8 hg8)
    obtain ⟨A8, c8, rfl⟩ := (hown8.row goodPair).form
    go_ret
    exact ⟨_, rfl, hown8, hb8⟩
  · intro h t hf v out xs base w hown hb hn hlen
    simp only [NodeAt] at hn
    obtain ⟨b, tv, rfl, ⟨_, c0⟩, ⟨_, c1⟩, ht⟩ := hn
    simp only [Bw.N.fit] at hf
    obtain ⟨_, _, hbd, hsz⟩ := hf
    have CL := Lib.hid (list_any ht hbd hsz)
    obtain ⟨AT, rfl⟩ := ht.form
    obtain ⟨AO, co, rfl⟩ := (hown.row goodPair).form
    have HOWN := Lib.hid hown; have HB := Lib.hid hb; have HL := Lib.hid hlen
    clear hown ht hb hlen hbd hsz
    simp only [Bw.N.pairs]
    have t1 := @ta_ll; have t2 := @ta_lb; have t3 := @ta_lr; have t4 := @ta_bl; have t5 := @ta_bb; have t6 := @ta_br; have t7 := @ta_rl; have t8 := @ta_rb; have t9 := @ta_rr
    go_enter Tryz.func50, Tryz.ntmps50
    go_wp2_with fail
    refine CL.out.mono ?_
    rintro e w1 ⟨q1, rfl, hq1, hb1⟩
    have hown1 : OwnAt 62 2 pairK AllB w1 base (.slice AO xs.length co) xs := HOWN.out.move goodPair (Moves.below hb1)
    have hB1 : Below base w w1 := hb1.mono HB.out
    obtain ⟨AL, cl, rfl⟩ := hq1.form
    have HOWN1 := Lib.hid hown1; have HB1 := Lib.hid hB1; have HQ1 := Lib.hid hq1
    clear hown1 hb1 hB1 hq1
    cases AL with
    | none =>
      have hnil : t.list = [] := by
        have h1 := HQ1.out
        obtain ⟨A', c', e', h2, _, h4, _⟩ := h1
        injection e' with e1 e2 e3
        have := h4 e1.symm
        exact List.eq_nil_of_length_eq_zero (by omega)
      have hc0 : cl = 0 := by
        have h1 := HQ1.out
        obtain ⟨A', c', e', _, _, h4, _⟩ := h1
        injection e' with e1 e2 e3
        rw [e3]; exact h4 e1.symm
      have hl0 : t.list.length = 0 := by rw [hnil]; rfl
      rw [hl0]
      subst hc0
      have HN := Lib.hid hnil
      have hrow := HOWN1.out.row goodPair
      obtain ⟨A', c', e', h2, _, h4, _⟩ := hrow
      injection e' with e1 e2 e3
      subst e1; subst e3
      have hrun := fun (ty : TypeId) => run_app_none (w := w1) ty h2 h4
      clear h2 h4 e2 hnil
      have HRUN := Lib.hid hrun
      clear hrun
      go_wp2_with (at_builtin; refine wp_app_same rfl (.tmp 24) (.tmp 29) 40 rfl rfl rfl (HRUN.out _) ?_)
      go_ret
      exact ⟨_, rfl, by rw [HN.out, List.append_nil]; exact HOWN1.out, HB1.out⟩
    | some ad =>
      have hnews : ∃ news, Reps (pairK (fun k => w.heap.size <= k) w1) 2 t.list news /\ ∀ j u, news[j]? = some u -> w1.cell? (ad.add j) = some u := by
        obtain ⟨bl, ol, sl⟩ := ad
        by_cases hn : t.list = []
        · exact ⟨[], by rw [hn]; exact Reps.nil _ _, fun j u hj => by simp at hj⟩
        · have h1 := HQ1.out
          obtain ⟨A', c', e', h2, _, h4, h5, _⟩ := h1
          injection e' with e1 e2 e3
          have hs := h5 _ e1.symm hn
          cases hs
          obtain ⟨news, hr, hc⟩ := RowAt.news_all goodPair HQ1.out
          exact ⟨news, hr, fun j u hj => by rw [add_none]; exact (hc j u hj).2⟩
      obtain ⟨news, hr, hc⟩ := hnews
      have hr' : Reps (pairK (fun k => AllB k /\ some k ≠ (Value.slice AO xs.length co).ownBlock) w1) 2 t.list news := hr.move goodPair (Moves.weaken fun k hk _ => ⟨trivial, fun e => by have := (HOWN.out.lt k e.symm).2; omega⟩)
      have HR := Lib.hid hr'; have HC := Lib.hid hc
      clear hr hr' hc
      go_wp2_with (at_builtin; refine wp_app goodPair rfl (.tmp 24) (.tmp 29) 40 rfl base 62 i0 _ 48 Tryz.underlying40 HI.out HZ0.out HZ1.out HZ2.out rfl (by decide) (.slice AO xs.length co) xs rfl HOWN1.out ad t.list.length cl t.list news rfl rfl HC.out HR.out (fun _ _ => trivial) (by have := HL.out; simp only [Bw.N.pairs] at this; omega) (by decide) (Nat.le_trans HB.out HB1.out.size) ?_; intro v8 w8 hown8 hg8 hat8)
      obtain ⟨A8, c8, rfl⟩ := (hown8.row goodPair).form
      go_ret
      exact ⟨_, rfl, hown8, HB1.out.grown hg8 (Nat.le_trans HB.out HB1.out.size) (fun k e => (HOWN1.out.lt k e).1)⟩
  · intro m kids ih hf v out xs base w hown hb hn hlen
    simp only [NodeAt] at hn
    obtain ⟨b, g, o, cap, rfl, ⟨_, c0⟩, ⟨_, c1⟩, _, hcap, hmax, hk⟩ := hn
    simp only [Bw.N.fit, Bw.N.fitL_iff] at hf
    have HK := Lib.hid hk
    have HMX : Hid (kids.length <= maxLen) := Lib.hid (Nat.le_trans hcap hmax)
    have HIH := Lib.hid ih
    have HF := Lib.hid hf.2.2
    have HB := Lib.hid hb
    have HL := Lib.hid hlen
    have H0 : Hid (ColRel xs kids base w out (.int .i64 0) w) := Lib.hid ⟨0, Nat.zero_le _, rfl, by simpa [Bw.N.pairsL] using hown, Below.refl _ _⟩
    obtain ⟨AO, co, rfl⟩ := (hown.row goodPair).form
    clear hk ih hf hb hlen hown hcap hmax
    have t1 := @ta_ll; have t2 := @ta_lb; have t3 := @ta_lr; have t4 := @ta_bl; have t5 := @ta_bb; have t6 := @ta_br; have t7 := @ta_rl; have t8 := @ta_rb; have t9 := @ta_rr
    go_enter Tryz.func50, Tryz.ntmps50
    go_wp2_with fail
    go_loopw [0, 39] (ColRel xs kids base w) (fun _ i _ => kids.length - (intOf i).toNat)
    case atStart => exact H0.out
    case round =>
      obtain ⟨j, hj, rfl, hown, hB⟩ := hrel
      by_cases hlt : j < kids.length
      · obtain ⟨cs, ⟨vk, rfl, hvk⟩, hck⟩ := row_of_kids HK.out j (some kids[j]) (by rw [List.getElem?_map, List.getElem?_eq_getElem hlt]; rfl)
        have d0 := (hck 0 vk rfl).2
        simp only [Nat.mul_one, Nat.add_zero] at d0
        have hg := (hck 0 vk rfl).1
        simp only [ONodeAt] at hvk
        have e0 := (hB.cell (p := ⟨g, o + j, none⟩) hg).trans d0
        have hmem : kids[j] ∈ kids := List.getElem_mem hlt
        have hsum : (xs ++ Bw.N.pairsL (kids.take j)).length + kids[j].pairs.length <= 1048576 := by
          have h1 : Bw.N.pairsL kids = Bw.N.pairsL (kids.take j) ++ (kids[j].pairs ++ Bw.N.pairsL (kids.drop (j + 1))) := by
            conv => lhs; rw [<- List.take_append_drop j kids, List.drop_eq_getElem_cons hlt]
            rw [pairsL_flat, List.flatMap_append, <- pairsL_flat, List.flatMap_cons, <- pairsL_flat]
          have := HL.out
          simp only [Bw.N.pairs] at this
          rw [h1] at this
          simp only [List.length_append] at this ⊢
          omega
        have CI := Lib.hid (HIH.out kids[j] hmem (HF.out _ hmem) vk _ (xs ++ Bw.N.pairsL (kids.take j)) base wr hown (Nat.le_trans HB.out hB.size) (NodeAt.move (fun k hk hl => ⟨hk, hB.block k hk⟩) _ _ hvk) hsum)
        have hs : xs ++ Bw.N.pairsL (kids.take j) ++ kids[j].pairs = xs ++ Bw.N.pairsL (kids.take (j + 1)) := by
          rw [take_succ_snoc hlt, pairsL_flat (kids.take j ++ _), List.flatMap_append, <- pairsL_flat]; simp
        obtain ⟨t0, b0, rfl⟩ := hvk.form
        have h0 : (0 : Int) <= (j : Int) := by omega
        have h1 : (j : Int) < (kids.length : Int) := by omega
        have HBW := Lib.hid hB
        have HS := Lib.hid hs
        obtain ⟨AJ, cj, rfl⟩ := (hown.row goodPair).form
        clear hvk d0 hck hB hs hmem hown hsum
        generalize (xs ++ Bw.N.pairsL (kids.take j)).length = LL at *
        go_wp2_with fail
        refine CI.out.mono ?_
        rintro e w2 ⟨v2, rfl, hown2, hb2⟩
        rw [HS.out] at hown2
        go_wp2
        exact ⟨⟨j + 1, hlt, int_succM hlt HMX.out, hown2, HBW.out.trans hb2⟩, less_succM hlt HMX.out⟩
      · obtain rfl : j = kids.length := by omega
        rw [List.take_length] at hown
        obtain ⟨AJ, cj, rfl⟩ := (hown.row goodPair).form
        have HOWN := Lib.hid hown; have HBW := Lib.hid hB
        clear hown hB
        generalize (xs ++ Bw.N.pairsL kids).length = LL at *
        go_wp2
        go_ret
        exact ⟨_, rfl, by simpa [Bw.N.pairs] using HOWN.out, HBW.out⟩
open Go.RowKit Go.Bw Go.Shelf Go.Proofs
def sortPRen : Go.Shelf.Ren := ⟨fun | 6 => 51 | 15 => 86 | 14 => 85 | 28 => 113 | 29 => 114 | 20 => 105 | 21 => 106 | 22 => 107 | 23 => 108 | 24 => 109 | 25 => 110 | 26 => 111 | 27 => 112 | 46 => 134 | 47 => 135 | 48 => 136 | 49 => 137 | 50 => 138 | 57 => 154 | n => n, fun | 22 => 40 | 24 => 62 | 25 => 113 | 3 => 3 | 39 => 148 | 0 => 0 | 53 => 84 | 55 => 47 | 4 => 4 | 46 => 183 | 45 => 182 | 50 => 187 | 5 => 5 | 9 => 9 | 66 => 208 | 70 => 211 | 76 => 222 | 77 => 223 | n => n, fun | n => n⟩
theorem sortP : Go.Proofs.SlLaysF0.n6 Tryz.prog sortPRen := {
  mixed := by kernel_rfl
  f6 := ⟨Tryz.f51.name, by decide, Tryz.func51.trans (congrArg some (by kernel_rfl))⟩
  f14 := ⟨Tryz.f85.name, by decide, Tryz.func85.trans (congrArg some (by kernel_rfl))⟩
  f15 := Tryz.func86.trans (congrArg some (by kernel_rfl))
  f20 := ⟨Tryz.f105.name, by decide, Tryz.func105.trans (congrArg some (by kernel_rfl))⟩
  f21 := ⟨Tryz.f106.name, by decide, Tryz.func106.trans (congrArg some (by kernel_rfl))⟩
  f22 := ⟨Tryz.f107.name, by decide, Tryz.func107.trans (congrArg some (by kernel_rfl))⟩
  f23 := ⟨Tryz.f108.name, by decide, Tryz.func108.trans (congrArg some (by kernel_rfl))⟩
  f24 := ⟨Tryz.f109.name, by decide, Tryz.func109.trans (congrArg some (by kernel_rfl))⟩
  f25 := ⟨Tryz.f110.name, by decide, Tryz.func110.trans (congrArg some (by kernel_rfl))⟩
  f26 := ⟨Tryz.f111.name, by decide, Tryz.func111.trans (congrArg some (by kernel_rfl))⟩
  f27 := ⟨Tryz.f112.name, by decide, Tryz.func112.trans (congrArg some (by kernel_rfl))⟩
  f28 := Tryz.func113.trans (congrArg some (by kernel_rfl))
  f29 := Tryz.func114.trans (congrArg some (by kernel_rfl))
  f46 := ⟨Tryz.f134.name, by decide, Tryz.func134.trans (congrArg some (by kernel_rfl))⟩
  f47 := Tryz.func135.trans (congrArg some (by kernel_rfl))
  f48 := Tryz.func136.trans (congrArg some (by kernel_rfl))
  f49 := ⟨Tryz.f137.name, by decide, Tryz.func137.trans (congrArg some (by kernel_rfl))⟩
  f50 := ⟨Tryz.f138.name, by decide, Tryz.func138.trans (congrArg some (by kernel_rfl))⟩
  f57 := ⟨Tryz.f154.name, by decide, Tryz.func154.trans (congrArg some (by kernel_rfl))⟩
  t0 := Tryz.underlying0
  a0 := Tryz.isAgg0
  z0 := Tryz.sizeOf0
  v0 := Tryz.zeroValue0
  t3 := Tryz.underlying3
  a3 := Tryz.isAgg3
  z3 := Tryz.sizeOf3
  v3 := Tryz.zeroValue3
  t4 := Tryz.underlying4
  a4 := Tryz.isAgg4
  z4 := Tryz.sizeOf4
  v4 := Tryz.zeroValue4
  t5 := Tryz.underlying5
  a5 := Tryz.isAgg5
  z5 := Tryz.sizeOf5
  v5 := Tryz.zeroValue5
  t9 := Tryz.underlying9
  a9 := Tryz.isAgg9
  z9 := Tryz.sizeOf9
  v9 := Tryz.zeroValue9
  t22 := Tryz.underlying40
  a22 := Tryz.isAgg40
  z22 := Tryz.sizeOf40
  v22 := Tryz.zeroValue40
  t25 := Tryz.underlying113
  a25 := Tryz.isAgg113
  z25 := Tryz.sizeOf113
  v25 := Tryz.zeroValue113
  t39 := Tryz.underlying148
  a39 := Tryz.isAgg148
  z39 := Tryz.sizeOf148
  v39 := Tryz.zeroValue148
  t45 := Tryz.underlying182
  a45 := Tryz.isAgg182
  z45 := Tryz.sizeOf182
  v45 := Tryz.zeroValue182
  t46 := Tryz.underlying183
  a46 := Tryz.isAgg183
  z46 := Tryz.sizeOf183
  v46 := Tryz.zeroValue183
  t50 := Tryz.underlying187
  a50 := Tryz.isAgg187
  z50 := Tryz.sizeOf187
  v50 := Tryz.zeroValue187
  t53 := Tryz.underlying84
  a53 := Tryz.isAgg84
  z53 := Tryz.sizeOf84
  v53 := Tryz.zeroValue84
  t55 := Tryz.underlying47
  a55 := Tryz.isAgg47
  z55 := Tryz.sizeOf47
  v55 := Tryz.zeroValue47
  t66 := Tryz.underlying208
  a66 := Tryz.isAgg208
  z66 := Tryz.sizeOf208
  v66 := Tryz.zeroValue208
  t70 := Tryz.underlying211
  a70 := Tryz.isAgg211
  z70 := Tryz.sizeOf211
  v70 := Tryz.zeroValue211
  t76 := Tryz.underlying222
  a76 := Tryz.isAgg222
  z76 := Tryz.sizeOf222
  v76 := Tryz.zeroValue222
  t77 := Tryz.underlying223
  a77 := Tryz.isAgg223
  z77 := Tryz.sizeOf223
  v77 := Tryz.zeroValue223 }
def CmpKeys (K : Nat) : Prop := ∀ (ok ok' : Nat -> Prop) (u v u' v' : Value) (a b : Bw.Bytes) (w : World), BytesAt ok w u a -> BytesAt ok' w v b ->
  Calls Tryz.prog K #[.agg #[u, u'], .agg #[v, v']] w fun e w' => e = .returned (.int .i64 (Lib.compareBytes a b)) /\ w' = (w.alloc (.cells #[u, u'] 62)).alloc (.cells #[v, v'] 62)
open Go.Sort in
theorem cmpLaysK {K : Nat} (hK : CmpKeys K) {ok : Nat -> Prop} {w : World} {g size : Nat} (hlt : g < w.heap.size) : CmpLays Tryz.prog K #[] (El.enc (ok := fun k => ok k /\ some k ≠ some g) (w := w)) 2 El.cf g 0 size w := by
  intro m os dk _ x y
  have hgr : w.grownBy (sortWorldK El.enc 2 w g 0 m dk os) (some g) := grown_sortWorld hlt m dk os
  have mv : Moves (fun k => ok k /\ some k ≠ some g) (fun k => ok k /\ some k ≠ some g) w (sortWorldK El.enc 2 w g 0 m dk os) := fun k hk hl => ⟨hk, hgr.block k hl hk.2⟩
  refine (hK _ _ _ _ _ _ _ _ _ (x.hu.move goodByte mv) (y.hu.move goodByte mv)).mono ?_
  rintro e w' ⟨rfl, rfl⟩
  exact ⟨rfl, 0, _, by rw [alloc_eq_grow, alloc_eq_grow, grow_grow]; rfl⟩
theorem swoEl {ok : Nat -> Prop} {w : World} : Go.Sort.SWO (ltOf (El.cf (ok := ok) (w := w))) where
  irrefl := fun x => by
    have := el_less x x
    cases h : ltOf El.cf x x with
    | false => rfl
    | true => exact absurd (this.1 h) (Bw.lt_irrefl _)
  trans := fun x y z h1 h2 => (el_less x z).2 (Bw.lt_trans ((el_less x y).1 h1) ((el_less y z).1 h2))
  ntrans := fun x y z h1 h2 => by
    cases h : ltOf El.cf x z with
    | false => rfl
    | true =>
      have h3 := (el_less x z).1 h
      have n1 : ¬ Bw.lt x.p.1 y.p.1 := fun e => by rw [(el_less x y).2 e] at h1; cases h1
      have n2 : ¬ Bw.lt y.p.1 z.p.1 := fun e => by rw [(el_less y z).2 e] at h2; cases h2
      exact absurd h3 (Bw.not_lt_trans n2 n1)
set_option maxHeartbeats 400000 in
theorem sortp_any {K : Nat} (hK : CmpKeys K) (eg : ∀ args w, (callFunc K args).run Tryz.prog w = .ok (.enter K args) w) {ok : Nat -> Prop} {w : World} {base g n cap : Nat} {xs : List Bw.PV}
    (hown : OwnAt 62 2 pairK ok w base (.slice (some ⟨g, 0, none⟩) n cap) xs) (hn : xs.length <= 1048576) (hu : xs.Pairwise fun a b => a.1 ≠ b.1) :
    Calls Tryz.prog 51 #[.slice (some ⟨g, 0, none⟩) n cap, .func (.func K) #[] #[]] w fun e w' =>
      e = .returned (.tuple #[]) /\ OwnAt 62 2 pairK ok w' base (.slice (some ⟨g, 0, none⟩) n cap) (Bw.come xs) /\ w.grownBy w' (some g) := by
  have hown' := hown
  obtain ⟨_, inner, ho, hr0⟩ := hown'
  have hr : Reps (pairK (fun k => ok k /\ some k ≠ some g) w) 2 xs inner := hr0
  clear hr0
  have hlt := (ho.lt g rfl).2
  obtain ⟨ds, hds, hel⟩ := els_of_reps hr
  have hlen : ds.length = xs.length := by rw [<- hds, List.length_map]
  rw [<- hlen] at ho
  have hH := holds_of_own (ok' := ok) ho hel
  have hnn : n = ds.toArray.size := by
    rcases ho.2 with ⟨h, _⟩ | ⟨g', cap', cur, he, _⟩
    · cases h
    · injection he
  have hcon := AnyQ.slices_SortFunc sortP 2 Tryz.isAgg62 Tryz.sizeOf62 El.enc El.enc_len El.enc_one El.cf swoEl K #[] g 0 cap ds.toArray w eg (cmpLaysK hK hlt) hH hlt (by simp [hlen]; omega)
  rw [<- hnn] at hcon
  refine Calls.mono hcon ?_
  rintro e w' ⟨rfl, d', m, os, ⟨hsz, _, hperm⟩, hsort, rfl⟩
  have e1 : d'.extract 0 ds.toArray.size = d' := by rw [<- hsz]; exact Array.extract_size
  have e2 : ds.toArray.extract 0 ds.toArray.size = ds.toArray := Array.extract_size
  rw [hnn, e1, e2, List.toList_toArray] at hperm
  have hfin := own_of_sorted hown (d := d') (m := m) (by rw [hsz]; simp [hlen]) os
  have hp : (d'.toList.map El.p).Perm xs := by rw [<- hds]; exact hperm.map _
  have hun : (d'.toList.map El.p).Pairwise fun a b => a.1 ≠ b.1 := (hp.pairwise_iff (fun h e => h e.symm)).2 hu
  have hri : Bw.Rises (d'.toList.map El.p) := by
    rw [List.pairwise_map] at hun
    unfold Bw.Rises
    rw [List.pairwise_map, List.pairwise_iff_getElem] at *
    intro i j hi hj hij
    have hi' : i < d'.size := by simpa using hi
    have hj' : j < d'.size := by simpa using hj
    have hs := hsort i j (Nat.zero_le _) hij (by omega)
    rw [getElem!_pos d' j hj', getElem!_pos d' i hi'] at hs
    have hne := hun i j hi hj hij
    simp only [Array.getElem_toList] at hne ⊢
    rcases Bw.lt_or d'[i].p.1 d'[j].p.1 with h | h | h
    · exact h
    · exact absurd h hne
    · rw [(el_less _ _).2 h] at hs; cases hs
  have hc : d'.toList.map El.p = Bw.come xs := Bw.rises_ext hri (Bw.rises_come xs) fun x => by rw [Bw.mem_come_iff hu, hp.mem_iff]
  rw [hc] at hfin
  exact ⟨rfl, hfin⟩
set_option maxRecDepth 100000 in
set_option maxHeartbeats 400000 in
theorem pairsc_any : CmpKeys 52 := by
  intro ok ok' u v u' v' a b w hu hv
  have hB : Go.RowKit.Below w.heap.size w ((w.alloc (.cells #[u, u'] 62)).alloc (.cells #[v, v'] 62)) := by exact gB1
  have HC := Lib.hid (kcmp_any _ (hu.move goodByte (Moves.below hB)) (hv.move goodByte (Moves.below hB)))
  clear hu hv hB
  generalize Lib.compareBytes a b = r at *
  go_enter Tryz.func52, Tryz.ntmps52
  go_wp2_with fail
  refine HC.out.mono ?_
  rintro e w1 ⟨rfl, rfl⟩
  go_wp2
  go_ret
  exact ⟨rfl, rfl⟩
theorem fit_pairs (n : Bw.N) : n.fit -> ∀ p ∈ n.pairs, p.1.length <= 1048576 /\ p.2.length <= 1048576 := by
  refine Bw.N.ind (P := fun n => n.fit -> ∀ p ∈ n.pairs, p.1.length <= 1048576 /\ p.2.length <= 1048576) ?_ ?_ ?_ n
  · intro h p hf q hq
    simp only [Bw.N.pairs, List.mem_singleton] at hq
    subst hq
    exact hf
  · intro h t hf q hq
    simp only [Bw.N.fit] at hf
    exact hf.2.2.1 q hq
  · intro m kids ih hf q hq
    simp only [Bw.N.fit, Bw.N.fitL_iff] at hf
    simp only [Bw.N.pairs, pairsL_flat, List.mem_flatMap] at hq
    obtain ⟨k, hk, hq⟩ := hq
    exact ih k hk (hf.2.2 k hk) q hq
theorem own_rebase {α : Type} {e sz base base' : Nat} {d : Knd α} {ok : Nat -> Prop} {w : World} {v : Value} {xs : List α} (h : OwnAt e sz d ok w base v xs) (hb : base' <= base) : OwnAt e sz d ok w base' v xs := by
  obtain ⟨h1, inner, ho, hr⟩ := h
  exact ⟨h1, inner, ⟨ho.1, ho.2.imp id fun ⟨g, c, cur, k1, k2, k3⟩ => ⟨g, c, cur, k1, Nat.le_trans hb k2, k3⟩⟩, hr⟩
set_option maxRecDepth 100000 in
set_option maxHeartbeats 1000000 in
theorem npairs_any {ok : Nat -> Prop} {nv : Value} {n : Bw.N} {w : World} (hf : n.fit) (hn : NodeAt nt ok w nv n) (hl : n.pairs.length <= 1048576) (hu : n.pairs.Pairwise fun a b => a.1 ≠ b.1) :
    Calls Tryz.prog 28 #[nv] w (Gives w fun q w' => ∃ g cap, q = .slice (some ⟨g, 0, none⟩) n.pairs.length cap /\ OwnAt 62 2 pairK (fun k => w.heap.size <= k) w' w.heap.size q (Bw.come n.pairs)) := by
  have CC := Lib.hid (collect_any n hf nv (.slice none 0 0) [] w.heap.size w OwnAt.nil (Nat.le_refl _) (NodeAt.move (Moves.weaken fun k _ hl => hl) _ _ hn) (by simpa using hl))
  have HL := Lib.hid hl
  have HF := Lib.hid (fit_pairs n hf)
  have HU := Lib.hid hu
  have hE := enters_of Tryz.func52 (by kernel_rfl) rfl
  have HE := Lib.hid hE
  obtain ⟨tn, bn, rfl⟩ := hn.form
  clear hn hl hu hf hE
  rw [List.nil_append] at CC
  generalize n.pairs = l at *
  go_enter Tryz.func28, Tryz.ntmps28
  go_wp2_with fail
  refine CC.out.mono ?_
  rintro e w1 ⟨v1, rfl, hown1, hb1⟩
  have CO := Lib.hid (pown_any HL.out HF.out (hown1.row goodPair))
  obtain ⟨A1, c1, rfl⟩ := (hown1.row goodPair).form
  have HB1 := Lib.hid hb1
  clear hown1 hb1
  go_wp2_with fail
  refine CO.out.mono ?_
  rintro e w2 ⟨v2, rfl, ⟨g, cap, rfl, hown2⟩, hb2⟩
  have CS := Lib.hid (sortp_any pairsc_any HE.out hown2 HL.out HU.out)
  have HB2 := Lib.hid (HB1.out.trans (hb2.mono HB1.out.size))
  have HG := Lib.hid (hown2.lt g rfl)
  have HS1 := Lib.hid HB1.out.size
  clear hown2 hb2
  go_wp2_with fail
  refine CS.out.mono ?_
  rintro e w3 ⟨rfl, hown3, hg3⟩
  go_wp2
  go_ret
  refine ⟨_, rfl, ⟨g, cap, rfl, ?_⟩, HB2.out.grown hg3 HB2.out.size (fun k e => by cases e; exact Nat.le_trans HS1.out HG.out.1)⟩
  have h3 : OwnAt 62 2 pairK (fun k => w.heap.size <= k) w3 w1.heap.size (.slice (some ⟨g, 0, none⟩) l.length cap) (Bw.come l) := hown3.move goodPair (Moves.weaken fun k hk _ => Nat.le_trans HS1.out hk)
  exact own_rebase h3 HS1.out
open Go.RowKit Go.Bw
open Go.RowKit Go.Bw Go.Shelf
open Go.RowKit Go.Bw
theorem lays_visits {level : Nat} {n : Bw.N} {S : Bw.En -> Prop} (h : Bw.Lays level n S) : ∀ l : List Bw.En, Bw.Unlike l -> (∀ e, e ∈ l ↔ S e) -> level <= 13 -> (∃ r, ∀ e, S e -> e.1 % 32 ^ level = r) -> (∀ e, S e -> e.1 < 18446744073709551616) ->
    1 <= l.length /\ (∀ x ∈ n.visits level, x.2 <= 13) /\ (n.visits level).length <= l.length * (14 - level) := by
  induction h with
  | @leaf level h p S hs =>
    intro l hu hm hlv _ _
    have h1 : 1 <= l.length := List.length_pos_iff.2 (List.ne_nil_of_mem ((hm (h, p)).2 ((hs _).2 rfl)))
    refine ⟨h1, ?_, ?_⟩
    · intro x hx; simp only [Bw.N.visits, List.mem_singleton] at hx; subst hx; exact hlv
    · simp only [Bw.N.visits, List.length_singleton]; exact Nat.mul_pos h1 (by omega)
  | @bucket level h t S he hr h2 hs =>
    intro l hu hm hlv _ _
    obtain ⟨a, b, r, hl⟩ := Bw.two_of_length h2
    have h1 : 1 <= l.length := List.length_pos_iff.2 (List.ne_nil_of_mem ((hm (h, a)).2 ((hs _).2 ⟨rfl, by rw [hl]; simp⟩)))
    refine ⟨h1, ?_, ?_⟩
    · intro x hx; simp only [Bw.N.visits, List.mem_singleton] at hx; subst hx; exact hlv
    · simp only [Bw.N.visits, List.length_singleton]; exact Nat.mul_pos h1 (by omega)
  | @branch level m kids S hm32 hl h2 hc hk ih =>
    intro l hu hm hlv hr hb
    have hlv12 := Bw.lays_branch_level (Bw.Lays.branch hm32 hl h2 hc hk) hlv hr hb
    obtain ⟨a, b, ha, _⟩ := h2
    have h1 : 1 <= l.length := List.length_pos_iff.2 (List.ne_nil_of_mem ((hm a).2 ha))
    have key : ∀ (j : Nat) (hj : j < kids.length), (∀ x ∈ kids[j].visits (level + 1), x.2 <= 13) /\ (kids[j].visits (level + 1)).length <= (Bw.partOf level ((Bw.bitsOf m)[j]'(by omega)) l).length * (13 - level) := by
      intro j hj
      have hjb : j < (Bw.bitsOf m).length := by omega
      have hp := ih j _ _ (List.getElem?_eq_getElem hjb) (List.getElem?_eq_getElem hj) (Bw.partOf level ((Bw.bitsOf m)[j]) l) (hu.filter _) (fun e => by rw [Bw.mem_partOf, hm]) (by omega)
        (by
          obtain ⟨r, hr⟩ := hr
          obtain ⟨e0, he0⟩ := (hk j _ _ (List.getElem?_eq_getElem hjb) (List.getElem?_eq_getElem hj)).some
          exact ⟨e0.1 % 32 ^ (level + 1), fun e he => Bw.chunk_inj ((hr e he.1).trans (hr e0 he0.1).symm) (he.2.trans he0.2.symm)⟩)
        (fun e he => hb e he.1)
      exact ⟨hp.2.1, by have := hp.2.2; rwa [show 14 - (level + 1) = 13 - level by omega] at this⟩
    have hsum : ∀ k, k <= kids.length -> (∀ x ∈ Bw.N.visitsL (level + 1) (kids.take k), x.2 <= 13) /\ (Bw.N.visitsL (level + 1) (kids.take k)).length <= (((Bw.bitsOf m).take k).map fun c => (Bw.partOf level c l).length).sum * (13 - level) := by
      intro k
      induction k with
      | zero => intro _; simp [Bw.N.visitsL]
      | succ k ihk =>
        intro hk'
        have hlt : k < kids.length := by omega
        obtain ⟨i1, i2⟩ := ihk (by omega)
        obtain ⟨k1, k2⟩ := key k hlt
        rw [take_succ_snoc hlt, take_succ_snoc (show k < (Bw.bitsOf m).length by omega), Bw.N.visitsL_append]
        refine ⟨fun x hx => ?_, ?_⟩
        · rcases List.mem_append.1 hx with hx | hx
          · exact i1 x hx
          · simp only [Bw.N.visitsL, List.append_nil] at hx; exact k1 x hx
        · simp only [List.length_append, Bw.N.visitsL, List.append_nil, List.map_append, List.map_cons, List.map_nil, List.sum_append, List.sum_cons, List.sum_nil, Nat.add_zero, Nat.add_mul]
          omega
    obtain ⟨s1, s2⟩ := hsum kids.length (Nat.le_refl _)
    rw [List.take_length] at s1 s2
    rw [hl, List.take_length] at s2
    have hall := Bw.sum_parts (fun e : Bw.En => Bw.chunkAt e.1 level) l (Bw.bitsOf m) (Bw.nodup_bitsOf m) (fun e he => hc e ((hm e).1 he))
    have hall' : ((Bw.bitsOf m).map fun c => (Bw.partOf level c l).length).sum = l.length := hall
    rw [hall'] at s2
    refine ⟨h1, fun x hx => ?_, ?_⟩
    · simp only [Bw.N.visits] at hx
      rcases List.mem_cons.1 hx with rfl | hx
      · exact hlv
      · exact s1 x hx
    · simp only [Bw.N.visits, List.length_cons]
      rw [show 14 - level = (13 - level) + 1 by omega, Nat.mul_succ]
      omega
def wtE (x : Bw.N × Nat) : Nat := 1 + x.1.held.length
theorem vol_wtE (l : List (Bw.N × Nat)) : vol wtE l = l.length + (Bw.heldOf l).length := by
  induction l with
  | nil => rfl
  | cons a r ih => rw [vol_cons, ih]; simp only [wtE, Bw.heldOf, List.flatMap_cons, List.length_append, List.length_cons]; omega
theorem held_count (n : Bw.N) : ∀ lv, (Bw.heldOf (n.visits lv)).length = n.count := by
  refine Bw.N.ind (P := fun n => ∀ lv, (Bw.heldOf (n.visits lv)).length = n.count) ?_ ?_ ?_ n
  · intro h p lv; simp [Bw.heldOf, Bw.N.visits, Bw.N.held, Bw.N.count]
  · intro h t lv; simp [Bw.heldOf, Bw.N.visits, Bw.N.held, Bw.N.count, Bw.T.length_list]
  · intro m kids ih lv
    have : ∀ ks : List Bw.N, (∀ k ∈ ks, k ∈ kids) -> (Bw.heldOf (Bw.N.visitsL (lv + 1) ks)).length = Bw.N.countL ks := by
      intro ks
      induction ks with
      | nil => intro _; rfl
      | cons k r ihr =>
        intro hm
        simp only [Bw.N.visitsL, Bw.heldOf_append, List.length_append, Bw.N.countL, ih k (hm k (by simp)) (lv + 1), ihr fun x hx => hm x (by simp [hx])]
    have h := this kids fun _ h => h
    simp only [Bw.N.count, Bw.N.visits]
    rw [<- h]
    simp [Bw.heldOf, Bw.N.held]
structure Slim (n : Bw.N) : Prop where
  fit : n.fit
  deep : ∀ x ∈ n.visits 0, x.2 <= 100000
  few : vol wtE (n.visits 0) <= 100000
end Go.Proofs.YtadaoceidkagfaaGreatDoor
