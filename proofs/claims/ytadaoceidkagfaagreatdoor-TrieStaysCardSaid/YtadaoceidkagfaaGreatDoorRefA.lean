
import Derived.Test.YtadaoceidkagfaaGreatDoorNodeA
import Derived.Deep.QuietTactic
import Derived.BigQuiet
import Derived.Test.YtadaoceidkagfaaGreatDoorOwn
import Derived.Test.YtadaoceidkagfaaGreatDoorBwAll
import Derived.Deep.RegionHeld3
namespace Go.Proofs.YtadaoceidkagfaaGreatDoor
open Go.RowKit Go.Bw
theorem _root_.Bw.cmp_app (p x y : Bw.Bytes) : Lib.compareBytes (p ++ x) (p ++ y) = Lib.compareBytes x y := by
  induction p with
  | nil => rfl
  | cons a r ih => simp [Lib.compareBytes, UInt8.lt_irrefl, ih]
theorem _root_.Bw.lt_at {a b : Bw.Bytes} {k : Nat} (hk : a.take k = b.take k) (ha : k < a.length) (hb : k < b.length) (hne : a[k] ≠ b[k]) : decide (Bw.lt a b) = decide (a[k].toNat < b[k].toNat) := by
  have h1 : a = a.take k ++ a[k] :: a.drop (k + 1) := by rw [<- List.drop_eq_getElem_cons ha, List.take_append_drop]
  have h2 : b = a.take k ++ b[k] :: b.drop (k + 1) := by rw [hk, <- List.drop_eq_getElem_cons hb, List.take_append_drop]
  have h3 : Lib.compareBytes a b = Lib.compareBytes (a[k] :: a.drop (k + 1)) (b[k] :: b.drop (k + 1)) := by
    conv => lhs; rw [h1, h2]
    exact Bw.cmp_app _ _ _
  rw [decide_eq_decide]
  unfold Bw.lt
  rw [h3]
  simp only [Lib.compareBytes]
  have hh : ¬ (a[k].toNat = b[k].toNat) := fun e => hne (UInt8.toNat_inj.1 e)
  by_cases c : a[k] < b[k]
  · have := UInt8.lt_iff_toNat_lt.1 c
    simp only [c, if_true, true_iff]; omega
  · have h4 : ¬ a[k].toNat < b[k].toNat := fun e => c (UInt8.lt_iff_toNat_lt.2 e)
    have c2 : b[k] < a[k] := UInt8.lt_iff_toNat_lt.2 (by omega)
    simp only [c, c2, if_true, if_false]; omega
theorem _root_.Bw.lt_end {a b : Bw.Bytes} {k : Nat} (hk : a.take k = b.take k) (h : k = a.length \/ k = b.length) (ha : k <= a.length) (hb : k <= b.length) : decide (Bw.lt a b) = decide (a.length < b.length) := by
  have h1 : a = a.take k ++ a.drop k := (List.take_append_drop _ _).symm
  have h2 : b = a.take k ++ b.drop k := by rw [hk, List.take_append_drop]
  have h3 : Lib.compareBytes a b = Lib.compareBytes (a.drop k) (b.drop k) := by
    conv => lhs; rw [h1, h2]
    exact Bw.cmp_app _ _ _
  rw [decide_eq_decide]
  unfold Bw.lt
  rw [h3]
  rcases h with h | h
  · rw [List.drop_eq_nil_of_le (by omega)]
    rcases hd : b.drop k with _ | ⟨x, r⟩
    · have := congrArg List.length hd
      simp only [List.length_drop, List.length_nil] at this
      simp only [Lib.compareBytes]
      omega
    · have := congrArg List.length hd
      simp only [List.length_drop, List.length_cons] at this
      simp only [Lib.compareBytes, true_iff]
      omega
  · rw [show b.drop k = [] from List.drop_eq_nil_of_le (by omega)]
    rcases a.drop k with _ | ⟨x, r⟩
    · simp only [Lib.compareBytes]; omega
    · simp only [Lib.compareBytes]; omega
abbrev tb (a : ByteArray) : Bw.Bytes := a.data.toList
def LessRel (a b : ByteArray) (w : World) (i : Value) (wr : World) : Prop :=
  ∃ (k n : Nat), k <= a.size /\ k <= b.size /\ i = .int .i64 k /\ (tb a).take k = (tb b).take k /\ wr = w.drewN n
set_option maxRecDepth 100000 in
set_option maxHeartbeats 400000 in
theorem less_any (a b : ByteArray) (w : World) (ha : a.size <= 1048576) (_hb : b.size <= 1048576) :
    Calls Tryz.prog 48 #[.string a, .string b] w fun e w' => e = .returned (.bool (decide (Bw.lt (tb a) (tb b)))) /\ ∃ n, w' = w.drewN n := by
  have H0 : Hid (LessRel a b w (.int .i64 0) w) := Lib.hid ⟨0, 0, Nat.zero_le _, Nat.zero_le _, rfl, rfl, rfl⟩
  go_enter Tryz.func48, Tryz.ntmps48
  go_wp2_with fail
  go_loopw [5] (LessRel a b w) (fun i _ => a.size - (intOf i).toNat)
  case atStart => exact H0.out
  case round =>
    obtain ⟨k, n, hka, hkb, rfl, htk, rfl⟩ := hrel
    have HT := Lib.hid htk
    clear htk H0
    by_cases h1 : k < a.size
    · have h2 : (k : Int) < (a.size : Int) := by omega
      have h3 : (0 : Int) <= (k : Int) := by omega
      by_cases h4 : k < b.size
      · have h5 : (k : Int) < (b.size : Int) := by omega
        have e1 : (tb a)[k]'(by simpa using h1) = a[k] := by simp [tb, ByteArray.getElem_eq_getElem_data]
        have e2 : (tb b)[k]'(by simpa using h4) = b[k] := by simp [tb, ByteArray.getElem_eq_getElem_data]
        by_cases hx : a[k] = b[k]
        · have hx1 : (((a[k].toNat : Nat) : Int) == ((b[k].toNat : Nat) : Int)) = true := by rw [hx]; exact beq_self_eq_true _
          have HT2 : Hid ((tb a).take (k + 1) = (tb b).take (k + 1)) := Lib.hid (by
            rw [List.take_succ_eq_append_getElem (by simpa using h1), List.take_succ_eq_append_getElem (by simpa using h4), HT.out, e1, e2, hx])
          clear hx e1 e2
          go_wp2_with fail
          go_quiet (fail)
          go_wp2
          exact ⟨⟨k + 1, _, h1, h4, by rw [Int.natCast_add]; rfl, HT2.out, rfl⟩, by simp only [intOf]; omega⟩
        · have hx1 : (((a[k].toNat : Nat) : Int) == ((b[k].toNat : Nat) : Int)) = false := beq_eq_false_iff_ne.2 (fun e => hx (UInt8.toNat_inj.1 (by omega)))
          have HL := Lib.hid (Bw.lt_at HT.out (by simpa using h1) (by simpa using h4) (by rw [e1, e2]; exact hx))
          rw [e1, e2] at HL
          clear hx e1 e2
          go_wp2_with fail
          go_quiet (fail)
          go_wp2_with fail
          go_quiet (fail)
          go_wp2
          go_ret
          exact ⟨by rw [HL.out]; rfl, _, by rw [World.drewN_drewN, World.drewN_drewN]⟩
      · have h5 : ¬ (k : Int) < (b.size : Int) := by omega
        have HL := Lib.hid (Bw.lt_end HT.out (.inr (by simp; omega)) (by simpa using hka) (by simpa using hkb))
        clear h4
        go_wp2
        go_ret
        exact ⟨by rw [HL.out]; simp, _, rfl⟩
    · have h5 : ¬ (k : Int) < (a.size : Int) := by omega
      have HL := Lib.hid (Bw.lt_end HT.out (.inl (by simp; omega)) (by simpa using hka) (by simpa using hkb))
      clear h1
      go_wp2
      go_ret
      exact ⟨by rw [HL.out]; simp, _, rfl⟩
open Go.RowKit Go.Bw
theorem infoS : (Tryz.prog.info? 55).map (fun i => (i.zero, i.size, i.bytes)) = some (some (.agg #[.string ⟨#[]⟩, .string ⟨#[]⟩]), 2, 32) := by kernel_rfl
open Go.RowKit Go.Bw
def pstep (p : Bw.PV) (s : List Bw.PV × Bool) (q : Bw.PV) : List Bw.PV × Bool :=
  let s1 := if s.2 = false /\ ¬ Bw.lt q.1 p.1 then (s.1 ++ [p], true) else s
  if q.1 ≠ p.1 then (s1.1 ++ [q], s1.2) else s1
def pend (p : Bw.PV) (s : List Bw.PV × Bool) : List Bw.PV := if s.2 = false then s.1 ++ [p] else s.1
theorem pstep_true (p : Bw.PV) (r : List Bw.PV) (h : ∀ x ∈ r, x.1 ≠ p.1) : ∀ out, r.foldl (pstep p) (out, true) = (out ++ r, true) := by
  induction r with
  | nil => intro out; simp
  | cons q r ih =>
    intro out
    have h1 : pstep p (out, true) q = (out ++ [q], true) := by simp [pstep, h q (by simp)]
    rw [List.foldl_cons, h1, ih (fun x hx => h x (List.mem_cons_of_mem _ hx))]
    simp
theorem pend_put (p : Bw.PV) (m : List Bw.PV) (hm : Bw.Rises m) : ∀ out, pend p (m.foldl (pstep p) (out, false)) = out ++ Bw.put m p := by
  induction m with
  | nil => intro out; simp [pend, Bw.put]
  | cons q r ih =>
    intro out
    obtain ⟨h1, h2⟩ := List.pairwise_cons.1 hm
    rw [List.foldl_cons]
    by_cases a : Bw.lt q.1 p.1
    · have e : pstep p (out, false) q = (out ++ [q], false) := by simp [pstep, a, Bw.lt_ne a]
      rw [e, ih h2]
      simp [Bw.put, a]
    · by_cases b : q.1 = p.1
      · have e : pstep p (out, false) q = (out ++ [p], true) := by simp [pstep, b, Bw.lt_irrefl]
        rw [e, pstep_true p r (fun x hx => by rw [<- b]; exact (Bw.lt_ne (h1 x hx)).symm)]
        simp [pend, Bw.put, b, Bw.lt_irrefl]
      · have hpq : Bw.lt p.1 q.1 := by
          rcases Bw.lt_or p.1 q.1 with h | h | h
          · exact h
          · exact absurd h.symm b
          · exact absurd h a
        have e : pstep p (out, false) q = (out ++ [p] ++ [q], true) := by simp [pstep, a, b]
        rw [e, pstep_true p r (fun x hx => (Bw.lt_ne (Bw.lt_trans hpq (h1 x hx))).symm)]
        simp [pend, Bw.put, a, b]
theorem pstep_len (p q : Bw.PV) (s : List Bw.PV × Bool) (k : Nat) (h : s.1.length <= 2 * k) : (pstep p s q).1.length <= 2 * (k + 1) := by
  unfold pstep
  split <;> split <;> simp <;> omega
def psT (m : List Bw.PV) (p : Bw.PV) (k : Nat) : List Bw.PV × Bool := (m.take k).foldl (pstep p) ([], false)
theorem psT_succ {m : List Bw.PV} (p : Bw.PV) {k : Nat} (h : k < m.length) : psT m p (k + 1) = pstep p (psT m p k) m[k] := by
  unfold psT
  rw [take_succ_snoc h, List.foldl_append]
  rfl
def PutRel (m : List Bw.PV) (p : Bw.PV) (w : World) (W1 : World) (v b i : Value) (wr : World) : Prop :=
  ∃ k : Nat, k <= m.length /\ i = .int .i64 k /\ b = .bool (psT m p k).2 /\ (psT m p k).1.length <= 2 * k /\
    OwnAt 55 2 spK (fun k => w.heap.size <= k) wr (w.heap.size + 1) v (psT m p k).1 /\ Below (w.heap.size + 1) W1 wr
theorem wp_spapp {rest : List Oper} {a : Act} {Q : Exit -> Act -> World -> Prop} {o : Oper} {ops : Array Oper} {w0 w : World} {s x : Nat} {v : Value} {xs : List Bw.PV} {base : Nat}
    (hgd : o.guard = none) (ho : o.op = .call { callee := .builtin .append, args := #[.tmp s, .tmp x], argTypes := #[32, 32] })
    (hs : a.eval (.tmp s) = v) (hown : OwnAt 55 2 spK (fun k => w0.heap.size <= k) w base v xs)
    (y : Bw.PV) (e' : TypeId) (hx : a.eval (.tmp x) = .slice (some ⟨w.heap.size, 0, none⟩) 1 1) (hw : w0.heap.size <= w.heap.size) (hl : xs.length <= 4194304) (hbase : base <= w.heap.size)
    (h : ∀ v' w', OwnAt 55 2 spK (fun k => w0.heap.size <= k) w' base v' (xs ++ [y]) -> Below base w w' -> w.grownBy w' v.ownBlock -> wpList Tryz.prog ops Q rest (a.put o.dst v') w') :
    wpList Tryz.prog ops Q (o :: rest) a (w.alloc (.cells #[.string ⟨y.1.toArray⟩, .string ⟨y.2.toArray⟩] e')) := by
  obtain ⟨i0, hi, hz0, hz1, hz2⟩ := info_parts infoS
  exact wp_app1 goodSp hgd (.tmp s) (.tmp x) 32 ho base 55 i0 _ 32 Tryz.underlying32 hi hz0 hz1 hz2 rfl (by decide) v xs hs hown y _ e' hx spK_mk (fun k hk => Nat.le_trans hw hk) (by omega) (by decide) hbase fun v' w' h1 h2 _ h4 => h v' w' h1 h2 h4
set_option maxRecDepth 100000 in
set_option maxHeartbeats 1600000 in
theorem rput_any {ok : Nat -> Prop} {m : List Bw.PV} {px py : Bw.Bytes} {v : Value} {w : World} (hl : m.length <= 1048576) (hp : px.length <= 1048576) (hk : ∀ q ∈ m, q.1.length <= 1048576) (hr : SPairsAt ok w v m) (hm : Bw.Rises m) :
    Calls Tryz.prog 26 #[v, .agg #[.string ⟨px.toArray⟩, .string ⟨py.toArray⟩]] w (Gives w fun q w' => SPairsAt (fun k => w.heap.size <= k) w' q (Bw.put m (px, py))) := by
  obtain ⟨A, c, rfl⟩ := hr.form
  have HL := Lib.hid hl
  have HR := Lib.hid hr
  have HM := Lib.hid hm
  have HP := Lib.hid hp
  have HK := Lib.hid hk
  obtain ⟨W1, hW1⟩ : ∃ W1, w.alloc (.cells #[.string ⟨px.toArray⟩, .string ⟨py.toArray⟩] 55) = W1 := ⟨_, rfl⟩
  have H0 : Hid (PutRel m (px, py) w W1 (.slice none 0 0) (.bool false) (.int .i64 0) W1) := Lib.hid ⟨0, Nat.zero_le _, rfl, rfl, Nat.le_refl _, OwnAt.nil, Below.refl _ _⟩
  have hs1 : W1.heap.size = w.heap.size + 1 := by rw [<- hW1]; simp
  have HB1 : Hid (Below w.heap.size w W1) := Lib.hid (by rw [<- hW1]; exact gB1)
  have HP0 : Hid (W1.cell? ⟨w.heap.size, 0, none⟩ = some (.string ⟨px.toArray⟩)) := Lib.hid (by rw [<- hW1]; exact cell_new w 0 _ _ 0 _ rfl)
  have HP1 : Hid (W1.cell? ⟨w.heap.size, 1, none⟩ = some (.string ⟨py.toArray⟩)) := Lib.hid (by rw [<- hW1]; exact cell_new w 0 _ _ 1 _ rfl)
  have HW1 := Lib.hid hW1
  clear hl hr hm hk hp hW1
  go_enter Tryz.func26, Tryz.ntmps26
  go_wp2_with fail
  rw [HW1.out]
  go_loopw [5, 6, 11] (PutRel m (px, py) w W1) (fun _ _ i _ => m.length - (intOf i).toNat)
  case atStart => exact H0.out
  case round =>
    obtain ⟨k, hk, rfl, rfl, hlen, hown, hB⟩ := hrel
    have hws : w.heap.size < wr.heap.size := by have := hB.size; omega
    have p0 := (hB.cell (p := ⟨w.heap.size, 0, none⟩) (by simp)).trans HP0.out
    have p1 := (hB.cell (p := ⟨w.heap.size, 1, none⟩) (by simp)).trans HP1.out
    by_cases hlt : k < m.length
    · have hsucc := psT_succ (px, py) hlt
      have hlen2 := pstep_len (px, py) m[k] _ k hlen
      have hKq := HK.out m[k] (List.getElem_mem hlt)
      obtain ⟨b, o, rfl, hob, c0, c1⟩ := sp_get HR.out (List.getElem?_eq_getElem hlt)
      have hbl := World.block_lt_of_cell? w _ c0
      dsimp only at hbl
      have hB0 : Below w.heap.size w wr := HB1.out.trans (hB.mono (by omega))
      have d0 := (hB0.cell (p := ⟨b, o + k * 2, none⟩) hbl).trans c0
      have d1 := (hB0.cell (p := ⟨b, o + k * 2 + 1, none⟩) hbl).trans c1
      have hbl2 : b < wr.heap.size := Nat.lt_of_lt_of_le hbl hB0.size
      have h0 : (0 : Int) <= (k : Int) := by omega
      have h1 : (k : Int) < (m.length : Int) := by omega
      generalize m[k] = q at *
      obtain ⟨qx, qy⟩ := q
      generalize hst : psT m (px, py) k = st at *
      obtain ⟨acc, bb⟩ := st
      simp only [str] at d0 d1 hKq hlen hlen2 hsucc hown
      have HO : Hid (∀ W, Below wr.heap.size wr W -> OwnAt 55 2 spK (fun k => w.heap.size <= k) W (w.heap.size + 1) _ acc) := Lib.hid fun W hW => hown.move goodSp (Moves.below hW)
      have HBB := Lib.hid hB
      have HS := Lib.hid hsucc; have HLN := Lib.hid hlen; have HLN2 := Lib.hid hlen2
      have hne : ∀ k, wr.heap.size <= k -> some k ≠ u5.ownBlock := fun k hk e => by have := (hown.lt _ e.symm).2; omega
      have hne2 : some w.heap.size ≠ u5.ownBlock := fun e => by have := (hown.lt _ e.symm).1; omega
      have HNE := Lib.hid hne; have HNE2 := Lib.hid hne2
      clear c0 c1 hB hB0 hsucc hown hlen hlen2 hne hne2
      have hbq : Below wr.heap.size wr (wr.alloc (.cells #[.string ⟨qx.toArray⟩, .string ⟨qy.toArray⟩] 55)) := by exact gB2
      dsimp only
      have CL := Lib.hid (fun W => less_any ⟨qx.toArray⟩ ⟨px.toArray⟩ W hKq HP.out)
      cases bb with
      | true =>
        by_cases hx : qx = px
        · have HS2 : Hid (psT m (px, py) (k + 1) = (acc, true)) := Lib.hid (by rw [HS.out]; simp [pstep, hx])
          have HL2 : Hid ((acc).length <= 2 * (k + 1)) := Lib.hid (by have := HLN2.out; rw [<- HS.out, HS2.out] at this; exact this)
          subst hx
          go_wp2
          exact ⟨⟨k + 1, hlt, int_succ hlt HL.out, by rw [HS2.out], by rw [HS2.out]; exact HL2.out, by rw [HS2.out]; exact HO.out _ (by exact gB2), (HBB.out.trans (Below.mono hbq hws))⟩, less_succ hlt HL.out⟩
        · have HS2 : Hid (psT m (px, py) (k + 1) = (acc ++ [(qx, qy)], true)) := Lib.hid (by rw [HS.out]; simp [pstep, hx])
          have HL2 : Hid ((acc ++ [(qx, qy)]).length <= 2 * (k + 1)) := Lib.hid (by have := HLN2.out; rw [<- HS.out, HS2.out] at this; exact this)
          have hxb : (qx == px) = false := beq_eq_false_iff_ne.2 hx
          clear hx
          go_wp2_with ( at_builtin; go_loud (refine wp_spapp (w0 := w) rfl rfl rfl (HO.out _ (by exact gB2)) (qx, qy) 55 (by go_simp) (by have := HBB.out.size; simp; omega) (by have := HLN.out; have := HL.out; omega) (by have := HBB.out.size; simp; omega) ?_; intro v4 w4 hown4 hb4 hg4))
          exact ⟨⟨k + 1, hlt, int_succ hlt HL.out, by rw [HS2.out], by rw [HS2.out]; exact HL2.out, by rw [HS2.out]; exact hown4, (HBB.out.trans (Below.mono (hbq) hws)).trans (hb4)⟩, less_succ hlt HL.out⟩
      | false =>
        by_cases hlq : Bw.lt qx px
        · have hx : ¬ qx = px := Bw.lt_ne hlq
          have HS2 : Hid (psT m (px, py) (k + 1) = (acc ++ [(qx, qy)], false)) := Lib.hid (by rw [HS.out]; simp [pstep, hx, hlq])
          have HL2 : Hid ((acc ++ [(qx, qy)]).length <= 2 * (k + 1)) := Lib.hid (by have := HLN2.out; rw [<- HS.out, HS2.out] at this; exact this)
          have hxb : (qx == px) = false := beq_eq_false_iff_ne.2 hx
          clear hx
          have HLt : Hid (Bw.lt qx px) := Lib.hid hlq
          have hd : decide (Bw.lt (tb ⟨qx.toArray⟩) (tb ⟨px.toArray⟩)) = true := decide_eq_true hlq
          clear hlq
          go_wp2_with fail
          refine (CL.out _).mono ?_
          rintro e w2 ⟨rfl, n2, rfl⟩
          rw [hd]
          go_wp2_with ( at_builtin; go_loud (refine wp_spapp (w0 := w) rfl rfl rfl (HO.out _ (by exact gB2)) (qx, qy) 55 (by go_simp) (by have := HBB.out.size; simp; omega) (by have := HLN.out; have := HL.out; omega) (by have := HBB.out.size; simp; omega) ?_; intro v4 w4 hown4 hb4 hg4))
          exact ⟨⟨k + 1, hlt, int_succ hlt HL.out, by rw [HS2.out], by rw [HS2.out]; exact HL2.out, by rw [HS2.out]; exact hown4, (HBB.out.trans (Below.mono (b_drewN hbq n2) hws)).trans (hb4)⟩, less_succ hlt HL.out⟩
        · by_cases hx : qx = px
          · have HS2 : Hid (psT m (px, py) (k + 1) = (acc ++ [(px, py)], true)) := Lib.hid (by rw [HS.out]; simp [pstep, hx, Bw.lt_irrefl])
            have HL2 : Hid ((acc ++ [(px, py)]).length <= 2 * (k + 1)) := Lib.hid (by have := HLN2.out; rw [<- HS.out, HS2.out] at this; exact this)
            subst hx
            have HLt : Hid (¬ Bw.lt qx qx) := Lib.hid hlq
            have hd : decide (Bw.lt (tb ⟨qx.toArray⟩) (tb ⟨qx.toArray⟩)) = false := decide_eq_false hlq
            clear hlq
            go_wp2_with fail
            refine (CL.out _).mono ?_
            rintro e w2 ⟨rfl, n2, rfl⟩
            rw [hd]
            go_wp2_with ( at_builtin; go_loud (refine wp_spapp (w0 := w) rfl rfl rfl (HO.out _ (by exact gB2)) (qx, py) 55 (by go_simp) (by have := HBB.out.size; simp; omega) (by have := HLN.out; have := HL.out; omega) (by have := HBB.out.size; simp; omega) ?_; intro v3 w3 hown3 hb3 hg3; have k0 : w3.cell? ⟨wr.heap.size, 0, none⟩ = some (.string ⟨qx.toArray⟩) := hg3.cell (by go_simp) (HNE.out _ (Nat.le_refl _)); have k1 : w3.cell? ⟨wr.heap.size, 1, none⟩ = some (.string ⟨qy.toArray⟩) := hg3.cell (by go_simp) (HNE.out _ (Nat.le_refl _)); have p0 : w3.cell? ⟨w.heap.size, 0, none⟩ = some (.string ⟨qx.toArray⟩) := hg3.cell (by go_simp) HNE2.out; have p1 : w3.cell? ⟨w.heap.size, 1, none⟩ = some (.string ⟨py.toArray⟩) := hg3.cell (by go_simp) HNE2.out; have hs3 : wr.heap.size < w3.heap.size := Nat.lt_of_lt_of_le (by simp) hb3.size))
            exact ⟨⟨k + 1, hlt, int_succ hlt HL.out, by rw [HS2.out], by rw [HS2.out]; exact HL2.out, by rw [HS2.out]; exact hown3, (HBB.out.trans (Below.mono (b_drewN hbq n2) hws)).trans (hb3)⟩, less_succ hlt HL.out⟩
          · have HS2 : Hid (psT m (px, py) (k + 1) = (acc ++ [(px, py)] ++ [(qx, qy)], true)) := Lib.hid (by rw [HS.out]; simp [pstep, hx, hlq])
            have HL2 : Hid ((acc ++ [(px, py)] ++ [(qx, qy)]).length <= 2 * (k + 1)) := Lib.hid (by have := HLN2.out; rw [<- HS.out, HS2.out] at this; exact this)
            have hxb : (qx == px) = false := beq_eq_false_iff_ne.2 hx
            clear hx
            have HLt : Hid (¬ Bw.lt qx px) := Lib.hid hlq
            have hd : decide (Bw.lt (tb ⟨qx.toArray⟩) (tb ⟨px.toArray⟩)) = false := decide_eq_false hlq
            clear hlq
            go_wp2_with fail
            refine (CL.out _).mono ?_
            rintro e w2 ⟨rfl, n2, rfl⟩
            rw [hd]
            go_wp2_with (first | ( at_builtin; go_loud (refine wp_spapp (w0 := w) rfl rfl rfl (HO.out _ (by exact gB2)) (px, py) 55 (by go_simp) (by have := HBB.out.size; simp; omega) (by have := HLN.out; have := HL.out; omega) (by have := HBB.out.size; simp; omega) ?_; intro v3 w3 hown3 hb3 hg3; have k0 : w3.cell? ⟨wr.heap.size, 0, none⟩ = some (.string ⟨qx.toArray⟩) := hg3.cell (by go_simp) (HNE.out _ (Nat.le_refl _)); have k1 : w3.cell? ⟨wr.heap.size, 1, none⟩ = some (.string ⟨qy.toArray⟩) := hg3.cell (by go_simp) (HNE.out _ (Nat.le_refl _)); have p0 : w3.cell? ⟨w.heap.size, 0, none⟩ = some (.string ⟨px.toArray⟩) := hg3.cell (by go_simp) HNE2.out; have p1 : w3.cell? ⟨w.heap.size, 1, none⟩ = some (.string ⟨py.toArray⟩) := hg3.cell (by go_simp) HNE2.out; have hs3 : wr.heap.size < w3.heap.size := Nat.lt_of_lt_of_le (by simp) hb3.size)) | ( at_builtin; go_loud (refine wp_spapp (w0 := w) rfl rfl rfl hown3 (qx, qy) 55 (by go_simp) (by have := HBB.out.size; omega) (by have := HLN.out; have := HL.out; simp; omega) (by have := HBB.out.size; omega) ?_; intro v4 w4 hown4 hb4 hg4)))
            exact ⟨⟨k + 1, hlt, int_succ hlt HL.out, by rw [HS2.out], by rw [HS2.out]; exact HL2.out, by rw [HS2.out]; exact hown4, ((HBB.out.trans (Below.mono (b_drewN hbq n2) hws)).trans (hb3)).trans hb4⟩, less_succ hlt HL.out⟩
    · obtain rfl : k = m.length := by omega
      have hfin := pend_put (px, py) m HM.out []
      have hps : psT m (px, py) m.length = m.foldl (pstep (px, py)) ([], false) := by unfold psT; rw [List.take_length]
      rw [<- hps, List.nil_append] at hfin
      generalize psT m (px, py) m.length = st at *
      obtain ⟨acc, bb⟩ := st
      dsimp only at hown hlen hfin ⊢
      have HOWN := Lib.hid hown
      have HBF := Lib.hid (HB1.out.trans (hB.mono (by omega)))
      have HSZ : Hid (w.heap.size + 1 <= wr.heap.size) := Lib.hid hws
      have HLN := Lib.hid hlen
      clear hown hlen hps
      cases bb with
      | true =>
        have HF : Hid (acc = Bw.put m (px, py)) := Lib.hid hfin
        clear hfin hB
        go_wp2
        go_ret
        exact ⟨_, rfl, by rw [<- HF.out]; exact HOWN.out.row goodSp, HBF.out⟩
      | false =>
        have HF : Hid (acc ++ [(px, py)] = Bw.put m (px, py)) := Lib.hid hfin
        clear hfin hB
        go_wp2_with (at_builtin; go_loud (refine wp_spapp (w0 := w) rfl rfl rfl HOWN.out (px, py) 55 (by go_simp) (by have := HSZ.out; omega) (by have := HLN.out; have := HL.out; omega) HSZ.out ?_; intro v3 w3 hown3 hb3 hg3))
        go_ret
        exact ⟨_, rfl, by rw [<- HF.out]; exact hown3.row goodSp, HBF.out.trans (hb3.mono (by omega))⟩
open Go.RowKit Go.Bw
theorem _root_.Bw.mem_come {l : List Bw.PV} {x : Bw.PV} (h : x ∈ Bw.come l) : x ∈ l := by
  suffices hh : ∀ m, x ∈ l.foldl Bw.put m -> x ∈ m \/ x ∈ l by
    rcases hh [] h with h | h
    · simp at h
    · exact h
  clear h
  induction l with
  | nil => intro m h; exact .inl h
  | cons p r ih =>
    intro m h
    rcases ih _ h with h | h
    · rcases Bw.mem_put h with rfl | h
      · exact .inr (by simp)
      · exact .inl h
    · exact .inr (List.mem_cons_of_mem _ h)
theorem _root_.Bw.length_put (m : List Bw.PV) (p : Bw.PV) : (Bw.put m p).length <= m.length + 1 := by
  induction m with
  | nil => simp [Bw.put]
  | cons q r ih =>
    simp only [Bw.put]
    split
    · simp; omega
    · split <;> simp
theorem _root_.Bw.length_come (l : List Bw.PV) : (Bw.come l).length <= l.length := by
  suffices hh : ∀ m, (l.foldl Bw.put m).length <= m.length + l.length by have := hh []; simpa [Bw.come] using this
  induction l with
  | nil => intro m; simp
  | cons p r ih => intro m; have := ih (Bw.put m p); have := Bw.length_put m p; simp; omega
def IsRel (l m : List Bw.PV) (w : World) (i : Value) (wr : World) : Prop :=
  ∃ (k n : Nat), k <= m.length /\ i = .int .i64 k /\ l.take k = m.take k /\ wr = w.drewN n
set_option maxRecDepth 100000 in
set_option maxHeartbeats 400000 in
theorem ris_any {ok ok' : Nat -> Prop} {l m : List Bw.PV} {u v : Value} {w : World} (hl : l.length <= 1048576) (hr : PairsAt ok w u l) (hm : SPairsAt ok' w v m) :
    Calls Tryz.prog 12 #[u, v] w fun e w' => e = .returned (.bool (decide (l = m))) /\ ∃ n, w' = w.drewN n := by
  obtain ⟨A, c, rfl⟩ := hr.form
  obtain ⟨A2, c2, rfl⟩ := hm.form
  by_cases hlen : l.length = m.length
  · have HL := Lib.hid hl
    have HR := Lib.hid hr
    have HM := Lib.hid hm
    have HLEN := Lib.hid hlen
    have H0 : Hid (IsRel l m w (.int .i64 0) w) := Lib.hid ⟨0, 0, Nat.zero_le _, rfl, rfl, rfl⟩
    have hb : ((l.length : Int) != (m.length : Int)) = false := by rw [bne_eq_false_iff_eq]; omega
    clear hl hr hlen hm
    go_enter Tryz.func12, Tryz.ntmps12
    go_wp2_with fail
    go_loopw [13] (IsRel l m w) (fun i _ => m.length - (intOf i).toNat)
    case atStart => exact H0.out
    case round =>
      obtain ⟨k, n, hk, rfl, htk, rfl⟩ := hrel
      have HT := Lib.hid htk
      clear htk H0
      by_cases hlt : k < m.length
      · have hlt2 : k < l.length := by rw [HLEN.out]; exact hlt
        obtain ⟨b, o, u1, u2, rfl, hob, c0, c1, hu, hv⟩ := pair_get HR.out (List.getElem?_eq_getElem hlt2)
        obtain ⟨b2, o2, rfl, hob2, d0, d1⟩ := sp_get HM.out (List.getElem?_eq_getElem hlt)
        obtain ⟨U1, cu1, rfl⟩ := hu.form
        obtain ⟨U2, cu2, rfl⟩ := hv.form
        have q1 := fun i => run_conv (P := Tryz.prog) 33 9 5 Tryz.underlying33 Tryz.underlying5 Tryz.underlying9 (hu.move goodByte (Moves.drewN _ i))
        have q2 := fun i => run_conv (P := Tryz.prog) 33 9 5 Tryz.underlying33 Tryz.underlying5 Tryz.underlying9 (hv.move goodByte (Moves.drewN _ i))
        have h0 : (0 : Int) <= (k : Int) := by omega
        have h1 : (k : Int) < (m.length : Int) := by omega
        have h2 : (k : Int) < (l.length : Int) := by omega
        have hal : l.take (k + 1) = l.take k ++ [l[k]] := take_succ_snoc hlt2
        have ham : m.take (k + 1) = m.take k ++ [m[k]] := take_succ_snoc hlt
        have hneq : l[k] ≠ m[k] -> l ≠ m := fun hne e => hne (by subst e; rfl)
        generalize l[k] = p at *
        generalize m[k] = q at *
        obtain ⟨px, py⟩ := p
        obtain ⟨qx, qy⟩ := q
        simp only [str] at d0 d1 q1 q2 c0 c1 hu hv
        have HAL := Lib.hid hal; have HAM := Lib.hid ham; have HNE := Lib.hid hneq
        clear hu hv hal ham hneq
        by_cases hx : px = qx
        · subst hx
          by_cases hy : py = qy
          · subst hy
            go_wp2_with fail
            go_quiet (fail)
            go_wp2
            exact ⟨⟨k + 1, _, hlt, int_succ hlt (by have := HL.out; have := HLEN.out; omega), by rw [HAL.out, HAM.out, HT.out], rfl⟩, less_succ hlt (by have := HL.out; have := HLEN.out; omega)⟩
          · have hxb : (py == qy) = false := beq_eq_false_iff_ne.2 hy
            have HNL : Hid (l ≠ m) := Lib.hid (HNE.out (by simpa using hy))
            clear hy
            go_wp2_with fail
            go_quiet (fail)
            go_wp2
            go_ret
            exact ⟨by rw [decide_eq_false HNL.out]; rfl, _, by rw [World.drewN_drewN]⟩
        · have hxb : (px == qx) = false := beq_eq_false_iff_ne.2 hx
          have HNL : Hid (l ≠ m) := Lib.hid (HNE.out (by simp [hx]))
          clear hx
          go_wp2_with fail
          go_quiet (fail)
          go_wp2
          go_ret
          exact ⟨by rw [decide_eq_false HNL.out]; rfl, _, by rw [World.drewN_drewN]⟩
      · obtain rfl : k = m.length := by omega
        have hlm : Hid (l = m) := Lib.hid (by have h := HT.out; rw [List.take_length, <- HLEN.out, List.take_length] at h; exact h)
        clear hlt
        go_wp2
        go_ret
        exact ⟨by rw [decide_eq_true hlm.out]; rfl, _, rfl⟩
  · have hb : ((l.length : Int) != (m.length : Int)) = true := by rw [bne_iff_ne]; omega
    have hne : Hid (l ≠ m) := Lib.hid (fun e => hlen (by rw [e]))
    clear hl hr hlen hm
    go_enter Tryz.func12, Tryz.ntmps12
    go_wp2
    go_ret
    exact ⟨by rw [decide_eq_false hne.out]; rfl, 0, rfl⟩
open Go.RowKit Go.Bw
def HasRel (l : List Nat) (x : Nat) (w : World) (i : Value) (wr : World) : Prop :=
  ∃ k : Nat, k <= l.length /\ i = .int .i64 k /\ x ∉ l.take k /\ wr = w
set_option maxRecDepth 100000 in
set_option maxHeartbeats 400000 in
theorem rhas_any {ok : Nat -> Prop} {l : List Nat} {x : Nat} {v : Value} {w : World} (hl : l.length <= 1048576) (hr : NatsAt ok w v l) :
    Calls Tryz.prog 60 #[v, .int .i64 (x : Nat)] w fun e w' => e = .returned (.bool (decide (x ∈ l))) /\ w' = w := by
  obtain ⟨A, c, rfl⟩ := hr.form
  have HL := Lib.hid hl
  have HR := Lib.hid hr
  have H0 : Hid (HasRel l x w (.int .i64 0) w) := Lib.hid ⟨0, Nat.zero_le _, rfl, by simp, rfl⟩
  clear hl hr
  go_enter Tryz.func60, Tryz.ntmps60
  go_wp2_with fail
  go_loopw [5] (HasRel l x w) (fun i _ => l.length - (intOf i).toNat)
  case atStart => exact H0.out
  case round =>
    obtain ⟨k, hk, rfl, hx, rfl⟩ := hrel
    have HX := Lib.hid hx
    clear hx H0
    by_cases hlt : k < l.length
    · obtain ⟨b, o, cs, rfl, rfl, hc⟩ := HR.out.get (List.getElem?_eq_getElem hlt)
      have d0 := (hc 0 _ rfl).2
      simp only [Nat.mul_one, Nat.add_zero, encN] at d0
      have h0 : (0 : Int) <= (k : Int) := by omega
      have h1 : (k : Int) < (l.length : Int) := by omega
      have hs : l.take (k + 1) = l.take k ++ [l[k]] := take_succ_snoc hlt
      have hmem : l[k] ∈ l := List.getElem_mem hlt
      generalize l[k] = y at *
      have HS := Lib.hid hs; have HMEM := Lib.hid hmem
      clear hs hmem hc
      by_cases hxy : y = x
      · subst hxy
        go_wp2
        go_ret
        exact ⟨by rw [decide_eq_true HMEM.out]; rfl, rfl⟩
      · have hb : ((y : Int) == (x : Int)) = false := beq_eq_false_iff_ne.2 (by omega)
        have HX2 : Hid (x ∉ l.take (k + 1)) := Lib.hid (by rw [HS.out, List.mem_append]; rintro (h | h); exact HX.out h; simp at h; exact hxy h.symm)
        clear hxy
        go_wp2
        exact ⟨⟨k + 1, hlt, int_succ hlt HL.out, HX2.out, rfl⟩, less_succ hlt HL.out⟩
    · obtain rfl : k = l.length := by omega
      rw [List.take_length] at HX
      clear hlt
      go_wp2
      go_ret
      exact ⟨by rw [decide_eq_false HX.out]; rfl, rfl⟩
theorem infoI : (Tryz.prog.info? 3).map (fun i => (i.zero, i.size, i.bytes)) = some (some (.int .i64 0), 1, 8) := by kernel_rfl
def NumRel (m : Nat) (w : World) (r i : Value) (wr : World) : Prop :=
  ∃ p : Nat, p <= 32 /\ r = .int .u32 (m / 2 ^ p : Nat) /\ i = .int .i64 ((p : Int) - 1) /\ wr = w
set_option maxRecDepth 100000 in
set_option maxHeartbeats 400000 in
theorem rnumber_any {ok : Nat -> Prop} {m : Nat} {v : Value} {w : World} (hm : m < 4294967296) (hr : NatsAt ok w v (Bw.bitsOf m)) :
    Calls Tryz.prog 35 #[v] w fun e w' => e = .returned (.int .u32 (m : Nat)) /\ w' = w := by
  have H0 : Hid (NumRel m w (.int .u32 0) (.int .i64 31) w) := Lib.hid ⟨32, Nat.le_refl _, by rw [Nat.div_eq_of_lt hm]; rfl, rfl, rfl⟩
  have HR := Lib.hid hr
  have HLEN : Hid ((Bw.bitsOf m).length <= 1048576) := Lib.hid (Nat.le_trans (List.length_filter_le _ _) (by simp))
  clear hr
  go_enter Tryz.func35, Tryz.ntmps35
  go_wp2_with fail
  go_loopw [3, 4] (NumRel m w) (fun _ i _ => (intOf i + 1).toNat)
  case atStart => exact H0.out
  case round =>
    obtain ⟨p, hp, rfl, rfl, rfl⟩ := hrel
    cases p with
    | zero =>
      have h1 : ¬ (0 : Int) <= ((0 : Nat) : Int) - 1 := by omega
      go_wp2
      go_ret
      exact ⟨by simp, rfl⟩
    | succ p =>
      have hdiv : m / 2 ^ (p + 1) = m / 2 ^ p / 2 := by rw [Nat.pow_succ, Nat.div_div_eq_div_mul]
      have hbit : m.testBit p = decide (m / 2 ^ p % 2 = 1) := Nat.testBit_eq_decide_div_mod_eq
      have hlt4 : m / 2 ^ p < 4294967296 := Nat.lt_of_le_of_lt (Nat.div_le_self _ _) hm
      have hmem : p ∈ Bw.bitsOf m ↔ m.testBit p = true := by
        unfold Bw.bitsOf
        rw [List.mem_filter, List.mem_range]
        exact ⟨fun h => h.2, fun h => ⟨by omega, h⟩⟩
      have e1 : (((p + 1 : Nat) : Int) - 1) = (p : Int) := by omega
      rw [e1, hdiv]
      generalize hrr : m / 2 ^ p = r at *
      have HRR := Lib.hid hrr
      clear hrr
      have h0 : (0 : Int) <= (p : Int) := by omega
      have CH := Lib.hid (rhas_any (x := p) HLEN.out HR.out)
      have hq : IntKind.u32.wrap (((r / 2 : Nat) : Int) * 2) = ((r / 2 * 2 : Nat) : Int) := by rw [IntKind.wrap_u32]; omega
      have hq1 : IntKind.u32.wrap (((r / 2 * 2 : Nat) : Int) + 1) = ((r / 2 * 2 + 1 : Nat) : Int) := by rw [IntKind.wrap_u32]; omega
      have hw1 : IntKind.i64.wrap ((p : Int) - 1) = (p : Int) - 1 := by rw [IntKind.wrap_i64]; omega
      by_cases hb : r % 2 = 1
      · have hd : decide (p ∈ Bw.bitsOf m) = true := decide_eq_true (hmem.2 (by rw [hbit]; exact decide_eq_true hb))
        have HE : Hid (r / 2 * 2 + 1 = r) := Lib.hid (by omega)
        clear hmem hbit hdiv hb
        go_wp2_with fail
        refine CH.out.mono ?_
        rintro e w1 ⟨rfl, rfl⟩
        rw [hd]
        go_wp2
        exact ⟨⟨p, by omega, by rw [HRR.out, show (r : Int) / 2 * 2 + 1 = (r : Int) by have := HE.out; omega], rfl, rfl⟩, by simp only [intOf]; omega⟩
      · have hd : decide (p ∈ Bw.bitsOf m) = false := decide_eq_false (fun h => hb (by have := hmem.1 h; rw [hbit] at this; exact of_decide_eq_true this))
        have HE : Hid (r / 2 * 2 = r) := Lib.hid (by omega)
        clear hmem hbit hdiv hb
        go_wp2_with fail
        refine CH.out.mono ?_
        rintro e w1 ⟨rfl, rfl⟩
        rw [hd]
        go_wp2
        exact ⟨⟨p, by omega, by rw [HRR.out, show (r : Int) / 2 * 2 = (r : Int) by have := HE.out; omega], rfl, rfl⟩, by simp only [intOf]; omega⟩
end Go.Proofs.YtadaoceidkagfaaGreatDoor
