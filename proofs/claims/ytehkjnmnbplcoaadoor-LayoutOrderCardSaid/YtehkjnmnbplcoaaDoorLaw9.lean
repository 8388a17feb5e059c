
import Derived.Test.YtehkjnmnbplcoaaDoorAw17
import Derived.Test.YtehkjnmnbplcoaaDoorComeA
import Derived.Test.YtehkjnmnbplcoaaDoorLaw8
namespace Go.Proofs.YtehkjnmnbplcoaaDoor
open Go.RowKit Go.Bw

/-- a row of one element, in a block made for that -/
theorem own_one {α : Type} {e sz : Nat} {d : Knd α} {ok : Nat → Prop} {w : World} {base : Nat} {x : α} {cs : List Value} (hd : _root_.Go.Bw.Good sz d) (hok : ok w.heap.size) (hb : base ≤ w.heap.size)
    (hx : d (fun k => ok k ∧ k ≠ w.heap.size) (w.alloc (.cells cs.toArray e)) x cs) :
    OwnAt e sz d ok (w.alloc (.cells cs.toArray e)) base (.slice (some ⟨w.heap.size, 0, none⟩) 1 1) [x] := by
  have hl := hd.len hx
  refine ⟨fun k h => by simp [Value.ownBlock] at h; exact h ▸ hok, cs, ⟨by simp [hl], .inr ⟨w.heap.size, 1, cs.toArray, rfl, hb, heap_alloc_new w _, Nat.le_refl _, by decide, by simp [hl], by simp [← hl]⟩⟩, ?_⟩
  refine Reps.one (hd.move (Moves.weaken fun k hk _ => ⟨hk.1, fun e => hk.2 ?_⟩) hx) hl
  simp only [Value.ownBlock] at e
  injection e

theorem wpo_copyE {P : Program} {o : Oper} {a : Act} {Q : Exit → Act → World → Prop} {ok : Nat → Prop} {w : World} {K : Act → World → Prop} {u : Value} {l : List Bw.En} (hP : P = Tryd.prog) (s x : Operand)
    (ho : o.op = .call { callee := .builtin .append, args := #[s, x], argTypes := #[54, 54] })
    (hs : a.eval s = .slice (some ⟨w.heap.size, 0, none⟩) 0 0) (hx : a.eval x = u) (hu : EntsAt ok w u l) (hok : ∀ k, ok k → k < w.heap.size) (hl : l.length ≤ 1048576)
    (h : ∀ v' w', EntsAt AllB w' v' l → Below w.heap.size w w' → K (a.put o.dst v') w') :
    o.wp P a (w.alloc (.cells #[] 62)) K Q := by
  subst hP
  obtain ⟨i0, hi, hz0, hz1, hz2⟩ := info_parts infoLE
  have hb1 : Below w.heap.size w (w.alloc (.cells #[] 62)) := (Below.refl _ _).alloc (Nat.le_refl _) _
  have hu1 := hu.move goodEnt (Moves.below hb1)
  have hmem := hu
  obtain ⟨A, c, rfl⟩ := hu.form
  cases A with
  | none =>
    obtain ⟨A', c', e, h2, _, h4, _⟩ := hmem
    injection e with e1 e2 e3
    have h5 := h4 e1.symm
    obtain rfl : l = [] := List.eq_nil_of_length_eq_zero (by omega)
    have hr0 : (Builtin.append_ #[54, 54] o.type #[.slice (some ⟨w.heap.size, 0, none⟩) 0 0, .slice none ([] : List Bw.En).length c]).run Tryd.prog (w.alloc (.cells #[] 62)) = .ok (.slice (some ⟨w.heap.size, 0, none⟩) 0 0) (w.alloc (.cells #[] 62)) := by
      simp [Builtin.append_, run_underlying Tryd.underlying54, sizeOf, typeInfo, hi, Builtin.lenOf, run_firstCells_none, storeCells]
    unfold Oper.wp execOp
    simp only [ho, resolve, invoke, builtin, Sem.run_bind, Sem.run_pure, Result.andThen_ok, List.map_toArray, List.map_cons, List.map_nil, hs, hx, hr0]
    exact h _ _ ⟨_, _, rfl, Nat.le_refl _, Nat.zero_le _, (fun e => by cases e), (fun ad h hne => absurd rfl hne), fun j x hj => by simp at hj⟩ hb1
  | some ad =>
    by_cases h0 : l = []
    · subst h0
      refine wpo_app goodEnt s x 54 ho w.heap.size 62 i0 _ 56 Tryd.underlying54 hi hz0 hz1 hz2 rfl (by decide) _ [] hs (OwnAt.made (ok := AllB) trivial (Nat.le_refl _)) ad 0 c [] [] hx rfl (fun j u hj => by simp at hj) (Reps.nil _ _) (fun _ _ => trivial) (by simp) (by decide) (by simp) ?_
      intro v' w' hown hg _
      exact h _ _ (hown.row goodEnt) (hb1.grown hg (by simp) (fun k e => by simp only [Value.ownBlock] at e; injection e with e; omega))
    · obtain ⟨b, o', u, v, e, hob, c0, _⟩ := ent_get hmem (List.getElem?_eq_getElem (List.length_pos_iff.2 h0))
      cases e
      obtain ⟨news, hr, hc⟩ := RowAt.news_all goodEnt hu1
      refine wpo_app goodEnt s x 54 ho w.heap.size 62 i0 _ 56 Tryd.underlying54 hi hz0 hz1 hz2 rfl (by decide) _ [] hs (OwnAt.made (ok := AllB) trivial (Nat.le_refl _)) ⟨b, o', none⟩ _ c l news hx rfl (fun j u hj => by rw [add_none]; exact (hc j u hj).2) (hr.imp fun x c => goodEnt.move (Moves.weaken fun k hk _ => ⟨trivial, fun e => by simp only [Value.ownBlock] at e; injection e with e; have := hok k hk; omega⟩)) (fun _ _ => trivial) (by simp; omega) (by decide) (by simp) ?_
      intro v' w' hown hg _
      exact h _ _ (by have := hown.row goodEnt; rwa [List.nil_append] at this) (hb1.grown hg (by simp) (fun k e => by simp only [Value.ownBlock] at e; injection e with e; omega))

theorem wp_copyE {P : Program} {ops : Array Oper} {rest : List Oper} {o : Oper} {a : Act} {Q : Exit → Act → World → Prop} {ok : Nat → Prop} {w : World} {u : Value} {l : List Bw.En} (hP : P = Tryd.prog) (hgd : o.guard = none) (s x : Operand)
    (ho : o.op = .call { callee := .builtin .append, args := #[s, x], argTypes := #[54, 54] })
    (hs : a.eval s = .slice (some ⟨w.heap.size, 0, none⟩) 0 0) (hx : a.eval x = u) (hu : EntsAt ok w u l) (hok : ∀ k, ok k → k < w.heap.size) (hl : l.length ≤ 1048576)
    (h : ∀ v' w', EntsAt AllB w' v' l → Below w.heap.size w w' → wpList P ops Q rest (a.put o.dst v') w') :
    wpList P ops Q (o :: rest) a (w.alloc (.cells #[] 62)) :=
  wpList_plain hgd fun _ hK => wpo_copyE hP s x ho hs hx hu hok hl fun v' w' h1 h2 => hK _ _ (h v' w' h1 h2)

theorem fitThin (n : Bw.N) : n.fit → n.thin := by
  refine Bw.N.ind (P := fun n => n.fit → n.thin) ?_ ?_ ?_ n
  · intro h p _; trivial
  · intro h t _; trivial
  · intro m kids ih hf
    simp only [Bw.N.fit, Bw.N.fitL_iff] at hf
    simp only [Bw.N.thin, Bw.N.thinL_iff]
    exact ⟨hf.1, fun k hk => ih k hk (hf.2.2 k hk)⟩

theorem ofO_same {l m : List Bw.En} (hl : EnsOk l) (hm : EnsOk m) (h : ∀ e, e ∈ Bw.lasts l ↔ e ∈ Bw.lasts m) : sameB (Bw.ofO l) (Bw.ofO m) = true := by
  have key : Bw.absO (Bw.ofO l) = Bw.absO (Bw.ofO m) := by
    rw [← ofO_abs hl]
    have hO := hm.lays
    cases ho : Bw.ofO m with
    | none =>
      rw [ho] at hO
      have e0 : Bw.lasts m = [] := hO
      have e1 : Bw.lasts l = [] := by
        rw [e0] at h
        exact List.eq_nil_iff_forall_not_mem.2 fun e he => by simpa using (h e).1 he
      rw [e1]
      rfl
    | some n =>
      rw [ho] at hO
      exact Bw.lays_abs hO 13 (Bw.lasts l) rfl hl.lay.unlike h hm.lay.res hm.lay.hash
  have h := Bw.absO_same (fun n e => fitThin n (hl.slim n e).fit) (fun n e => fitThin n (hm.slim n e).fit) key 0
  unfold sameB
  rw [h.1, h.2]
  simp

theorem ofO_lasts (l : List Bw.En) : Bw.ofO (Bw.lasts l) = Bw.ofO l := by
  unfold Bw.ofO
  rw [Bw.lasts_unlike (Bw.unlike_lasts l)]

theorem EnsOk.lasts {l : List Bw.En} (h : EnsOk l) : EnsOk (Bw.lasts l) where
  len := Nat.le_trans (lasts_len l) h.len
  bytes := fun e he => h.bytes e (Bw.mem_lasts he)
  hash := fun e he => h.hash e (Bw.mem_lasts he)

theorem EnsOk.perm {l m : List Bw.En} (h : EnsOk l) (hp : m.Perm l) : EnsOk m where
  len := by rw [hp.length_eq]; exact h.len
  bytes := fun e he => h.bytes e (hp.mem_iff.1 he)
  hash := fun e he => h.hash e (hp.mem_iff.1 he)

theorem unlike_perm {l m : List Bw.En} (h : Bw.Unlike l) (hp : m.Perm l) : Bw.Unlike m :=
  (List.Perm.pairwise_iff (R := fun a b : Bw.En => a.2.1 ≠ b.2.1) (fun h => h.symm) hp).2 h

theorem moved_perm {l : List Bw.En} {i : Nat} (h : i < l.length) : (l[i] :: (l.take i ++ l.drop (i + 1))).Perm l := by
  have h1 : l = l.take i ++ l[i] :: l.drop (i + 1) := by rw [← List.drop_eq_getElem_cons h, List.take_append_drop]
  have h2 := (List.perm_middle (a := l[i]) (l₁ := l.take i) (l₂ := l.drop (i + 1))).symm
  exact h2.trans (List.Perm.of_eq h1.symm)

def MoveRel (m : List Bw.En) (w2 : World) (n : Nat) (bv i : Value) (wr : World) : Prop :=
  ∃ (k : Nat) (bs : List Bw.En), k ≤ n ∧ i = .int .i64 k ∧ bs.Perm m ∧ EntsAt AllB wr bv bs ∧ Below w2.heap.size w2 wr

set_option maxRecDepth 100000 in
set_option maxHeartbeats 1000000 in
theorem lorder_any {l : List Bw.En} {mv : Bw.Bytes} {v kv : Value} {w : World} (hr : EntsAt AllB w v l) (hh : ∀ e ∈ l, e.1 < 18446744073709551616) (hkv : BytesAt AllB w kv mv) (hT : Tab w) :
    Calls Tryd.prog 9 #[v, kv] w fun e w' => e = .returned (.bool true) ∧ Below w.heap.size w w' := by
  have CS := Lib.hid (small17_any 40 (by decide) hr)
  obtain ⟨A, c, rfl⟩ := hr.form
  obtain ⟨KA, ck, rfl⟩ := hkv.form
  have CAW := Lib.hid (fun (W : World) (hW : Below w.heap.size w W) => awake17_any W (hT.below hT.pos hW))
  cases hsm : smallE l 40 with
  | false =>
    rw [hsm] at CS
    clear hr hT hh hkv
    go_enter Tryd.func9, Tryd.ntmps9
    go_wp2_with fail
    refine CS.out.mono ?_
    rintro e w1 ⟨rfl, hb1⟩
    go_wp2_with fail
    refine (CAW.out _ hb1).mono ?_
    rintro e w2 ⟨rfl, hb2⟩
    go_wp2
    go_ret
    exact ⟨rfl, hb1.trans (hb2.mono hb1.size)⟩
  | true =>
    rw [hsm] at CS
    by_cases hkl : mv.length ≤ 40
    · have hgt : decide ((40 : Int) < (mv.length : Int)) = false := by rw [decide_eq_false_iff_not]; omega
      have hgt2 : ¬ ((40 : Int) < (mv.length : Int)) := by omega
      have hE := smallE_ok (by decide) hsm hh
      have hl40 := (smallE_bounds hsm).1
      have hr0 : EntsAt (fun k => k < w.heap.size) w (.slice A l.length c) l := hr.move goodEnt (Moves.weaken fun k _ h => h)
      have hk0 : BytesAt (fun k => k < w.heap.size) w (.slice KA mv.length ck) mv := hkv.move goodByte (Moves.weaken fun k _ h => h)
      have CC := Lib.hid (fun (W : World) (hW : Below w.heap.size w W) => lcome_any (Nat.le_trans hE.len (by decide)) hE.bytes (hr0.move (ok' := fun k => k < w.heap.size) goodEnt (fun k hk _ => ⟨hk, hW.block k hk⟩)))
      have CO := Lib.hid (fun (W : World) (hW : Below w.heap.size w W) => lof_any hE (hr0.move (ok' := fun k => k < w.heap.size) goodEnt (fun k hk _ => ⟨hk, hW.block k hk⟩)) (hT.below hT.pos hW))
      have CM := Lib.hid (fun (ms : List Bw.En) (hms : EnsOk ms) (W : World) (q : Value) (hW : Below w.heap.size w W) (h : EntsAt AllB W q ms) => lof_any hms h (hT.below hT.pos hW))
      have CQ := Lib.hid (fun (ms ns : List Bw.En) (hms : EnsOk ms) (hns : EnsOk ns) (W : World) (q r : Value) (hW : Below w.heap.size w W) (h1 : ONodeAt nt AllB W q (Bw.ofO ms)) (h2 : ONodeAt nt AllB W r (Bw.ofO ns)) => lsame_any h1 h2 hms.slim hns.slim (hT.below hT.pos hW))
      have HM := Lib.hid hk0
      have HLL : Hid ((Bw.lasts l).length ≤ 40) := Lib.hid (Nat.le_trans (lasts_len l) hl40)
      have HE := Lib.hid hE
      have HKL := Lib.hid hkl
      clear hr hr0 hk0 hkv hT hsm hE hh hl40 hkl
      go_enter Tryd.func9, Tryd.ntmps9
      go_wp2_with fail
      refine CS.out.mono ?_
      rintro e w1 ⟨rfl, hb1⟩
      have CC1 := Lib.hid (CC.out w1 hb1)
      have HB1 := Lib.hid hb1
      clear hb1
      go_wp2_with fail
      refine CC1.out.mono ?_
      rintro e w2 ⟨av, rfl, hav, hb2⟩
      have HA2 := Lib.hid ((hav.row goodEnt).move (ok' := fun k => k < w2.heap.size) goodEnt (Moves.weaken fun k _ h => h))
      obtain ⟨A2, c2, rfl⟩ := HA2.out.form
      have HB2 := Lib.hid (HB1.out.trans (hb2.mono HB1.out.size))
      clear hav hb2
      go_wp2_with (at_builtin; refine wp_copyE rfl rfl (.tmp 23) (.tmp 24) rfl rfl rfl HA2.out (fun _ h => h) (Nat.le_trans HLL.out (by decide)) ?_; intro bv w3 hbv hb3)
      have H0 : Hid (MoveRel (Bw.lasts l) w2 mv.length bv (.int .i64 0) w3) := Lib.hid ⟨0, Bw.lasts l, Nat.zero_le _, rfl, List.Perm.refl _, hbv, hb3⟩
      clear hbv hb3
      go_loopw [6, 28] (MoveRel (Bw.lasts l) w2 mv.length) (fun _ i _ => mv.length - (intOf i).toNat)
      case atStart => exact H0.out
      case round =>
        obtain ⟨k, bs, hk, rfl, hperm, hbs, hB⟩ := hrel
        obtain ⟨AB, cb, rfl⟩ := hbs.form
        by_cases hlt : k < mv.length
        · obtain ⟨b, o, cs, e1, hx, hc⟩ := HM.out.get (List.getElem?_eq_getElem hlt)
          cases e1
          cases hx
          obtain ⟨hbl, c0⟩ := hc 0 _ rfl
          rw [Nat.mul_one, Nat.add_zero] at c0
          have hBw := HB2.out.trans (hB.mono HB2.out.size)
          have d0 : wr.cell? ⟨b, o + k, none⟩ = some (.int .u8 (mv[k].toNat : Int)) := (hBw.cell (p := ⟨b, o + k, none⟩) hbl).trans c0
          have hbl2 : b < wr.heap.size := Nat.lt_of_lt_of_le hbl hBw.size
          have h0 : (0 : Int) ≤ (k : Int) := by omega
          have h1 : (k : Int) < (mv.length : Int) := by omega
          have HLT := Lib.hid hlt
          clear hc c0 hBw hbl
          generalize mv[k] = mb at *
          clear hlt
          by_cases hb0 : bs.length = 0
          · have hbe : ((bs.length : Int) == 0) = true := by rw [beq_iff_eq]; omega
            replace hbs : EntsAt AllB wr (.slice AB 0 cb) bs := by rw [← hb0]; exact hbs
            go_wp2_with fail
            have hEb : EnsOk bs := HE.out.lasts.perm hperm
            have hs1 : sameB (Bw.ofO (Bw.lasts l)) (Bw.ofO bs) = true := ofO_same HE.out.lasts hEb (fun e => by rw [Bw.lasts_unlike (Bw.unlike_lasts l), Bw.lasts_unlike (unlike_perm (Bw.unlike_lasts l) hperm)]; exact hperm.mem_iff.symm)
            have hs2 : sameB (Bw.ofO (Bw.lasts l)) (Bw.ofO l) = true := ofO_same HE.out.lasts HE.out (fun e => by rw [Bw.lasts_unlike (Bw.unlike_lasts l)])
            have HB3 : Hid (Below w.heap.size w wr) := Lib.hid (HB2.out.trans (hB.mono HB2.out.size))
            have CA := Lib.hid (fun (W : World) (hW : Below wr.heap.size wr W) => CM.out _ HE.out.lasts W _ (HB3.out.trans (hW.mono HB3.out.size)) ((((HA2.out.move (ok' := fun k => k < w2.heap.size) goodEnt (fun k hk _ => ⟨hk, hB.block k hk⟩)).move (ok' := AllB) goodEnt (Moves.weaken fun _ _ _ => trivial)).move goodEnt (Moves.below hW))))
            have CB := Lib.hid (fun (W : World) (hW : Below wr.heap.size wr W) => CM.out _ hEb W _ (HB3.out.trans (hW.mono HB3.out.size)) (hbs.move goodEnt (Moves.below hW)))
            have CLL := Lib.hid (fun (W : World) (hW : Below wr.heap.size wr W) => CO.out W (HB3.out.trans (hW.mono HB3.out.size)))
            have CS1 := Lib.hid (fun (W : World) (q r : Value) (hW : Below wr.heap.size wr W) (h1 : ONodeAt nt AllB W q (Bw.ofO (Bw.lasts l))) (h2 : ONodeAt nt AllB W r (Bw.ofO bs)) => CQ.out _ _ HE.out.lasts hEb W q r (HB3.out.trans (hW.mono HB3.out.size)) h1 h2)
            have CS2 := Lib.hid (fun (W : World) (q r : Value) (hW : Below wr.heap.size wr W) (h1 : ONodeAt nt AllB W q (Bw.ofO (Bw.lasts l))) (h2 : ONodeAt nt AllB W r (Bw.ofO l)) => CQ.out _ _ HE.out.lasts HE.out W q r (HB3.out.trans (hW.mono HB3.out.size)) h1 h2)
            rw [hs1] at CS1
            rw [hs2] at CS2
            generalize Bw.ofO (Bw.lasts l) = oa at *
            generalize Bw.ofO bs = ob at *
            generalize Bw.ofO l = ol at *
            clear hEb hs1 hs2 hperm hbs hB CM CO CQ H0 CC CC1
            have CA0 := Lib.hid (CA.out wr (Below.refl _ _))
            go_wp2_with fail
            refine CA0.out.mono ?_
            rintro e w4 ⟨nv, rfl, hnv, hb4⟩
            have HN := Lib.hid (hnv.move (ok' := AllB) (Moves.weaken fun _ _ _ => trivial))
            have HB4 := Lib.hid hb4
            have CB4 := Lib.hid (CB.out w4 hb4)
            clear hnv hb4
            go_wp2_with fail
            refine CB4.out.mono ?_
            rintro e w5 ⟨bv5, rfl, hbv5, hb5⟩
            have HB5 := Lib.hid (HB4.out.trans (hb5.mono HB4.out.size))
            have CS5 := Lib.hid (CS1.out w5 nv bv5 HB5.out (HN.out.move (Moves.below hb5)) (hbv5.move (ok' := AllB) (Moves.weaken fun _ _ _ => trivial)))
            have HN5 := Lib.hid (HN.out.move (Moves.below hb5))
            clear hbv5 hb5
            go_wp2_with fail
            refine CS5.out.mono ?_
            rintro e w6 ⟨rfl, hb6⟩
            have HB6 := Lib.hid (HB5.out.trans (hb6.mono HB5.out.size))
            have CL6 := Lib.hid (CLL.out w6 HB6.out)
            have HN6 := Lib.hid (HN5.out.move (Moves.below hb6))
            clear hb6
            go_wp2_with fail
            refine CL6.out.mono ?_
            rintro e w7 ⟨lv7, rfl, hlv7, hb7⟩
            have HB7 := Lib.hid (HB6.out.trans (hb7.mono HB6.out.size))
            have CS7 := Lib.hid (CS2.out w7 nv lv7 HB7.out (HN6.out.move (Moves.below hb7)) (hlv7.move (ok' := AllB) (Moves.weaken fun _ _ _ => trivial)))
            clear hlv7 hb7
            go_wp2_with fail
            refine CS7.out.mono ?_
            rintro e w8 ⟨rfl, hb8⟩
            have HB8 := Lib.hid (HB3.out.trans ((HB7.out.trans (hb8.mono HB7.out.size)).mono HB3.out.size))
            have CW8 := Lib.hid (CAW.out w8 HB8.out)
            clear hb8
            go_wp2_with fail
            refine CW8.out.mono ?_
            rintro e w9 ⟨rfl, hb9⟩
            have HF := Lib.hid (HB8.out.trans (hb9.mono HB8.out.size))
            clear hb9
            go_wp2
            go_ret
            exact ⟨rfl, HF.out⟩
          · have hbe : ((bs.length : Int) == 0) = false := by rw [beq_eq_false_iff_ne]; omega
            have hlm : bs.length ≤ 40 := by rw [hperm.length_eq]; exact HLL.out
            have hb1 : (bs.length : Int) ≠ 0 := by omega
            have hmb : mb.toNat < 256 := mb.toNat_lt
            have hw6 : wrap64 (mb.toNat : Int) = (mb.toNat : Int) := by unfold wrap64; omega
            have hi : mb.toNat % bs.length < bs.length := Nat.mod_lt _ (by omega)
            have htm : (wrap64 (mb.toNat : Int)).tmod (bs.length : Int) = ((mb.toNat % bs.length : Nat) : Int) := by rw [hw6]; rfl
            clear hw6 hmb
            generalize mb.toNat % bs.length = i at *
            have hbs1 : EntsAt (fun k => k < wr.heap.size) wr (.slice AB bs.length cb) bs := hbs.move goodEnt (Moves.weaken fun k _ h => h)
            obtain ⟨bb, ob, u1, u2, e1, hbb, k0, k1, k2, hu, hv⟩ := ent_get hbs1 (List.getElem?_eq_getElem hi)
            cases e1
            obtain ⟨U1, cu1, rfl⟩ := hu.form
            obtain ⟨U2, cu2, rfl⟩ := hv.form
            obtain ⟨newsA, hrA, hcA⟩ := RowAt.news_all goodEnt (hbs1.take (Nat.le_of_lt hi))
            obtain ⟨newsB, hrB, hcB⟩ := RowAt.news_all goodEnt (hbs1.drop (k := i + 1) hi)
            have hp2 := moved_perm hi
            have hmid : bs.length ≤ cb := by obtain ⟨_, _, e, h, _⟩ := hbs1; cases e; exact h
            have i0 : (0 : Int) ≤ (i : Int) := by omega
            have i1 : (i : Int) < (bs.length : Int) := by omega
            have i2 : (i : Int) ≤ (cb : Int) := by omega
            have iw : wrap64 ((i : Int) + 1) = ((i + 1 : Nat) : Int) := wrap_succ hi (Nat.le_trans hlm (by decide))
            have iw2 : IntKind.i64.wrap ((i : Int) + 1) = ((i + 1 : Nat) : Int) := (IntWalk.i64_left _).trans iw
            have i3 : (0 : Int) ≤ ((i + 1 : Nat) : Int) := Int.natCast_nonneg _
            have i4 : ((i + 1 : Nat) : Int) ≤ (bs.length : Int) := Int.ofNat_le.2 hi
            have i5 : (bs.length : Int) ≤ (cb : Int) := Int.ofNat_le.2 hmid
            have HP2 := Lib.hid hp2
            generalize bs[i] = q at *
            obtain ⟨qh, qx, qy⟩ := q
            dsimp only at k0 k1 k2 hu hv
            obtain ⟨WX, hWX⟩ : ∃ WX, wr.alloc (.cells #[.int .u64 (qh : Nat), .slice U1 qx.length cu1, .slice U2 qy.length cu2] 62) = WX := ⟨_, rfl⟩
            have hwx : Below wr.heap.size wr WX := by rw [← hWX]; (repeat (first | exact Below.refl _ _ | with_reducible assumption | refine Below.drew ?_ | refine b_drewN ?_ _ | (refine Below.alloc ?_ (by first | omega | (simp <;> omega)) _)))
            have z0 : WX.cell? ⟨wr.heap.size, 0, none⟩ = some (.int .u64 (qh : Nat)) := by rw [← hWX]; exact cell_new wr 0 _ _ 0 _ rfl
            have z1 : WX.cell? ⟨wr.heap.size, 1, none⟩ = some (.slice U1 qx.length cu1) := by rw [← hWX]; exact cell_new wr 0 _ _ 1 _ rfl
            have z2 : WX.cell? ⟨wr.heap.size, 2, none⟩ = some (.slice U2 qy.length cu2) := by rw [← hWX]; exact cell_new wr 0 _ _ 2 _ rfl
            have hzl : wr.heap.size < WX.heap.size := by rw [← hWX]; simp
            have HTK : Hid ((bs.take i).length = i) := Lib.hid (by rw [List.length_take]; exact Nat.min_eq_left (Nat.le_of_lt hi))
            have HLE := Lib.hid hlm
            have HWX := Lib.hid hWX
            have HNA := Lib.hid hcA; have HNB := Lib.hid hcB; have HRA := Lib.hid hrA; have HRB := Lib.hid hrB; have HU := Lib.hid hu; have HV := Lib.hid hv; have HPM := Lib.hid hperm; have HB := Lib.hid hB; have HWXB := Lib.hid hwx
            clear hcA hcB hrA hrB hu hv hperm hB hwx hWX hbs hbs1 hp2 hlm hi hbb hmid
            have HILT : Hid ((bs.take i).length = i ∧ (bs.drop (i + 1)).length = bs.length - (i + 1) ∧ bs.length ≤ 40) := Lib.hid ⟨HTK.out, List.length_drop, HLE.out⟩
            have hX1 : Below WX.heap.size WX (WX.alloc (.cells #[.int .u64 (qh : Nat), .slice U1 qx.length cu1, .slice U2 qy.length cu2] 62)) := (Below.refl _ _).alloc (Nat.le_refl _) _
            have HO1 : Hid (∀ W, Below (WX.alloc (.cells #[.int .u64 (qh : Nat), .slice U1 qx.length cu1, .slice U2 qy.length cu2] 62)).heap.size (WX.alloc (.cells #[.int .u64 (qh : Nat), .slice U1 qx.length cu1, .slice U2 qy.length cu2] 62)) W → OwnAt 62 3 entK AllB W WX.heap.size (.slice (some ⟨WX.heap.size, 0, none⟩) 1 1) [(qh, (qx, qy))]) := Lib.hid fun W hW =>
              OwnAt.move goodEnt (Moves.below hW) (own_one (cs := [.int .u64 (qh : Nat), .slice U1 qx.length cu1, .slice U2 qy.length cu2]) goodEnt trivial (Nat.le_refl _)
                (goodEnt.move (ok := fun k => k < wr.heap.size) (fun k hk hl => ⟨⟨trivial, fun e => by omega⟩, ((HWXB.out.trans (hX1.mono HWXB.out.size)).block k hk)⟩) (entK_mk (e := (qh, (qx, qy))) HU.out HV.out)))
            obtain ⟨AD, hAD⟩ : ∃ AD : Addr, AD = if cb = i + 1 then ⟨bb, ob, none⟩ else ⟨bb, ob + (i + 1) * 3, none⟩ := ⟨_, rfl⟩
            have HCB := Lib.hid i5
            have HNN : Hid (∀ W, Below WX.heap.size WX W → ((∀ j u, newsA[j]? = some u → W.cell? ((⟨bb, ob, none⟩ : Addr).add j) = some u) ∧ Reps (entK (fun k => k < WX.heap.size) W) 3 (bs.take i) newsA) ∧ ((∀ j u, newsB[j]? = some u → W.cell? (AD.add j) = some u) ∧ Reps (entK (fun k => k < WX.heap.size) W) 3 (bs.drop (i + 1)) newsB)) := Lib.hid fun W hW => by
              have hb := HWXB.out.trans (hW.mono HWXB.out.size)
              have hm : Moves (fun k => k < wr.heap.size) (fun k => k < WX.heap.size) wr W := fun k hk _ => ⟨Nat.lt_trans hk hzl, hb.block k hk⟩
              refine ⟨⟨fun j u hj => ?_, HRA.out.move goodEnt hm⟩, ⟨fun j u hj => ?_, HRB.out.move goodEnt hm⟩⟩
              · obtain ⟨h1, h2⟩ := HNA.out j u hj
                rw [add_none]; exact (hb.cell (p := ⟨bb, ob + j, none⟩) h1).trans h2
              · obtain ⟨h1, h2⟩ := HNB.out j u hj
                split at hAD
                · have := HRB.out.1
                  have := HILT.out
                  have := (List.getElem?_eq_some_iff.1 hj).1
                  have := HCB.out
                  omega
                · rw [hAD, add_none]; exact (hb.cell (p := ⟨bb, ob + (i + 1) * 3 + j, none⟩) h1).trans h2
            obtain ⟨iE, hiE, hz0, hz1, hz2⟩ := info_parts infoLE
            have HI := Lib.hid hiE; have HZ0 := Lib.hid hz0; have HZ1 := Lib.hid hz1; have HZ2 := Lib.hid hz2
            clear hiE hz0 hz1 hz2 hX1
            have i8 : (i : Int) + 1 ≤ (bs.length : Int) := i4
            have i9 : (0 : Int) ≤ (i : Int) + 1 := i3
            have HLNA : Hid (([(qh, (qx, qy))] ++ bs.take i).length = i + 1) := Lib.hid (by rw [List.length_append, HTK.out]; exact Nat.add_comm 1 i)
            have HLNB : Hid ((([(qh, (qx, qy))] ++ bs.take i) ++ bs.drop (i + 1)).length = bs.length) := Lib.hid HP2.out.length_eq
            by_cases hce : cb = i + 1
            · rw [if_pos hce] at hAD
              subst hce
              subst hAD
              have i6 : (i : Int) ≤ (i : Int) + 1 := by omega
              have i7 : (bs.length : Int) ≤ (i : Int) + 1 := i5
              have hszX : WX.heap.size < WX.heap.size + 1 := Nat.lt_succ_self _
              go_wp2_with (rw [HWX.out])
              go_region_law
                ((first
                  | (refine st_app goodEnt rfl (.tmp 45) (.tmp 48) 54 rfl WX.heap.size 62 iE _ 56 Tryd.underlying54 HI.out HZ0.out HZ1.out HZ2.out rfl (by decide) (.slice (some ⟨WX.heap.size, 0, none⟩) 1 1) [(qh, (qx, qy))] rfl (HO1.out _ (by (repeat (first | exact Below.refl _ _ | with_reducible assumption | refine Below.drew ?_ | (refine Below.alloc ?_ (by simp) _) | (refine Below.alloc ?_ (by simp; omega) _))))) ⟨bb, ob, none⟩ _ _ (bs.take i) newsA rfl HILT.out.1 (HNN.out _ (by (repeat (first | exact Below.refl _ _ | with_reducible assumption | refine Below.drew ?_ | (refine Below.alloc ?_ (by simp) _) | (refine Below.alloc ?_ (by simp; omega) _))))).1.1 ((HNN.out _ (by (repeat (first | exact Below.refl _ _ | with_reducible assumption | refine Below.drew ?_ | (refine Below.alloc ?_ (by simp) _) | (refine Below.alloc ?_ (by simp; omega) _))))).1.2.imp fun x c => goodEnt.move (Moves.weaken fun k hk _ => ⟨trivial, fun e => by simp only [Value.ownBlock] at e; injection e with e; omega⟩)) (fun _ _ => trivial) (by have := HILT.out; simp only [List.length_singleton]; omega) (by decide) (by simp) ?_; intro v4 w4 hown4 hg4 hat4; obtain ⟨A4, c4, e4⟩ := (hown4.row goodEnt).form; rw [HLNA.out] at e4; subst e4; have hX4 : Below WX.heap.size WX w4 := Below.grown (by (repeat (first | exact Below.refl _ _ | with_reducible assumption | refine Below.drew ?_ | (refine Below.alloc ?_ (by simp) _) | (refine Below.alloc ?_ (by simp; omega) _)))) hg4 (by simp) (fun k e => by simp only [Value.ownBlock] at e; injection e with e; omega))
                  | (refine st_app goodEnt rfl (.tmp 49) (.tmp 53) 54 rfl WX.heap.size 62 iE _ 56 Tryd.underlying54 HI.out HZ0.out HZ1.out HZ2.out rfl (by decide) _ ([(qh, (qx, qy))] ++ bs.take i) rfl hown4 _ _ _ (bs.drop (i + 1)) newsB rfl HILT.out.2.1 (HNN.out _ hX4).2.1 ((HNN.out _ hX4).2.2.imp fun x c => goodEnt.move (Moves.weaken fun k hk _ => ⟨trivial, fun e => by have := (hown4.lt k e.symm).1; omega⟩)) (fun _ _ => trivial) (by have := HILT.out; simp only [List.length_append, List.length_singleton]; omega) (by decide) hX4.size ?_; intro v5 w5 hown5 hg5 hat5; obtain ⟨A5, c5, e5⟩ := (hown5.row goodEnt).form; rw [HLNB.out] at e5; subst e5)
                  | (trace_state; fail "x")))
              all_goals go_wp2
              all_goals exact ⟨⟨k + 1, _, HLT.out, rfl, HP2.out.trans HPM.out, hown5.row goodEnt, (HB.out.trans (HWXB.out.mono HB.out.size)).trans (((hX4.grown hg5 hX4.size (fun k e => (hown4.lt k e).1)).mono (Nat.le_trans HB.out.size HWXB.out.size)))⟩, by show mv.length - ((k : Int) + 1).toNat < mv.length - (k : Int).toNat; have := HLT.out; omega⟩
            · rw [if_neg hce] at hAD
              subst hAD
              have hszX : WX.heap.size < WX.heap.size + 1 := Nat.lt_succ_self _
              go_wp2_with (rw [HWX.out])
              go_region_law
                ((first
                  | (refine st_app goodEnt rfl (.tmp 45) (.tmp 48) 54 rfl WX.heap.size 62 iE _ 56 Tryd.underlying54 HI.out HZ0.out HZ1.out HZ2.out rfl (by decide) (.slice (some ⟨WX.heap.size, 0, none⟩) 1 1) [(qh, (qx, qy))] rfl (HO1.out _ (by (repeat (first | exact Below.refl _ _ | with_reducible assumption | refine Below.drew ?_ | (refine Below.alloc ?_ (by simp) _) | (refine Below.alloc ?_ (by simp; omega) _))))) ⟨bb, ob, none⟩ _ _ (bs.take i) newsA rfl HILT.out.1 (HNN.out _ (by (repeat (first | exact Below.refl _ _ | with_reducible assumption | refine Below.drew ?_ | (refine Below.alloc ?_ (by simp) _) | (refine Below.alloc ?_ (by simp; omega) _))))).1.1 ((HNN.out _ (by (repeat (first | exact Below.refl _ _ | with_reducible assumption | refine Below.drew ?_ | (refine Below.alloc ?_ (by simp) _) | (refine Below.alloc ?_ (by simp; omega) _))))).1.2.imp fun x c => goodEnt.move (Moves.weaken fun k hk _ => ⟨trivial, fun e => by simp only [Value.ownBlock] at e; injection e with e; omega⟩)) (fun _ _ => trivial) (by have := HILT.out; simp only [List.length_singleton]; omega) (by decide) (by simp) ?_; intro v4 w4 hown4 hg4 hat4; obtain ⟨A4, c4, e4⟩ := (hown4.row goodEnt).form; rw [HLNA.out] at e4; subst e4; have hX4 : Below WX.heap.size WX w4 := Below.grown (by (repeat (first | exact Below.refl _ _ | with_reducible assumption | refine Below.drew ?_ | (refine Below.alloc ?_ (by simp) _) | (refine Below.alloc ?_ (by simp; omega) _)))) hg4 (by simp) (fun k e => by simp only [Value.ownBlock] at e; injection e with e; omega))
                  | (refine st_app goodEnt rfl (.tmp 49) (.tmp 53) 54 rfl WX.heap.size 62 iE _ 56 Tryd.underlying54 HI.out HZ0.out HZ1.out HZ2.out rfl (by decide) _ ([(qh, (qx, qy))] ++ bs.take i) rfl hown4 _ _ _ (bs.drop (i + 1)) newsB rfl HILT.out.2.1 (HNN.out _ hX4).2.1 ((HNN.out _ hX4).2.2.imp fun x c => goodEnt.move (Moves.weaken fun k hk _ => ⟨trivial, fun e => by have := (hown4.lt k e.symm).1; omega⟩)) (fun _ _ => trivial) (by have := HILT.out; simp only [List.length_append, List.length_singleton]; omega) (by decide) hX4.size ?_; intro v5 w5 hown5 hg5 hat5; obtain ⟨A5, c5, e5⟩ := (hown5.row goodEnt).form; rw [HLNB.out] at e5; subst e5)
                  | (trace_state; fail "x")))
              all_goals go_wp2
              all_goals exact ⟨⟨k + 1, _, HLT.out, rfl, HP2.out.trans HPM.out, hown5.row goodEnt, (HB.out.trans (HWXB.out.mono HB.out.size)).trans (((hX4.grown hg5 hX4.size (fun k e => (hown4.lt k e).1)).mono (Nat.le_trans HB.out.size HWXB.out.size)))⟩, by show mv.length - ((k : Int) + 1).toNat < mv.length - (k : Int).toNat; have := HLT.out; omega⟩
        · have hke : k = mv.length := by omega
          subst hke
          go_wp2_with fail
          have hEb : EnsOk bs := HE.out.lasts.perm hperm
          have hs1 : sameB (Bw.ofO (Bw.lasts l)) (Bw.ofO bs) = true := ofO_same HE.out.lasts hEb (fun e => by rw [Bw.lasts_unlike (Bw.unlike_lasts l), Bw.lasts_unlike (unlike_perm (Bw.unlike_lasts l) hperm)]; exact hperm.mem_iff.symm)
          have hs2 : sameB (Bw.ofO (Bw.lasts l)) (Bw.ofO l) = true := ofO_same HE.out.lasts HE.out (fun e => by rw [Bw.lasts_unlike (Bw.unlike_lasts l)])
          have HB3 : Hid (Below w.heap.size w wr) := Lib.hid (HB2.out.trans (hB.mono HB2.out.size))
          have CA := Lib.hid (fun (W : World) (hW : Below wr.heap.size wr W) => CM.out _ HE.out.lasts W _ (HB3.out.trans (hW.mono HB3.out.size)) ((((HA2.out.move (ok' := fun k => k < w2.heap.size) goodEnt (fun k hk _ => ⟨hk, hB.block k hk⟩)).move (ok' := AllB) goodEnt (Moves.weaken fun _ _ _ => trivial)).move goodEnt (Moves.below hW))))
          have CB := Lib.hid (fun (W : World) (hW : Below wr.heap.size wr W) => CM.out _ hEb W _ (HB3.out.trans (hW.mono HB3.out.size)) (hbs.move goodEnt (Moves.below hW)))
          have CLL := Lib.hid (fun (W : World) (hW : Below wr.heap.size wr W) => CO.out W (HB3.out.trans (hW.mono HB3.out.size)))
          have CS1 := Lib.hid (fun (W : World) (q r : Value) (hW : Below wr.heap.size wr W) (h1 : ONodeAt nt AllB W q (Bw.ofO (Bw.lasts l))) (h2 : ONodeAt nt AllB W r (Bw.ofO bs)) => CQ.out _ _ HE.out.lasts hEb W q r (HB3.out.trans (hW.mono HB3.out.size)) h1 h2)
          have CS2 := Lib.hid (fun (W : World) (q r : Value) (hW : Below wr.heap.size wr W) (h1 : ONodeAt nt AllB W q (Bw.ofO (Bw.lasts l))) (h2 : ONodeAt nt AllB W r (Bw.ofO l)) => CQ.out _ _ HE.out.lasts HE.out W q r (HB3.out.trans (hW.mono HB3.out.size)) h1 h2)
          rw [hs1] at CS1
          rw [hs2] at CS2
          generalize Bw.ofO (Bw.lasts l) = oa at *
          generalize Bw.ofO bs = ob at *
          generalize Bw.ofO l = ol at *
          clear hEb hs1 hs2 hperm hbs hB CM CO CQ H0 CC CC1
          have CA0 := Lib.hid (CA.out wr (Below.refl _ _))
          go_wp2_with fail
          refine CA0.out.mono ?_
          rintro e w4 ⟨nv, rfl, hnv, hb4⟩
          have HN := Lib.hid (hnv.move (ok' := AllB) (Moves.weaken fun _ _ _ => trivial))
          have HB4 := Lib.hid hb4
          have CB4 := Lib.hid (CB.out w4 hb4)
          clear hnv hb4
          go_wp2_with fail
          refine CB4.out.mono ?_
          rintro e w5 ⟨bv5, rfl, hbv5, hb5⟩
          have HB5 := Lib.hid (HB4.out.trans (hb5.mono HB4.out.size))
          have CS5 := Lib.hid (CS1.out w5 nv bv5 HB5.out (HN.out.move (Moves.below hb5)) (hbv5.move (ok' := AllB) (Moves.weaken fun _ _ _ => trivial)))
          have HN5 := Lib.hid (HN.out.move (Moves.below hb5))
          clear hbv5 hb5
          go_wp2_with fail
          refine CS5.out.mono ?_
          rintro e w6 ⟨rfl, hb6⟩
          have HB6 := Lib.hid (HB5.out.trans (hb6.mono HB5.out.size))
          have CL6 := Lib.hid (CLL.out w6 HB6.out)
          have HN6 := Lib.hid (HN5.out.move (Moves.below hb6))
          clear hb6
          go_wp2_with fail
          refine CL6.out.mono ?_
          rintro e w7 ⟨lv7, rfl, hlv7, hb7⟩
          have HB7 := Lib.hid (HB6.out.trans (hb7.mono HB6.out.size))
          have CS7 := Lib.hid (CS2.out w7 nv lv7 HB7.out (HN6.out.move (Moves.below hb7)) (hlv7.move (ok' := AllB) (Moves.weaken fun _ _ _ => trivial)))
          clear hlv7 hb7
          go_wp2_with fail
          refine CS7.out.mono ?_
          rintro e w8 ⟨rfl, hb8⟩
          have HB8 := Lib.hid (HB3.out.trans ((HB7.out.trans (hb8.mono HB7.out.size)).mono HB3.out.size))
          have CW8 := Lib.hid (CAW.out w8 HB8.out)
          clear hb8
          go_wp2_with fail
          refine CW8.out.mono ?_
          rintro e w9 ⟨rfl, hb9⟩
          have HF := Lib.hid (HB8.out.trans (hb9.mono HB8.out.size))
          clear hb9
          go_wp2
          go_ret
          exact ⟨rfl, HF.out⟩
    · have hgt : decide ((40 : Int) < (mv.length : Int)) = true := by rw [decide_eq_true_iff]; omega
      have hgt2 : (40 : Int) < (mv.length : Int) := by omega
      clear hr hT hh hkv
      go_enter Tryd.func9, Tryd.ntmps9
      go_wp2_with fail
      refine CS.out.mono ?_
      rintro e w1 ⟨rfl, hb1⟩
      go_wp2_with fail
      refine (CAW.out _ hb1).mono ?_
      rintro e w2 ⟨rfl, hb2⟩
      go_wp2
      go_ret
      exact ⟨rfl, hb1.trans (hb2.mono hb1.size)⟩
end Go.Proofs.YtehkjnmnbplcoaaDoor
