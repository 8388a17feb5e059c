
import Derived.Test.YtehkjnmnbplcoaaDoorEnd
import Derived.Test.YtehkjnmnbplcoaaDoorLaw7
import Derived.Test.YtehkjnmnbplcoaaDoorComeA
namespace Go.Proofs.YtehkjnmnbplcoaaDoor
open Go.RowKit Go.Bw

theorem _root_.Bw.get_mem {k v : Bw.Bytes} : ∀ {m : List Bw.PV}, Bw.Rises m → (Bw.get m k = some v ↔ (k, v) ∈ m)
  | [], _ => by simp [Bw.get]
  | q :: r, h => by
    obtain ⟨h1, h2⟩ := List.pairwise_cons.1 h
    simp only [Bw.get, List.mem_cons]
    split
    · rename_i e
      constructor
      · intro hs
        injection hs with hs
        exact .inl (Prod.ext e.symm hs.symm)
      · rintro (hm | hm)
        · rw [← hm]
        · exact absurd e (Bw.lt_ne (h1 _ hm))
    · rename_i e
      rw [Bw.get_mem h2]
      constructor
      · exact fun hm => .inr hm
      · rintro (hm | hm)
        · exact absurd (by rw [← hm]) e
        · exact hm

/-- what is told at the way's end is what the document's pairs there have -/
theorem lookEnd_get {x : Option Bw.N} (hf : ∀ n, x = some n → n.fit) (hb : ∀ m kids, x ≠ some (.branch m kids)) (h : Nat) (key : Bw.Bytes) :
    ((Bw.absO x).kind ≠ 0 → (Bw.absO x).hash = h → Bw.lookEnd x h key = Bw.get (Bw.absO x).pairs key) ∧ ((Bw.absO x).kind = 0 ∨ (Bw.absO x).hash ≠ h → Bw.lookEnd x h key = none) := by
  match x, hf, hb with
  | none, _, _ => exact ⟨fun h => absurd rfl h, fun _ => rfl⟩
  | some (.leaf g q), _, _ =>
    refine ⟨fun _ (h1 : g = h) => ?_, fun hx => ?_⟩
    · show (if g = h ∧ key = q.1 then some q.2 else none) = if q.1 = key then some q.2 else none
      by_cases h2 : key = q.1
      · rw [if_pos ⟨h1, h2⟩, if_pos h2.symm]
      · rw [if_neg (fun e => h2 e.2), if_neg (fun e => h2 e.symm)]
    · have hne : g ≠ h := hx.resolve_left (fun e : (1 : Nat) = 0 => by cases e)
      show (if g = h ∧ key = q.1 then some q.2 else none) = none
      rw [if_neg (fun e => hne e.1)]
  | some (.bucket g t), hf, _ =>
    have hfit := hf _ rfl
    simp only [Bw.N.fit] at hfit
    refine ⟨fun _ (h1 : g = h) => ?_, fun hx => ?_⟩
    · show (if g = h then t.look key else none) = Bw.get t.list key
      rw [if_pos h1]
      cases hg : Bw.get t.list key with
      | some v => exact (Bw.T.look_mem key v t hfit.2.1).2 ((Bw.get_mem hfit.2.1).1 hg)
      | none =>
        cases hl : t.look key with
        | none => rfl
        | some v =>
          have := (Bw.get_mem hfit.2.1).2 ((Bw.T.look_mem key v t hfit.2.1).1 hl)
          rw [hg] at this
          cases this
    · have hne : g ≠ h := hx.resolve_left (fun e : (2 : Nat) = 0 => by cases e)
      show (if g = h then t.look key else none) = none
      rw [if_neg hne]
  | some (.branch m kids), _, hb => exact absurd rfl (hb m kids)

theorem ofO_abs {l : List Bw.En} (hl : EnsOk l) : Bw.layX 13 0 (Bw.lasts l) = Bw.absO (Bw.ofO l) := by
  have hO := hl.lays
  cases ho : Bw.ofO l with
  | none =>
    rw [ho] at hO
    rw [show Bw.lasts l = [] from hO]
    rfl
  | some n =>
    rw [ho] at hO
    exact Bw.lays_abs hO 13 (Bw.lasts l) rfl hl.lay.unlike (fun _ => Iff.rfl) hl.lay.res hl.lay.hash

set_option maxRecDepth 100000 in
set_option maxHeartbeats 400000 in
theorem fdepth_any {ok : Nat → Prop} {o : Option Bw.N} {l : List Bw.En} {nv : Value} {h : Nat} {w : World} (hL : LayOk 0 13 l) (hO : Bw.OLays 0 o l) (hn : ONodeAt nt ok w nv o) :
    Calls Tryd.prog 39 #[nv, .int .u64 (h : Nat)] w fun e w' => e = .returned (.int .i64 ((Bw.wayO 13 o h 0).2 : Nat)) ∧ Below w.heap.size w w' := by
  have CW := Lib.hid (fway_any (c := (0, 0)) (mb := none) (mv := .pointer none) (h := h) hL hO hn rfl (fun k _ e => by cases e) (by decide))
  clear hL hO hn
  generalize (Bw.wayO 13 o h 0).1 = x at *
  generalize (Bw.wayO 13 o h 0).2 = D at *
  go_enter Tryd.func39, Tryd.ntmps39
  go_wp2_with fail
  refine CW.out.mono ?_
  rintro e w1 ⟨u1, rfl, _, _, hT1⟩
  have HB := Lib.hid (Turns.below hT1)
  clear hT1
  go_wp2
  go_ret
  exact ⟨rfl, HB.out⟩

set_option maxRecDepth 100000 in
set_option maxHeartbeats 1000000 in
theorem findgets_any {l : List Bw.En} {key : Bw.Bytes} {v kv : Value} {n : Nat} {w : World} (hr : EntsAt AllB w v l) (hh : ∀ e ∈ l, e.1 < 18446744073709551616) (hn : n < 18446744073709551616) (hkv : BytesAt AllB w kv key) (hT : Tab w) :
    Calls Tryd.prog 12 #[v, .int .u64 (n : Nat), kv] w fun e w' => e = .returned (.bool true) ∧ Below w.heap.size w w' := by
  have CS := Lib.hid (small17_any 40 (by decide) hr)
  obtain ⟨A, c, rfl⟩ := hr.form
  obtain ⟨KA, ck, rfl⟩ := hkv.form
  have CAW := Lib.hid (fun (W : World) (hW : Below w.heap.size w W) => awake18_any W (hT.below hT.pos hW))
  cases hsm : smallE l 40 with
  | false =>
    rw [hsm] at CS
    clear hr hT hh hkv
    go_enter Tryd.func12, Tryd.ntmps12
    go_wp2_with fail
    refine CS.out.mono ?_
    rintro e w1 ⟨rfl, hb1⟩
    go_wp2_with fail
    refine (CAW.out _ hb1).mono ?_
    rintro e w2 ⟨rfl, hb2⟩
    go_wp2
    go_ret
    exact ⟨rfl, hb1.trans (hb2.mono hb1.size)⟩
  | true =>
    rw [hsm] at CS
    by_cases hkl : key.length ≤ 60
    · have hgt : decide ((60 : Int) < (key.length : Int)) = false := by rw [decide_eq_false_iff_not]; omega
      have hgt2 : ¬ ((60 : Int) < (key.length : Int)) := by omega
      have hE := smallE_ok (by decide) hsm hh
      have hr0 : EntsAt (fun k => k < w.heap.size) w (.slice A l.length c) l := hr.move goodEnt (Moves.weaken fun k _ h => h)
      have hk0 : BytesAt (fun k => k < w.heap.size) w (.slice KA key.length ck) key := hkv.move goodByte (Moves.weaken fun k _ h => h)
      have CO := Lib.hid (fun (W : World) (hW : Below w.heap.size w W) => lof_any hE (hr0.move (ok' := fun k => k < w.heap.size) goodEnt (fun k hk _ => ⟨hk, hW.block k hk⟩)) (hT.below hT.pos hW))
      have CR := Lib.hid (fun (W : World) (hW : Below w.heap.size w W) => ref17_any (Nat.le_trans hE.len (by decide)) (hr0.move (ok' := fun k => k < w.heap.size) goodEnt (fun k hk _ => ⟨hk, hW.block k hk⟩)))
      have CC := Lib.hid (fun (W : World) (q : Value) (h : SensAt AllB W q l) => rcomeE_any (Nat.le_trans hE.len (by decide)) h)
      have CL := Lib.hid (fun (W : World) (q : Value) (h : SensAt AllB W q (Bw.lasts l)) => rlay_any 13 0 (Bw.lasts l) AllB q W rfl hE.lay.len hE.lay.bytes hE.lay.hash hE.lay.res h)
      rw [ofO_abs hE] at CL
      have CE := Lib.hid (fun (ok : Nat → Prop) (cs : List Value) (W : World) (hx : xK ok W (Bw.absO (Bw.ofO l)) cs) => rend_any hn 13 0 (Bw.ofO l) (Bw.lasts l) ok cs W hE.lay hE.lays hx)
      unfold EndSays at CE
      have CG := Lib.hid (fun (W : World) (u : Value) (hW : Below w.heap.size w W) (h1 : ONodeAt nt AllB W u (Bw.ofO l)) => fget_any (c := (0, 0)) (mb := none) (mv := .pointer none) (h := n) hE.lay hE.lays h1 (hk0.move (ok' := fun k => k < w.heap.size) goodByte (fun k hk _ => ⟨hk, hW.block k hk⟩)) rfl (fun k _ e => by cases e) (fun k _ e => by cases e) ⟨by decide, by decide⟩)
      have CDP := Lib.hid (fun (W : World) (u : Value) (h1 : ONodeAt nt AllB W u (Bw.ofO l)) => fdepth_any (h := n) hE.lay hE.lays h1)
      have HV := Lib.hid (fun (W : World) (hW : Below w.heap.size w W) => run_conv (P := Tryd.prog) 29 9 5 Tryd.underlying29 Tryd.underlying5 Tryd.underlying9 (hk0.move (ok' := fun k => k < w.heap.size) goodByte (fun k hk _ => ⟨hk, hW.block k hk⟩)))
      obtain ⟨d', f', l', hL', hO', hnb⟩ := fway_lays n 13 0 (Bw.ofO l) (Bw.lasts l) hE.lay hE.lays
      have hfx : ∀ m, (Bw.wayO 13 (Bw.ofO l) n 0).1 = some m → m.fit := fun m e => hL'.fit (e ▸ hO')
      obtain ⟨hlk1, hlk2⟩ := lookEnd_get hfx hnb n key
      have hpl : (Bw.absO (Bw.wayO 13 (Bw.ofO l) n 0).1).pairs.length ≤ 1048576 := by
        cases hx : (Bw.wayO 13 (Bw.ofO l) n 0).1 with
        | none => exact Nat.zero_le _
        | some m =>
          have := hfx m hx
          cases m with
          | leaf g q => exact (by decide : (1 : Nat) ≤ 1048576)
          | bucket g t => simp only [Bw.N.fit] at this; show t.list.length ≤ _; rw [Bw.T.length_list]; exact this.2.2.2
          | branch m kids => exact Nat.zero_le _
      have HL1 := Lib.hid hlk1; have HL2 := Lib.hid hlk2; have HPL := Lib.hid hpl
      clear hr hr0 hk0 hkv hT hsm hE hh hfx hlk1 hlk2 hpl hL' hO' hnb
      generalize Bw.lasts l = m at *
      generalize Bw.ofO l = o at *
      generalize (Bw.wayO 13 o n 0).1 = x at *
      generalize (Bw.wayO 13 o n 0).2 = D at *
      rcases hxm : Bw.absO x with ⟨kx, gx, px, sx, nx⟩
      rw [hxm] at HL1 HL2 HPL CE
      simp only [Bw.X.kind, Bw.X.hash, Bw.X.pairs] at HL1 HL2 HPL
      clear hxm
      generalize Bw.lookEnd x n key = r at *
      go_enter Tryd.func12, Tryd.ntmps12
      go_wp2_with fail
      refine CS.out.mono ?_
      rintro e w1 ⟨rfl, hb1⟩
      have CO1 := Lib.hid (CO.out w1 hb1)
      have HB1 := Lib.hid hb1
      clear hb1
      go_wp2_with fail
      refine CO1.out.mono ?_
      rintro e w2 ⟨nv, rfl, hnv, hb2⟩
      have HB2 := Lib.hid (HB1.out.trans (hb2.mono HB1.out.size))
      have CR2 := Lib.hid (CR.out w2 HB2.out)
      have HN := Lib.hid (hnv.move (ok' := AllB) (Moves.weaken fun _ _ _ => trivial))
      clear hb2 hnv
      go_wp2_with fail
      refine CR2.out.mono ?_
      rintro e w3 ⟨q3, rfl, hq3, hb3⟩
      have CC3 := Lib.hid (CC.out w3 _ hq3)
      have HB3 := Lib.hid hb3
      clear hq3 hb3
      go_wp2_with fail
      refine CC3.out.mono ?_
      rintro e w4 ⟨q4, rfl, hq4, hb4⟩
      have CL4 := Lib.hid (CL.out w4 _ hq4)
      have HB4 := Lib.hid (HB3.out.trans (hb4.mono HB3.out.size))
      clear hq4 hb4
      go_wp2_with fail
      refine CL4.out.mono ?_
      rintro e w5 ⟨r5, rfl, ⟨cs5, rfl, hx5⟩, hb5⟩
      have CE5 := Lib.hid (CE.out _ cs5 w5 hx5)
      have HB5 := Lib.hid (HB4.out.trans (hb5.mono HB4.out.size))
      clear hx5 hb5
      go_wp2_with fail
      refine CE5.out.mono ?_
      rintro e w6 ⟨cs6, rfl, hx6, hb6⟩
      obtain ⟨vp6, vs6, vk6, rfl, hp6, hs6, hk6⟩ := xK_iff.1 hx6
      obtain ⟨P6, cp6, rfl⟩ := hp6.form
      obtain ⟨S6, cs6', rfl⟩ := hs6.form
      obtain ⟨K6, ck6, rfl⟩ := hk6.form
      have hb26 : Below w2.heap.size w2 w6 := HB5.out.trans (hb6.mono HB5.out.size)
      obtain ⟨W7, hW7⟩ : ∃ W7, w6.alloc (.cells #[.int .i64 (kx : Nat), .int .u64 (gx : Nat), .slice P6 px.length cp6, .slice S6 sx.length cs6', .slice K6 nx.length ck6] 45) = W7 := ⟨_, rfl⟩
      have hb67 : Below w6.heap.size w6 W7 := by rw [← hW7]; exact (Below.refl _ _).alloc (Nat.le_refl _) _
      have hb27 := hb26.trans (hb67.mono hb26.size)
      have m0 : W7.cell? ⟨w6.heap.size, 0, none⟩ = some (.int .i64 (kx : Nat)) := by rw [← hW7]; exact cell_new w6 0 _ _ 0 _ rfl
      have m1 : W7.cell? ⟨w6.heap.size, 1, none⟩ = some (.int .u64 (gx : Nat)) := by rw [← hW7]; exact cell_new w6 0 _ _ 1 _ rfl
      have m2 : W7.cell? ⟨w6.heap.size, 2, none⟩ = some (.slice P6 px.length cp6) := by rw [← hW7]; exact cell_new w6 0 _ _ 2 _ rfl
      have hBW : ∀ W, Below W7.heap.size W7 W → Below w.heap.size w W := fun W hW => HB2.out.trans ((hb27.trans (hW.mono hb27.size)).mono HB2.out.size)
      have CGG := Lib.hid (fun (W : World) (hW : Below W7.heap.size W7 W) => CG.out W nv (hBW W hW) (HN.out.move (Moves.below (hb27.trans (hW.mono hb27.size)))))
      have CD := Lib.hid (fun (W : World) (hW : Below W7.heap.size W7 W) => CDP.out W nv (HN.out.move (Moves.below (hb27.trans (hW.mono hb27.size)))))
      have CGET := Lib.hid (rget_any (key := key) HPL.out (hp6.move goodSp (Moves.below hb67)))
      have HBW3 := Lib.hid (hBW W7 (Below.refl _ _))
      have q7 := HV.out W7 HBW3.out
      have HW7 := Lib.hid hW7
      clear hx6 hb6 hp6 hs6 hk6 hb26 hb67 hb27 hBW hW7
      by_cases hc : kx ≠ 0 ∧ gx = n
      · obtain ⟨hc1, hc2⟩ := hc
        have hrr := HL1.out hc1 hc2
        have hne : ((kx : Int) != 0) = true := by rw [bne_iff_ne]; omega
        subst hc2
        have HRR := Lib.hid hrr
        clear hrr hc1
        simp only [← HRR.out] at CGET
        simp only [getV, str] at CGET
        cases r with
        | some val =>
          go_wp2_with (first
            | (rw [HW7.out])
            | (refine CGET.out.mono ?_; rintro e w8 ⟨rfl, hb8⟩; have CG8 := Lib.hid (CGG.out w8 hb8); have HB8 := Lib.hid hb8; clear hb8))
          refine CG8.out.mono ?_
          rintro e w9 ⟨u9, b9, rfl, hl9, _, hT9⟩
          obtain ⟨rfl, hu9⟩ := hl9
          obtain ⟨U9, cu9, rfl⟩ := hu9.form
          have q9 := run_conv (P := Tryd.prog) 29 9 5 Tryd.underlying29 Tryd.underlying5 Tryd.underlying9 hu9
          have hb9 := HB8.out.trans (hT9.below.mono HB8.out.size)
          have CD9 := Lib.hid (CD.out w9 hb9)
          have HB9 := Lib.hid hb9
          clear hT9 hb9
          clear hu9
          go_wp2_with fail
          refine CD9.out.mono ?_
          rintro e w10 ⟨rfl, hb10⟩
          have hbx := HB9.out.trans (hb10.mono HB9.out.size)
          have CA10 := Lib.hid (CAW.out w10 (HBW3.out.trans (hbx.mono HBW3.out.size)))
          have HBX := Lib.hid (HBW3.out.trans (hbx.mono HBW3.out.size))
          clear hbx hb10
          go_wp2_with fail
          refine CA10.out.mono ?_
          rintro e w11 ⟨rfl, hb11⟩
          have HF := Lib.hid (HBX.out.trans (hb11.mono HBX.out.size))
          clear hb11
          go_wp2
          go_ret
          exact ⟨rfl, HF.out⟩
        | none =>
          go_wp2_with (first
            | (rw [HW7.out])
            | (refine CGET.out.mono ?_; rintro e w8 ⟨rfl, hb8⟩; have CG8 := Lib.hid (CGG.out w8 hb8); have HB8 := Lib.hid hb8; clear hb8))
          refine CG8.out.mono ?_
          rintro e w9 ⟨u9, b9, rfl, hl9, _, hT9⟩
          obtain ⟨rfl, rfl⟩ := hl9
          have q9 : (convert 29 9 (.slice none 0 0)).run Tryd.prog w9 = .ok (.string ⟨#[]⟩) w9 := run_conv (P := Tryd.prog) (l := []) (ok := AllB) 29 9 5 Tryd.underlying29 Tryd.underlying5 Tryd.underlying9 RowAt.nil
          have hb9 := HB8.out.trans (hT9.below.mono HB8.out.size)
          have CD9 := Lib.hid (CD.out w9 hb9)
          have HB9 := Lib.hid hb9
          clear hT9 hb9
          skip
          go_wp2_with fail
          refine CD9.out.mono ?_
          rintro e w10 ⟨rfl, hb10⟩
          have hbx := HB9.out.trans (hb10.mono HB9.out.size)
          have CA10 := Lib.hid (CAW.out w10 (HBW3.out.trans (hbx.mono HBW3.out.size)))
          have HBX := Lib.hid (HBW3.out.trans (hbx.mono HBW3.out.size))
          clear hbx hb10
          go_wp2_with fail
          refine CA10.out.mono ?_
          rintro e w11 ⟨rfl, hb11⟩
          have HF := Lib.hid (HBX.out.trans (hb11.mono HBX.out.size))
          clear hb11
          go_wp2
          go_ret
          exact ⟨rfl, HF.out⟩
      · have hrr : r = none := HL2.out (by
          rcases Nat.eq_zero_or_pos kx with h | h
          · exact .inl h
          · exact .inr fun e => hc ⟨by omega, e⟩)
        subst hrr
        have CG8 := Lib.hid (CGG.out W7 (Below.refl _ _))
        have HB8 : Hid (Below W7.heap.size W7 W7) := Lib.hid (Below.refl _ _)
        by_cases hk0 : kx = 0
        · have hne : ((kx : Int) != 0) = false := by rw [bne_eq_false_iff_eq]; omega
          clear hk0 hc
          go_wp2_with (rw [HW7.out])
          refine CG8.out.mono ?_
          rintro e w9 ⟨u9, b9, rfl, hl9, _, hT9⟩
          obtain ⟨rfl, rfl⟩ := hl9
          have q9 : (convert 29 9 (.slice none 0 0)).run Tryd.prog w9 = .ok (.string ⟨#[]⟩) w9 := run_conv (P := Tryd.prog) (l := []) (ok := AllB) 29 9 5 Tryd.underlying29 Tryd.underlying5 Tryd.underlying9 RowAt.nil
          have hb9 := HB8.out.trans (hT9.below.mono HB8.out.size)
          have CD9 := Lib.hid (CD.out w9 hb9)
          have HB9 := Lib.hid hb9
          clear hT9 hb9
          skip
          go_wp2_with fail
          refine CD9.out.mono ?_
          rintro e w10 ⟨rfl, hb10⟩
          have hbx := HB9.out.trans (hb10.mono HB9.out.size)
          have CA10 := Lib.hid (CAW.out w10 (HBW3.out.trans (hbx.mono HBW3.out.size)))
          have HBX := Lib.hid (HBW3.out.trans (hbx.mono HBW3.out.size))
          clear hbx hb10
          go_wp2_with fail
          refine CA10.out.mono ?_
          rintro e w11 ⟨rfl, hb11⟩
          have HF := Lib.hid (HBX.out.trans (hb11.mono HBX.out.size))
          clear hb11
          go_wp2
          go_ret
          exact ⟨rfl, HF.out⟩
        · have hne : ((kx : Int) != 0) = true := by rw [bne_iff_ne]; omega
          have heq : ((gx : Int) == (n : Int)) = false := by rw [beq_eq_false_iff_ne]; intro e; exact hc ⟨hk0, by omega⟩
          clear hk0 hc
          go_wp2_with (rw [HW7.out])
          refine CG8.out.mono ?_
          rintro e w9 ⟨u9, b9, rfl, hl9, _, hT9⟩
          obtain ⟨rfl, rfl⟩ := hl9
          have q9 : (convert 29 9 (.slice none 0 0)).run Tryd.prog w9 = .ok (.string ⟨#[]⟩) w9 := run_conv (P := Tryd.prog) (l := []) (ok := AllB) 29 9 5 Tryd.underlying29 Tryd.underlying5 Tryd.underlying9 RowAt.nil
          have hb9 := HB8.out.trans (hT9.below.mono HB8.out.size)
          have CD9 := Lib.hid (CD.out w9 hb9)
          have HB9 := Lib.hid hb9
          clear hT9 hb9
          skip
          go_wp2_with fail
          refine CD9.out.mono ?_
          rintro e w10 ⟨rfl, hb10⟩
          have hbx := HB9.out.trans (hb10.mono HB9.out.size)
          have CA10 := Lib.hid (CAW.out w10 (HBW3.out.trans (hbx.mono HBW3.out.size)))
          have HBX := Lib.hid (HBW3.out.trans (hbx.mono HBW3.out.size))
          clear hbx hb10
          go_wp2_with fail
          refine CA10.out.mono ?_
          rintro e w11 ⟨rfl, hb11⟩
          have HF := Lib.hid (HBX.out.trans (hb11.mono HBX.out.size))
          clear hb11
          go_wp2
          go_ret
          exact ⟨rfl, HF.out⟩
    · have hgt : decide ((60 : Int) < (key.length : Int)) = true := by rw [decide_eq_true_iff]; omega
      have hgt2 : (60 : Int) < (key.length : Int) := by omega
      clear hr hT hh hkv
      go_enter Tryd.func12, Tryd.ntmps12
      go_wp2_with fail
      refine CS.out.mono ?_
      rintro e w1 ⟨rfl, hb1⟩
      go_wp2_with fail
      refine (CAW.out _ hb1).mono ?_
      rintro e w2 ⟨rfl, hb2⟩
      go_wp2
      go_ret
      exact ⟨rfl, hb1.trans (hb2.mono hb1.size)⟩
end Go.Proofs.YtehkjnmnbplcoaaDoor
