
import Derived.Test.YtehkjnmnbplcoaaDoorAw18
import Derived.Test.YtehkjnmnbplcoaaDoorComeA
namespace Go.Proofs.YtehkjnmnbplcoaaDoor
open Go.RowKit Go.Bw

theorem smallE_bounds {l : List Bw.En} {most : Nat} (h : smallE l most = true) : l.length ≤ most ∧ ∀ e ∈ l, e.2.1.length ≤ 60 ∧ e.2.2.length ≤ 60 := by
  unfold smallE at h
  rw [Bool.and_eq_true] at h
  refine ⟨of_decide_eq_true h.1, fun e he => ?_⟩
  have := List.all_eq_true.1 h.2 e he
  unfold entOk at this
  rw [Bool.and_eq_true] at this
  exact ⟨of_decide_eq_true this.1, of_decide_eq_true this.2⟩

theorem smallE_ok {l : List Bw.En} {most : Nat} (hm : most ≤ 1000) (h : smallE l most = true) (hh : ∀ e ∈ l, e.1 < 18446744073709551616) : EnsOk l where
  len := Nat.le_trans (smallE_bounds h).1 hm
  bytes := fun e he => ⟨Nat.le_trans ((smallE_bounds h).2 e he).1 (by decide), Nat.le_trans ((smallE_bounds h).2 e he).2 (by decide)⟩
  hash := hh

theorem _root_.Bw.unlike_eq {l : List Bw.En} (hu : Bw.Unlike l) {a b : Bw.En} (ha : a ∈ l) (hb : b ∈ l) (h : a.2.1 = b.2.1) : a = b := by
  induction l with
  | nil => cases ha
  | cons x r ih =>
    obtain ⟨h1, h2⟩ := List.pairwise_cons.1 hu
    rcases List.mem_cons.1 ha with rfl | ha' <;> rcases List.mem_cons.1 hb with rfl | hb'
    · rfl
    · exact absurd h (h1 b hb')
    · exact absurd h.symm (h1 a ha')
    · exact ih h2 ha' hb'

theorem ofO_look {l : List Bw.En} (hl : EnsOk l) {h : Nat} {k v : Bw.Bytes} : Bw.lookEnd (Bw.wayO 13 (Bw.ofO l) h 0).1 h k = some v ↔ (h, (k, v)) ∈ Bw.lasts l :=
  Bw.look_lays 13 0 (Bw.ofO l) (Bw.lasts l) rfl hl.lays hl.lay.res hl.lay.hash

theorem ofO_look_other {l : List Bw.En} (hl : EnsOk l) {h h' : Nat} {k v : Bw.Bytes} (hm : (h', (k, v)) ∈ Bw.lasts l) (hne : h ≠ h') : Bw.lookEnd (Bw.wayO 13 (Bw.ofO l) h 0).1 h k = none := by
  cases hr : Bw.lookEnd (Bw.wayO 13 (Bw.ofO l) h 0).1 h k with
  | none => rfl
  | some v' =>
    have h1 := (ofO_look hl).1 hr
    have := Bw.unlike_eq hl.lay.unlike h1 hm rfl
    exact absurd (congrArg Prod.fst this) hne

def FaRel (m : List Bw.En) (w3 : World) (i : Value) (wr : World) : Prop := ∃ k : Nat, k ≤ m.length ∧ i = .int .i64 k ∧ Below w3.heap.size w3 wr

set_option maxRecDepth 100000 in
set_option maxHeartbeats 1000000 in
theorem findall_any {l : List Bw.En} {v : Value} {n : Nat} {w : World} (hr : EntsAt AllB w v l) (hh : ∀ e ∈ l, e.1 < 18446744073709551616) (_ : n < 18446744073709551616) (hT : Tab w) :
    Calls Tryd.prog 10 #[v, .int .u64 (n : Nat)] w fun e w' => e = .returned (.bool true) ∧ Below w.heap.size w w' := by
  have CS := Lib.hid (small17_any 40 (by decide) hr)
  obtain ⟨A, c, rfl⟩ := hr.form
  have CAW := Lib.hid (fun (W : World) (hW : Below w.heap.size w W) => awake18_any W (hT.below hT.pos hW))
  cases hsm : smallE l 40 with
  | false =>
    rw [hsm] at CS
    clear hr hT hh
    go_enter Tryd.func10, Tryd.ntmps10
    go_wp2_with fail
    refine CS.out.mono ?_
    rintro e w1 ⟨rfl, hb1⟩
    go_wp2_with fail
    refine (CAW.out _ hb1).mono ?_
    rintro e w2 ⟨rfl, hb2⟩
    go_wp2
    go_ret
    exact ⟨rfl, hb1.trans (hb2.mono hb1.size)⟩
  | true =>
    rw [hsm] at CS
    have hE := smallE_ok (by decide) hsm hh
    have hr0 : EntsAt (fun k => k < w.heap.size) w (.slice A l.length c) l := hr.move goodEnt (Moves.weaken fun k _ h => h)
    have CO := Lib.hid (fun (W : World) (hW : Below w.heap.size w W) => lof_any hE (hr0.move (ok' := fun k => k < w.heap.size) goodEnt (fun k hk _ => ⟨hk, hW.block k hk⟩)) (hT.below hT.pos hW))
    have CC := Lib.hid (fun (W : World) (hW : Below w.heap.size w W) => lcome_any (Nat.le_trans hE.len (by decide)) hE.bytes (hr0.move (ok' := fun k => k < w.heap.size) goodEnt (fun k hk _ => ⟨hk, hW.block k hk⟩)))
    have CG := Lib.hid (fun (ok' : Nat → Prop) (W : World) (u kv : Value) (h : Nat) (key : Bw.Bytes) (h1 : ONodeAt nt AllB W u (Bw.ofO l)) (h2 : BytesAt ok' W kv key) => fget_any (c := (0, 0)) (mb := none) (mv := .pointer none) (h := h) hE.lay hE.lays h1 h2 rfl (fun k _ e => by cases e) (fun k _ e => by cases e) ⟨by decide, by decide⟩)
    have HLK := Lib.hid (fun (h : Nat) (k v : Bw.Bytes) => (ofO_look (h := h) (k := k) (v := v) hE).2)
    have HLO := Lib.hid (fun (h h' : Nat) (k v : Bw.Bytes) => ofO_look_other (h := h) (h' := h') (k := k) (v := v) hE)
    have HLM : Hid ((Bw.lasts l).length ≤ 1048576) := Lib.hid hE.lay.len
    clear hr hr0 hT hsm hE hh
    generalize Bw.lasts l = m at *
    generalize Bw.ofO l = o at *
    go_enter Tryd.func10, Tryd.ntmps10
    go_wp2_with fail
    refine CS.out.mono ?_
    rintro e w1 ⟨rfl, hb1⟩
    have CO1 := Lib.hid (CO.out w1 hb1)
    have HB1 := Lib.hid hb1
    clear hb1
    go_wp2_with fail
    refine CO1.out.mono ?_
    rintro e w2 ⟨nv, rfl, hn, hb2⟩
    have HB2 := Lib.hid (HB1.out.trans (hb2.mono HB1.out.size))
    have CC2 := Lib.hid (CC.out w2 HB2.out)
    have HN := Lib.hid (hn.move (ok' := AllB) (Moves.weaken fun _ _ _ => trivial))
    clear hb2 hn
    go_wp2_with fail
    refine CC2.out.mono ?_
    rintro e w3 ⟨q3, rfl, hq3, hb3⟩
    have hr3 : EntsAt (fun k => k < w3.heap.size) w3 q3 m := (hq3.row goodEnt).move goodEnt (Moves.weaken fun k _ h => h)
    obtain ⟨A3, c3, rfl⟩ := hr3.form
    have HB3 := Lib.hid (HB2.out.trans (hb3.mono HB2.out.size))
    have HN3 := Lib.hid (HN.out.move (ok' := AllB) (Moves.below hb3))
    have HR3 := Lib.hid hr3
    have H0 : Hid (FaRel m w3 (.int .i64 0) w3) := Lib.hid ⟨0, Nat.zero_le _, rfl, Below.refl _ _⟩
    clear hq3 hr3 hb3
    go_wp2_with fail
    go_loopw [21] (FaRel m w3) (fun i _ => m.length - (intOf i).toNat)
    case atStart => exact H0.out
    case round =>
      obtain ⟨k, hk, rfl, hB⟩ := hrel
      by_cases hlt : k < m.length
      · obtain ⟨b, o', u1, u2, rfl, hob, c0, c1, c2, hu, hv⟩ := ent_get HR3.out (List.getElem?_eq_getElem hlt)
        obtain ⟨U1, cu1, rfl⟩ := hu.form
        obtain ⟨U2, cu2, rfl⟩ := hv.form
        have d0 := (hB.cell (p := ⟨b, o' + k * 3, none⟩) hob).trans c0
        have d1 := (hB.cell (p := ⟨b, o' + k * 3 + 1, none⟩) hob).trans c1
        have d2 := (hB.cell (p := ⟨b, o' + k * 3 + 2, none⟩) hob).trans c2
        have hbl2 : b < wr.heap.size := Nat.lt_of_lt_of_le hob hB.size
        have h0 : (0 : Int) ≤ (k : Int) := by omega
        have h1 : (k : Int) < (m.length : Int) := by omega
        have hmem := List.getElem_mem hlt
        have HLT := Lib.hid hlt
        generalize m[k] = q at *
        obtain ⟨qh, qx, qy⟩ := q
        dsimp only at d0 d1 d2 hu hv
        have HK1 := Lib.hid (HLK.out qh qx qy hmem)
        have HK2 := Lib.hid (HLO.out n qh qx qy hmem)
        obtain ⟨WX, hWX⟩ : ∃ WX, wr.alloc (.cells #[.int .u64 (qh : Nat), .slice U1 qx.length cu1, .slice U2 qy.length cu2] 62) = WX := ⟨_, rfl⟩
        have hwx : Below wr.heap.size wr WX := by rw [← hWX]; (repeat (first | exact Below.refl _ _ | with_reducible assumption | refine Below.drew ?_ | refine b_drewN ?_ _ | (refine Below.alloc ?_ (by first | omega | (simp <;> omega)) _)))
        have m0 : WX.cell? ⟨wr.heap.size, 0, none⟩ = some (.int .u64 (qh : Nat)) := by subst hWX; go_simp
        have m1 : WX.cell? ⟨wr.heap.size, 1, none⟩ = some (.slice U1 qx.length cu1) := by subst hWX; go_simp
        have m2 : WX.cell? ⟨wr.heap.size, 2, none⟩ = some (.slice U2 qy.length cu2) := by subst hWX; go_simp
        have hsX : wr.heap.size < WX.heap.size := by rw [← hWX]; simp
        have hBX : Below w3.heap.size w3 WX := hB.trans (hwx.mono hB.size)
        have SK : Hid (∀ W, Below WX.heap.size WX W → W.cell? ⟨wr.heap.size, 0, none⟩ = some (.int .u64 (qh : Nat)) ∧ W.cell? ⟨wr.heap.size, 1, none⟩ = some (.slice U1 qx.length cu1) ∧ W.cell? ⟨wr.heap.size, 2, none⟩ = some (.slice U2 qy.length cu2)) :=
          Lib.hid fun W hW => ⟨(hW.cell (p := ⟨wr.heap.size, 0, none⟩) hsX).trans m0, (hW.cell (p := ⟨wr.heap.size, 1, none⟩) hsX).trans m1, (hW.cell (p := ⟨wr.heap.size, 2, none⟩) hsX).trans m2⟩
        have CX := Lib.hid (fun (W : World) (h : Nat) (hW : Below WX.heap.size WX W) => CG.out _ W nv _ h qx (HN3.out.move (Moves.below (hBX.trans (hW.mono hBX.size)))) (hu.move (ok' := fun k => k < w3.heap.size) goodByte (Moves.below (hBX.trans (hW.mono hBX.size)))))
        have HV := Lib.hid (fun (W : World) (hW : Below WX.heap.size WX W) => run_conv (P := Tryd.prog) 29 9 5 Tryd.underlying29 Tryd.underlying5 Tryd.underlying9 (hv.move (ok' := fun k => k < w3.heap.size) goodByte (Moves.below (hBX.trans (hW.mono hBX.size)))))
        have HBX := Lib.hid hBX; have HWX := Lib.hid hWX
        clear hu hv c0 c1 c2 hmem hB hwx hWX hBX hlt
        go_wp2_with (rw [HWX.out])
        refine (CX.out WX qh (Below.refl _ _)).mono ?_
        rw [HK1.out]
        rintro e w4 ⟨u4, b4, rfl, ⟨rfl, hu4⟩, _, hT4⟩
        obtain ⟨U4, cu4, rfl⟩ := hu4.form
        have hb4 := hT4.below
        obtain ⟨z0, z1, z2⟩ := SK.out w4 hb4
        have q1 := run_conv (P := Tryd.prog) 29 9 5 Tryd.underlying29 Tryd.underlying5 Tryd.underlying9 hu4
        have q2 := HV.out w4 hb4
        have CX4 := Lib.hid (CX.out w4 n hb4)
        have HB4 := Lib.hid hb4
        clear hu4 hT4 hb4 m0 m1 m2
        go_wp2_with fail
        refine CX4.out.mono ?_
        by_cases hnq : n = qh
        · subst hnq
          rw [HK1.out]
          rintro e w5 ⟨u5, b5, rfl, ⟨rfl, hu5⟩, _, hT5⟩
          obtain ⟨y0, y1, y2⟩ := SK.out w5 (HB4.out.trans (hT5.below.mono HB4.out.size))
          have HB5 := Lib.hid (HB4.out.trans (hT5.below.mono HB4.out.size))
          clear hu5 hT5 q1 q2
          go_wp2_with fail
          exact ⟨⟨k + 1, HLT.out, int_succ HLT.out HLM.out, HBX.out.trans (HB5.out.mono HBX.out.size)⟩, less_succ HLT.out HLM.out⟩
        · have heq : ((n : Int) == (qh : Int)) = false := by rw [beq_eq_false_iff_ne]; omega
          rw [HK2.out hnq]
          rintro e w5 ⟨u5, b5, rfl, ⟨rfl, rfl⟩, _, hT5⟩
          obtain ⟨y0, y1, y2⟩ := SK.out w5 (HB4.out.trans (hT5.below.mono HB4.out.size))
          have HB5 := Lib.hid (HB4.out.trans (hT5.below.mono HB4.out.size))
          clear hT5 q1 q2 hnq
          go_wp2_with fail
          exact ⟨⟨k + 1, HLT.out, int_succ HLT.out HLM.out, HBX.out.trans (HB5.out.mono HBX.out.size)⟩, less_succ HLT.out HLM.out⟩
      · obtain rfl : k = m.length := by omega
        have HBL := Lib.hid (HB3.out.trans (hB.mono HB3.out.size))
        have CA := Lib.hid (CAW.out wr HBL.out)
        clear hlt hB hk
        go_wp2_with fail
        refine CA.out.mono ?_
        rintro e w6 ⟨rfl, hb6⟩
        have HF := Lib.hid (HBL.out.trans (hb6.mono HBL.out.size))
        clear hb6
        go_wp2
        go_ret
        exact ⟨rfl, HF.out⟩
end Go.Proofs.YtehkjnmnbplcoaaDoor
