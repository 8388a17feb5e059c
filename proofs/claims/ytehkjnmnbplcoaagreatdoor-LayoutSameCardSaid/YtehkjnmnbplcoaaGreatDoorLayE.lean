
import Derived.Test.YtehkjnmnbplcoaaGreatDoorComeA
import Derived.Deep.QuietTactic
import Derived.BigQuiet
import Derived.Test.YtehkjnmnbplcoaaGreatDoorLayA
import Derived.Test.YtehkjnmnbplcoaaGreatDoorEachL
import Derived.Test.YtehkjnmnbplcoaaGreatDoorGwith
import Derived.Test.YtehkjnmnbplcoaaGreatDoorChunk
import Derived.Deep.RegionHeldLaw
import Derived.Deep.RegionHeld3
namespace Go.Proofs.YtehkjnmnbplcoaaGreatDoor
open Go.RowKit Go.Bw

set_option maxRecDepth 100000 in
set_option maxHeartbeats 400000 in
theorem growc_any : CmpKeys 85 := by
  intro ok ok' u v u' v' a b w hu hv
  have hB : Go.RowKit.Below w.heap.size w ((w.alloc (.cells #[u, u'] 31)).alloc (.cells #[v, v'] 31)) := by (repeat (first | exact Below.refl _ _ | with_reducible assumption | refine Below.drew ?_ | (refine Below.alloc ?_ (by simp) _) | (refine Below.alloc ?_ (by simp; omega) _)))
  have HC := Lib.hid (kcmp_any _ (hu.move goodByte (Moves.below hB)) (hv.move goodByte (Moves.below hB)))
  clear hu hv hB
  generalize Lib.compareBytes a b = r at *
  go_enter Tryz.func85, Tryz.ntmps85
  go_wp2_with fail
  refine HC.out.mono ?_
  rintro e w1 ⟨rfl, rfl⟩
  go_wp2
  go_ret
  exact ⟨rfl, rfl⟩

def GrowRel (l : List Bw.En) (w : World) (v i : Value) (wr : World) : Prop :=
  ∃ k : Nat, k ≤ l.length ∧ i = .int .i64 k ∧ OwnAt 31 2 pairK AllB wr w.heap.size v ((l.take k).map (·.2)) ∧ Below w.heap.size w wr

set_option maxRecDepth 100000 in
set_option maxHeartbeats 400000 in
theorem grow_any {ok : Nat → Prop} {l : List Bw.En} {v : Value} {w : World} (hl : l.length ≤ 1048576) (hp : ∀ e ∈ l, e.2.1.length ≤ 1048576 ∧ e.2.2.length ≤ 1048576) (hu : (l.map (·.2)).Pairwise fun a b => a.1 ≠ b.1) (hne : l ≠ []) (hr : EntsAt ok w v l) :
    Calls Tryz.prog 60 #[v] w (Gives w fun q w' => TreeAt (fun k => w.heap.size ≤ k) w' q (Bw.T.from (Bw.come (l.map (·.2))))) := by
  have hr2 : EntsAt (fun k => k < w.heap.size) w v l := hr.move goodEnt (Moves.weaken fun k _ hl => hl)
  obtain ⟨A, c, rfl⟩ := hr.form
  obtain ⟨i0, hi, hz0, hz1, hz2⟩ := info_parts infoP
  have H0 : Hid (GrowRel l w (.slice none 0 0) (.int .i64 0) w) := Lib.hid ⟨0, Nat.zero_le _, rfl, OwnAt.nil, Below.refl _ _⟩
  have HR := Lib.hid hr2; have HL := Lib.hid hl; have HP := Lib.hid hp; have HU := Lib.hid hu; have HNE := Lib.hid hne
  have HI := Lib.hid hi; have HZ0 := Lib.hid hz0; have HZ1 := Lib.hid hz1; have HZ2 := Lib.hid hz2
  have HE := Lib.hid (enters_of Tryz.func85 (by kernel_rfl) rfl)
  clear hr hr2 hl hp hu hne hi hz0 hz1 hz2
  go_enter Tryz.func60, Tryz.ntmps60
  go_wp2_with fail
  go_loopw [3, 8] (GrowRel l w) (fun _ i _ => l.length - (intOf i).toNat)
  case atStart => exact H0.out
  case round =>
    obtain ⟨k, hk, rfl, hown, hB⟩ := hrel
    by_cases hlt : k < l.length
    · obtain ⟨b, o, u1, u2, rfl, hob, c0, c1, c2, hu, hv⟩ := ent_get HR.out (List.getElem?_eq_getElem hlt)
      obtain ⟨U1, cu1, rfl⟩ := hu.form
      obtain ⟨U2, cu2, rfl⟩ := hv.form
      have hbl := World.block_lt_of_cell? w _ c0
      dsimp only at hbl
      have d0 := (hB.cell (p := ⟨b, o + k * 3, none⟩) hbl).trans c0
      have d1 := (hB.cell (p := ⟨b, o + k * 3 + 1, none⟩) hbl).trans c1
      have d2 := (hB.cell (p := ⟨b, o + k * 3 + 2, none⟩) hbl).trans c2
      have hbl2 : b < wr.heap.size := Nat.lt_of_lt_of_le hbl hB.size
      have h0 : (0 : Int) ≤ (k : Int) := by omega
      have h1 : (k : Int) < (l.length : Int) := by omega
      have hs : (l.take (k + 1)).map (·.2) = (l.take k).map (·.2) ++ [(l[k]).2] := by rw [take_succ_snoc hlt, List.map_append]; rfl
      have hln : ((l.take k).map (·.2)).length ≤ 1048576 := by rw [List.length_map, List.length_take]; have := HL.out; omega
      generalize l[k] = q at *
      obtain ⟨qh, qx, qy⟩ := q
      obtain ⟨WX, hWX⟩ : ∃ WX, wr.alloc (.cells #[.int .u64 (qh : Nat), .slice U1 qx.length cu1, .slice U2 qy.length cu2] 83) = WX := ⟨_, rfl⟩
      have hwx : Below wr.heap.size wr WX := by rw [← hWX]; (repeat (first | exact Below.refl _ _ | with_reducible assumption | refine Below.drew ?_ | refine b_drewN ?_ _ | (refine Below.alloc ?_ (by first | omega | (simp <;> omega)) _)))
      have m1 : WX.cell? ⟨wr.heap.size, 1, none⟩ = some (.slice U1 qx.length cu1) := by subst hWX; go_simp
      have m2 : WX.cell? ⟨wr.heap.size, 2, none⟩ = some (.slice U2 qy.length cu2) := by subst hWX; go_simp
      have HOWN := Lib.hid (hown.move (ok' := AllB) goodPair (Moves.below hwx))
      have HB := Lib.hid (hB.trans (hwx.mono hB.size))
      have HUX := Lib.hid (low_pair HOWN.out (hu.move (ok' := fun k => k < w.heap.size) goodByte (Moves.below HB.out)))
      have HVX := Lib.hid (low_pair HOWN.out (hv.move (ok' := fun k => k < w.heap.size) goodByte (Moves.below HB.out)))
      have HS := Lib.hid hs; have HLN := Lib.hid hln; have HLT := Lib.hid hlt; have HWX := Lib.hid hWX
      clear hu hv c0 c1 c2 hs hln hown hB hwx hWX H0
      generalize (l.take k).map (·.2) = xs at *
      go_wp2_with (first | (rw [HWX.out]) | (at_builtin; first | rw [HWX.out] | skip; refine wp_app1 goodPair rfl (.tmp 12) (.tmp 15) 23 rfl w.heap.size 31 i0 _ 48 Tryz.underlying23 HI.out HZ0.out HZ1.out HZ2.out rfl (by decide) _ xs rfl HOWN.out (qx, qy) #[.slice U1 qx.length cu1, .slice U2 qy.length cu2] 31 (by go_simp) (pairK_mk HUX.out HVX.out) (fun _ _ => trivial) (by have := HLN.out; omega) (by decide) HB.out.size ?_; intro v8 w8 hown8 hb8 hat8 hg8))
      exact ⟨⟨k + 1, HLT.out, int_succ HLT.out HL.out, by rw [HS.out]; exact hown8, HB.out.trans hb8⟩, less_succ HLT.out HL.out⟩
    · obtain rfl : k = l.length := by omega
      rw [List.take_length] at hown
      have hlm : (l.map (·.2)).length ≤ 1048576 := by rw [List.length_map]; exact HL.out
      obtain ⟨g, cap, hvg⟩ := hown.block (by simpa using HNE.out)
      rw [List.length_map] at hvg
      subst hvg
      have CS := Lib.hid (sortp_any growc_any HE.out hown hlm HU.out)
      have HOWN := Lib.hid hown; have HB := Lib.hid hB
      have hlt := hown.lt g rfl
      have HG := Lib.hid hlt
      have HLM := Lib.hid (Nat.le_trans (Bw.length_come (l.map (·.2))) hlm)
      have HKM : Hid (∀ p ∈ Bw.come (l.map (·.2)), p.1.length ≤ 1048576 ∧ p.2.length ≤ 1048576) := Lib.hid fun p hp => by
        have h := Bw.mem_come hp
        rw [List.mem_map] at h
        obtain ⟨e, he, rfl⟩ := h
        exact HP.out e he
      clear hlt hown hB hlm
      generalize hmm : Bw.come (l.map (·.2)) = m at *
      have HMM := Lib.hid hmm
      clear hmm
      go_wp2_with fail
      refine CS.out.mono ?_
      rintro e w3 ⟨rfl, hown3, hg3⟩
      have CF := Lib.hid (from_any 1048576 m _ _ w3 HLM.out (Nat.le_refl _) HKM.out (hown3.row goodPair))
      have HB3 := Lib.hid (HB.out.grown hg3 HB.out.size (fun k e => by cases e; exact HG.out.1))
      clear hown3 hg3
      go_wp2_with fail
      refine CF.out.mono ?_
      rintro e w4 ⟨q4, rfl, hq4, hb4⟩
      have hq5 := TreeAt.move (ok' := fun k => w.heap.size ≤ k) (Moves.weaken fun k hk _ => Nat.le_trans HB3.out.size hk) _ _ hq4
      obtain ⟨A4, rfl⟩ := hq4.form
      have HQ5 := Lib.hid hq5
      clear hq4 hq5
      go_wp2
      go_ret
      exact ⟨_, rfl, HMM.out.symm ▸ HQ5.out, HB3.out.trans (hb4.mono HB3.out.size)⟩
end Go.Proofs.YtehkjnmnbplcoaaGreatDoor

namespace Go.Proofs.YtehkjnmnbplcoaaGreatDoor
open Go.RowKit Go.Bw

set_option maxRecDepth 100000 in
set_option maxHeartbeats 400000 in
theorem layc_any {bl b o n c g h : Nat} {u v : Value} {w : World} (h0 : w.cell? ⟨bl, 0, none⟩ = some (.slice (some ⟨b, o, none⟩) n c)) (hn : 0 < n) (h1 : w.cell? ⟨b, o, none⟩ = some (.int .u64 (g : Nat))) :
    Calls Tryz.prog 59 #[.agg #[.int .u64 (h : Nat), u, v], .pointer (some ⟨bl, 0, none⟩)] w fun e w' => e = .returned (.bool ((h : Int) != (g : Int))) ∧ Below w.heap.size w w' := by
  have hb0 : bl < w.heap.size := World.block_lt_of_cell? w _ h0
  have hb1 : b < w.heap.size := World.block_lt_of_cell? w _ h1
  have hn0 : (0 : Int) < (n : Int) := by omega
  have hB : Below w.heap.size w (w.alloc (.cells #[.int .u64 (h : Nat), u, v] 83)) := by (repeat (first | exact Below.refl _ _ | with_reducible assumption | refine Below.drew ?_ | refine b_drewN ?_ _ | (refine Below.alloc ?_ (by first | omega | (simp <;> omega)) _)))
  have HB := Lib.hid hB
  clear hB hn
  go_enter Tryz.func59, Tryz.ntmps59
  go_wp2_with fail
  go_quiet (fail)
  go_wp2
  go_ret
  exact ⟨rfl, b_drewN HB.out _⟩

def IxRel (l : List Bw.En) (g : Nat) (w : World) (i : Value) (wr : World) : Prop :=
  ∃ k : Nat, k ≤ l.length ∧ i = .int .i64 k ∧ (∀ x ∈ l.take k, x.1 = g) ∧ Below w.heap.size w wr

set_option maxRecDepth 100000 in
set_option maxHeartbeats 400000 in
theorem indexE_any {ok : Nat → Prop} {l : List Bw.En} {v : Value} {bl g : Nat} {w : World} (hl : l.length ≤ 1048576) (hr : EntsAt ok w v l) (hne : 0 < l.length) (hg : l[0].1 = g) (hbl : w.cell? ⟨bl, 0, none⟩ = some v) :
    Calls Tryz.prog 84 #[v, .func (.func 59) #[] #[.pointer (some ⟨bl, 0, none⟩)]] w fun e w' => ∃ z : Int, e = .returned (.int .i64 z) ∧ (0 ≤ z ↔ ∃ x ∈ l, x.1 ≠ g) ∧ Below w.heap.size w w' := by
  obtain ⟨A, c, rfl⟩ := hr.form
  obtain ⟨b, o, u0, v0, rfl, _, a0, _, _, _, _⟩ := ent_get hr (List.getElem?_eq_getElem hne)
  rw [hg] at a0
  simp only [Nat.zero_mul, Nat.add_zero] at a0
  have hbb : b < w.heap.size := World.block_lt_of_cell? w _ a0
  have hbl0 : bl < w.heap.size := World.block_lt_of_cell? w _ hbl
  have HC := Lib.hid (fun (W : World) (hW : Below w.heap.size w W) (h : Nat) (u v : Value) => layc_any (h := h) (u := u) (v := v) ((hW.cell (p := ⟨bl, 0, none⟩) hbl0).trans hbl) hne ((hW.cell (p := ⟨b, o, none⟩) hbb).trans a0))
  have H0 : Hid (IxRel l g w (.int .i64 0) w) := Lib.hid ⟨0, Nat.zero_le _, rfl, fun x hx => by simp at hx, Below.refl _ _⟩
  have HR := Lib.hid hr; have HL := Lib.hid hl
  clear hr hl hg a0 hbl
  go_enter Tryz.func84, Tryz.ntmps84
  go_wp2_with fail
  go_loopw [8] (IxRel l g w) (fun i _ => l.length - (intOf i).toNat)
  case atStart => exact H0.out
  case round =>
    obtain ⟨k, hk, rfl, hall, hB⟩ := hrel
    by_cases hlt : k < l.length
    · obtain ⟨b', o', u1, u2, e1, _, c0, c1, c2, hu, hv⟩ := ent_get HR.out (List.getElem?_eq_getElem hlt)
      cases e1
      obtain ⟨U1, cu1, rfl⟩ := hu.form
      obtain ⟨U2, cu2, rfl⟩ := hv.form
      have d0 := (hB.cell (p := ⟨b, o + k * 3, none⟩) hbb).trans c0
      have d1 := (hB.cell (p := ⟨b, o + k * 3 + 1, none⟩) hbb).trans c1
      have d2 := (hB.cell (p := ⟨b, o + k * 3 + 2, none⟩) hbb).trans c2
      have h0 : (0 : Int) ≤ (k : Int) := by omega
      have h1 : (k : Int) < (l.length : Int) := by omega
      have hs : l.take (k + 1) = l.take k ++ [l[k]] := take_succ_snoc hlt
      have hmem : l[k] ∈ l := List.getElem_mem hlt
      have CC := Lib.hid (HC.out wr hB l[k].1 (.slice U1 l[k].2.1.length cu1) (.slice U2 l[k].2.2.length cu2))
      generalize l[k] = q at *
      obtain ⟨qh, qx, qy⟩ := q
      have HB := Lib.hid hB; have HS := Lib.hid hs; have HM := Lib.hid hmem; have HALL := Lib.hid hall; have HLT := Lib.hid hlt
      dsimp only at CC d0 d1 d2
      clear hu hv c0 c1 c2 hB hs hmem hall
      by_cases hq : qh = g
      · have hqb : ((qh : Int) != (g : Int)) = false := by rw [bne_eq_false_iff_eq, hq]
        rw [hqb] at CC
        have HQ := Lib.hid hq
        clear hq
        go_wp2_with fail
        refine CC.out.mono ?_
        rintro e w2 ⟨rfl, hb2⟩
        have HB2 := Lib.hid (HB.out.trans (hb2.mono HB.out.size))
        clear hb2
        go_wp2
        exact ⟨⟨k + 1, HLT.out, int_succ HLT.out HL.out, by rw [HS.out]; intro x hx; rcases List.mem_append.1 hx with h | h; exact HALL.out x h; (rw [List.mem_singleton] at h; subst h; exact HQ.out), HB2.out⟩, less_succ HLT.out HL.out⟩
      · have hqb : ((qh : Int) != (g : Int)) = true := by rw [bne_iff_ne]; omega
        rw [hqb] at CC
        have HQ := Lib.hid hq
        clear hq
        go_wp2_with fail
        refine CC.out.mono ?_
        rintro e w2 ⟨rfl, hb2⟩
        have HB2 := Lib.hid (HB.out.trans (hb2.mono HB.out.size))
        clear hb2
        go_wp2
        go_ret
        exact ⟨k, rfl, ⟨fun _ => ⟨_, HM.out, HQ.out⟩, fun _ => by omega⟩, HB2.out⟩
    · obtain rfl : k = l.length := by omega
      rw [List.take_length] at hall
      have HALL := Lib.hid hall; have HB := Lib.hid hB
      clear hlt hall hB
      go_wp2
      go_ret
      exact ⟨-1, rfl, ⟨fun h => by omega, fun ⟨x, hx, h⟩ => absurd (HALL.out x hx) h⟩, HB.out⟩

set_option maxRecDepth 100000 in
set_option maxHeartbeats 400000 in
theorem anyE_any {ok : Nat → Prop} {l : List Bw.En} {v : Value} {bl g : Nat} {w : World} (hl : l.length ≤ 1048576) (hr : EntsAt ok w v l) (hne : 0 < l.length) (hg : l[0].1 = g) (hbl : w.cell? ⟨bl, 0, none⟩ = some v) :
    Calls Tryz.prog 58 #[v, .func (.func 59) #[] #[.pointer (some ⟨bl, 0, none⟩)]] w fun e w' => e = .returned (.bool (l.any fun x => decide (x.1 ≠ g))) ∧ Below w.heap.size w w' := by
  have CI := Lib.hid (indexE_any hl hr hne hg hbl)
  have hiff : (l.any (fun x => decide (x.1 ≠ g)) = true) ↔ ∃ x ∈ l, x.1 ≠ g := by simp [List.any_eq_true]
  obtain ⟨A, c, rfl⟩ := hr.form
  generalize l.any (fun x => decide (x.1 ≠ g)) = r at *
  have HF := Lib.hid hiff
  clear hl hr hg hbl hiff hne
  go_enter Tryz.func58, Tryz.ntmps58
  go_wp2_with fail
  refine CI.out.mono ?_
  rintro e w1 ⟨z, rfl, hz, hb1⟩
  have HB := Lib.hid hb1
  clear hb1
  by_cases h : 0 ≤ z
  · have hr1 : Hid (r = true) := Lib.hid (HF.out.2 (hz.1 h))
    clear hz
    go_wp2
    go_ret
    exact ⟨by rw [hr1.out]; simp, HB.out⟩
  · have hr1 : Hid (r = false) := Lib.hid (by
      cases hrr : r
      · rfl
      · exact absurd (hz.2 (HF.out.1 hrr)) h)
    clear hz
    go_wp2
    go_ret
    exact ⟨by rw [hr1.out]; simp [h], HB.out⟩
end Go.Proofs.YtehkjnmnbplcoaaGreatDoor

namespace Go.Proofs.YtehkjnmnbplcoaaGreatDoor
open Go.RowKit Go.Bw Go.Shelf Go.Lib

set_option maxRecDepth 100000 in
set_option maxHeartbeats 400000 in
theorem layA_any (level : Nat) (A : Option Addr) (c : Nat) (w : World) :
    Calls Tryz.prog 31 #[.slice A 0 c, .int .i64 (level : Nat)] w (Gives w fun q _ => q = .nilIface) := by
  go_enter Tryz.func31, Tryz.ntmps31
  go_wp2
  go_ret
  exact ⟨_, rfl, rfl, by (repeat (first | exact Below.refl _ _ | with_reducible assumption | refine Below.drew ?_ | refine b_drewN ?_ _ | (refine Below.alloc ?_ (by first | omega | (simp <;> omega)) _)))⟩

set_option maxRecDepth 100000 in
set_option maxHeartbeats 400000 in
theorem layB_any {ok : Nat → Prop} {l : List Bw.En} {v : Value} {g level : Nat} {w : World} (hl : l.length ≤ 1048576) (hp : ∀ e ∈ l, e.2.1.length ≤ 1048576 ∧ e.2.2.length ≤ 1048576) (hu : (l.map (·.2)).Pairwise fun a b => a.1 ≠ b.1) (hne : 0 < l.length) (hg : l[0].1 = g)
    (hany : l.any (fun x => decide (x.1 ≠ g)) = false) (hr : EntsAt ok w v l) :
    Calls Tryz.prog 31 #[v, .int .i64 (level : Nat)] w (Gives w fun q w' => ONodeAt nt (fun k => w.heap.size ≤ k) w' q (Bw.bucketO g (Bw.T.from (Bw.come (l.map (·.2)))))) := by
  obtain ⟨A, c, rfl⟩ := hr.form
  obtain ⟨b, o, u0, v0, rfl, -, a0, -, -, -, -⟩ := ent_get hr (List.getElem?_eq_getElem hne)
  rw [hg] at a0
  simp only [Nat.zero_mul, Nat.add_zero] at a0
  have hbb : b < w.heap.size := World.block_lt_of_cell? w _ a0
  have hlen0 : ((l.length : Int) == 0) = false := by rw [beq_eq_false_iff_ne]; omega
  have h1 : (0 : Int) < (l.length : Int) := by omega
  have h1n : 0 < l.length := hne
  have h1l : l ≠ [] := fun e => by rw [e] at hne; cases hne
  obtain ⟨W2, hW2⟩ : ∃ W2, (w.alloc (.cells #[.slice (some ⟨b, o, none⟩) l.length c] 54)).alloc (.cells #[.int .i64 (level : Nat)] 3) = W2 := ⟨_, rfl⟩
  have hB2 : Below w.heap.size w W2 := by rw [← hW2]; (repeat (first | exact Below.refl _ _ | with_reducible assumption | refine Below.drew ?_ | refine b_drewN ?_ _ | (refine Below.alloc ?_ (by first | omega | (simp <;> omega)) _)))
  have x0 : W2.cell? ⟨w.heap.size, 0, none⟩ = some (.slice (some ⟨b, o, none⟩) l.length c) := by rw [← hW2]; exact (((Boxed.new w 54 _).alloc _).cell)
  have hs2 : W2.heap.size = w.heap.size + 2 := by rw [← hW2]; simp
  have CA := Lib.hid (anyE_any hl (hr.move (ok' := ok) goodEnt (Moves.below hB2)) hne hg x0)
  rw [hany] at CA
  have CG := Lib.hid (fun (W : World) (hW : Below W2.heap.size W2 W) => grow_any hl hp hu (fun e => by rw [e] at hne; cases hne) (hr.move (ok' := ok) goodEnt (Moves.below (hB2.trans (hW.mono hB2.size)))))
  have CB := Lib.hid (fun (W : World) (tv : Value) (ht : TreeAt (fun k => w.heap.size ≤ k) W tv (Bw.T.from (Bw.come (l.map (·.2))))) (hk : w.heap.size ≤ W.heap.size) => bucket_any (h := g) ht (fun p hp' => by
    rw [Bw.T.list_from] at hp'
    have h := Bw.mem_come hp'
    rw [List.mem_map] at h
    obtain ⟨e, he, rfl⟩ := h
    exact hp e he) (fun k hk' => Nat.le_trans hk hk'))
  have SK : Hid (∀ W, Below W2.heap.size W2 W → W.cell? ⟨w.heap.size, 0, none⟩ = some (.slice (some ⟨b, o, none⟩) l.length c) ∧ W.cell? ⟨b, o, none⟩ = some (.int .u64 (g : Nat))) :=
    Lib.hid fun W hW => ⟨(hW.cell (p := ⟨w.heap.size, 0, none⟩) (by rw [hs2]; exact Nat.lt_succ_of_lt (Nat.lt_succ_self _))).trans x0, (hW.cell (p := ⟨b, o, none⟩) (by rw [hs2]; exact Nat.lt_succ_of_lt (Nat.lt_succ_of_lt hbb))).trans ((hB2.cell (p := ⟨b, o, none⟩) hbb).trans a0)⟩
  have HW2 := Lib.hid hW2; have HB2 := Lib.hid hB2; have HS2 := Lib.hid hs2
  clear hl hp hu hne hg hany hr a0 x0 hW2 hB2 hs2
  generalize Bw.T.from (Bw.come (l.map (·.2))) = T at *
  go_enter Tryz.func31, Tryz.ntmps31
  go_wp2_with (first | (rw [HW2.out]; obtain ⟨y0, y1⟩ := SK.out W2 (Below.refl _ _)) | (refine CA.out.mono ?_; rintro e w1 ⟨rfl, hb1⟩; obtain ⟨z0, z1⟩ := SK.out w1 hb1))
  have hd1 : Below W2.heap.size W2 w1.drew := Below.drew hb1
  have HD1 := Lib.hid hd1
  go_region_held3 (fun w' => w'.cell? ⟨w.heap.size, 0, none⟩ = some (.slice (some ⟨b, o, none⟩) l.length c) ∧ w'.cell? ⟨b, o, none⟩ = some (.int .u64 (g : Nat)))
    (first
      | (exact ⟨r0, r1⟩)
      | (exact ⟨q0, q1⟩)
      | go_keep)
    ((first
      | (go_at_call 60; (with_reducible refine (CG.out _ hd1).mono ?_); rintro e w2 ⟨tv, rfl, ht, hb2⟩; obtain ⟨AT, rfl⟩ := TreeAt.form ht; have hw2 : Below W2.heap.size W2 w2 := HD1.out.trans (hb2.mono HD1.out.size); obtain ⟨q0, q1⟩ := SK.out w2 hw2)
      | (go_at_call 47; (with_reducible refine (CB.out _ _ (TreeAt.move (Moves.weaken fun k hk _ => Nat.le_trans (Nat.le_trans HB2.out.size HD1.out.size) hk) _ _ ht) (Nat.le_trans HB2.out.size hw2.size)).mono ?_); rintro e w3 ⟨r3, rfl, hr3, hb3⟩; have hw3 : Below W2.heap.size W2 w3 := hw2.trans (hb3.mono hw2.size); obtain ⟨r0, r1⟩ := SK.out w3 hw3)))
  go_wp2
  go_ret
  exact ⟨_, rfl, hr3, HB2.out.trans (hw3.mono HB2.out.size)⟩
end Go.Proofs.YtehkjnmnbplcoaaGreatDoor

namespace Go.Proofs.YtehkjnmnbplcoaaGreatDoor
open Go.RowKit Go.Bw Go.Shelf Go.Lib
attribute [local go_sem] Oper.semAt_some

structure LayOk (level f : Nat) (l : List Bw.En) : Prop where
  lv : level + f = 13
  len : l.length ≤ 1048576
  bytes : ∀ e ∈ l, e.2.1.length ≤ 1048576 ∧ e.2.2.length ≤ 1048576
  unlike : Bw.Unlike l
  res : ∃ r, ∀ e ∈ l, e.1 % 32 ^ level = r
  hash : ∀ e ∈ l, e.1 < 18446744073709551616

theorem LayOk.part {level f c : Nat} {l : List Bw.En} (h : LayOk level (f + 1) l) : LayOk (level + 1) f (Bw.partOf level c l) where
  lv := by have := h.lv; omega
  len := Nat.le_trans (List.length_filter_le _ _) h.len
  bytes := fun e he => h.bytes e (Bw.mem_partOf.1 he).1
  unlike := h.unlike.filter _
  res := by obtain ⟨r, hr⟩ := h.res; exact ⟨_, Bw.part_same hr⟩
  hash := fun e he => h.hash e (Bw.mem_partOf.1 he).1

theorem onodeE_form {ok : Nat → Prop} {w : World} {v : Value} {o : Option Bw.N} (h : ONodeAt nt ok w v o) : v = .nilIface ∨ ∃ t b, v = .iface t (.pointer (some ⟨b, 0, none⟩)) := by
  cases o with
  | none => exact .inl h
  | some n => exact .inr (NodeAt.form h)

theorem countOs_le {B : Nat} : ∀ {l : List (Option Bw.N)}, (∀ o ∈ l, countO o ≤ B) → countOs l ≤ l.length * B
  | [], _ => by simp [countOs]
  | o :: r, h => by
    have h1 := h o (by simp)
    have h2 := countOs_le (l := r) fun x hx => h x (by simp [hx])
    simp only [countOs, List.map_cons, List.sum_cons, List.length_cons, Nat.add_mul] at h2 ⊢
    omega

theorem count_layO {level f : Nat} {l : List Bw.En} (h : LayOk level f l) : countO (Bw.layO f level l) ≤ 1048576 := by
  have hO := Bw.layO_lays f level l h.lv h.unlike h.res h.hash
  cases ho : Bw.layO f level l with
  | none => simp [countO]
  | some n =>
    rw [ho] at hO
    have := Bw.lays_count hO l h.unlike fun e => Iff.rfl
    simp only [countO, this]
    exact h.len

/-- the rows, by their numbers, behind the first entries -/
def LayP (l : List Bw.En) (level P n : Nat) (w W3 : World) (m i : Value) (wr : World) : Prop :=
  ∃ k : Nat, k ≤ l.length ∧ i = .int .i64 k ∧ m = .int .u32 ((Bw.mapOf level (l.take k) : Nat) : Int) ∧ Parts 112 83 3 entK wr P n 32 (fun c => Bw.partOf level c (l.take k)) ∧ Below P W3 wr ∧ w.heap.size ≤ P

set_option maxRecDepth 100000 in
set_option maxHeartbeats 1000000 in
theorem layC_any {ok : Nat → Prop} {l : List Bw.En} {v : Value} {g level f : Nat} {w : World} (hL : LayOk level (f + 1) l) (hne : 0 < l.length) (hg : l[0].1 = g) (hany : l.any (fun x => decide (x.1 ≠ g)) = true) (hr : EntsAt ok w v l) (hT : Tab w)
    (IH : ∀ (l' : List Bw.En) (ok' : Nat → Prop) (v' : Value) (W : World), LayOk (level + 1) f l' → EntsAt ok' W v' l' → Tab W →
      Calls Tryz.prog 31 #[v', .int .i64 ((level + 1 : Nat) : Int)] W (Gives W fun q w' => ONodeAt nt (fun k => W.heap.size ≤ k) w' q (Bw.layO f (level + 1) l'))) :
    Calls Tryz.prog 31 #[v, .int .i64 (level : Nat)] w (Gives w fun q w' => ONodeAt nt (fun k => w.heap.size ≤ k) w' q (Bw.layO (f + 1) level l)) := by
  rw [Bw.layO_split hne hg hany]
  obtain ⟨F, hF⟩ : ∃ F : Nat → Option Bw.N, (fun c => Bw.layO f (level + 1) (Bw.partOf level c l)) = F := ⟨_, rfl⟩
  obtain ⟨mq, hmq⟩ : ∃ mq : Nat, Bw.mapOf level l = mq := ⟨_, rfl⟩
  rw [hF, hmq]
  have HMQ : Hid (mq < 4294967296) := Lib.hid (hmq ▸ Bw.mapOf_lt level l)
  have HCNT : Hid (countOs ((Bw.bitsOf mq).map F) ≤ 4611686018427387904) := Lib.hid (by
    have h1 := countOs_le (B := 1048576) (l := (Bw.bitsOf mq).map F) fun o ho => by
      rw [List.mem_map] at ho
      obtain ⟨c, _, rfl⟩ := ho
      rw [← hF]
      exact count_layO hL.part
    have h2 : (Bw.bitsOf mq).length ≤ 32 := by rw [Bw.length_bitsOf]; exact Bw.ones_le 32 _
    rw [List.length_map] at h1
    omega)
  have HMQE := Lib.hid hmq; have HF := Lib.hid hF
  clear hmq hF
  have hlv : level ≤ 12 := by have := hL.lv; omega
  obtain ⟨A, c, rfl⟩ := hr.form
  obtain ⟨b, o, u0, v0, rfl, -, a0, -, -, -, -⟩ := ent_get hr (List.getElem?_eq_getElem hne)
  have hbb : b < w.heap.size := World.block_lt_of_cell? w _ a0
  have hlen0 : ((l.length : Int) == 0) = false := by rw [beq_eq_false_iff_ne]; omega
  have h1n : 0 < l.length := hne
  obtain ⟨W2, hW2⟩ : ∃ W2, (w.alloc (.cells #[.slice (some ⟨b, o, none⟩) l.length c] 54)).alloc (.cells #[.int .i64 (level : Nat)] 3) = W2 := ⟨_, rfl⟩
  have hB2 : Below w.heap.size w W2 := by rw [← hW2]; (repeat (first | exact Below.refl _ _ | with_reducible assumption | refine Below.drew ?_ | refine b_drewN ?_ _ | (refine Below.alloc ?_ (by first | omega | (simp <;> omega)) _)))
  have x0 : W2.cell? ⟨w.heap.size, 0, none⟩ = some (.slice (some ⟨b, o, none⟩) l.length c) := by rw [← hW2]; exact (((Boxed.new w 54 _).alloc _).cell)
  have x1 : W2.cell? ⟨w.heap.size + 1, 0, none⟩ = some (.int .i64 (level : Nat)) := by rw [← hW2]; simp
  have hs2 : W2.heap.size = w.heap.size + 2 := by rw [← hW2]; simp
  have CA := Lib.hid (anyE_any hL.len (hr.move (ok' := ok) goodEnt (Moves.below hB2)) hne hg x0)
  rw [hany] at CA
  have SK : Hid (∀ W, Below W2.heap.size W2 W → W.cell? ⟨w.heap.size, 0, none⟩ = some (.slice (some ⟨b, o, none⟩) l.length c) ∧ W.cell? ⟨w.heap.size + 1, 0, none⟩ = some (.int .i64 (level : Nat))) :=
    Lib.hid fun W hW => ⟨(hW.cell (p := ⟨w.heap.size, 0, none⟩) (by rw [hs2]; exact Nat.lt_succ_of_lt (Nat.lt_succ_self _))).trans x0, (hW.cell (p := ⟨w.heap.size + 1, 0, none⟩) (by rw [hs2]; exact Nat.lt_succ_self _)).trans x1⟩
  have hr2 : EntsAt (fun k => k < w.heap.size) w (.slice (some ⟨b, o, none⟩) l.length c) l := hr.move goodEnt (Moves.weaken fun k _ hl => hl)
  have HW2 := Lib.hid hW2; have HB2 := Lib.hid hB2; have HS2 := Lib.hid hs2; have HL := Lib.hid hL; have HR := Lib.hid hr2; have HLV := Lib.hid hlv; have HT := Lib.hid hT; have HIH := Lib.hid IH
  have CAT := Lib.hid (fun (W : World) (h : Nat) => at_any h level hlv W)
  obtain ⟨i0, hi, hz0, hz1, hz2⟩ := info_parts infoLE
  have HI := Lib.hid hi; have HZ0 := Lib.hid hz0; have HZ1 := Lib.hid hz1; have HZ2 := Lib.hid hz2
  clear hL hg hany hr hr2 a0 x0 x1 hW2 hB2 hs2 hlv hT IH hi hz0 hz1 hz2
  obtain ⟨j0, hj, hjz0, hjz1, hjz2⟩ := info_parts infoN
  have HJ := Lib.hid hj; have HJ0 := Lib.hid hjz0; have HJ1 := Lib.hid hjz1; have HJ2 := Lib.hid hjz2
  clear hj hjz0 hjz1 hjz2
  refine (callsIn_wide (n := 3)).1 ?_
  refine callsIn_of_wp_marks Tryz.func31 rfl trivial ?_ rfl
  simp only [Tryz.ntmps31, List.size_toArray, List.length_cons, List.length_nil, Nat.reduceAdd, Nat.reduceSub, Array.replicate_succ, Array.replicate_zero, List.push_toArray, List.append_toArray, List.nil_append, List.cons_append]
  refine wpIn_wide.2 ?_
  go_wp2_with (first | (rw [HW2.out]; obtain ⟨y0, y1⟩ := SK.out W2 (Below.refl _ _)) | (refine CA.out.mono ?_; rintro e w1 ⟨rfl, hb1⟩; obtain ⟨W3, hW3⟩ : ∃ W3, w1.alloc (.cells #[.slice none 0 0, .slice none 0 0, .slice none 0 0, .slice none 0 0, .slice none 0 0, .slice none 0 0, .slice none 0 0, .slice none 0 0, .slice none 0 0, .slice none 0 0, .slice none 0 0, .slice none 0 0, .slice none 0 0, .slice none 0 0, .slice none 0 0, .slice none 0 0, .slice none 0 0, .slice none 0 0, .slice none 0 0, .slice none 0 0, .slice none 0 0, .slice none 0 0, .slice none 0 0, .slice none 0 0, .slice none 0 0, .slice none 0 0, .slice none 0 0, .slice none 0 0, .slice none 0 0, .slice none 0 0, .slice none 0 0, .slice none 0 0] 112) = W3 := ⟨_, rfl⟩; have hb3 : Below w1.heap.size w1 W3 := (by rw [← hW3]; (repeat (first | exact Below.refl _ _ | with_reducible assumption | refine Below.drew ?_ | refine b_drewN ?_ _ | (refine Below.alloc ?_ (by first | omega | (simp <;> omega)) _)))); obtain ⟨z0, z1⟩ := SK.out W3 (hb1.trans (hb3.mono hb1.size)); have H0 : Hid (LayP l level w1.heap.size (w1.heap.size + 1) w W3 (.int .u32 0) (.int .i64 0) W3) := Lib.hid ⟨0, Nat.zero_le _, rfl, rfl, (by rw [← hW3]; exact Parts.made (t := 112) (e := 83) (sz := 3) (d := entK) (w := w1) (m := 32)), Below.refl _ _, Nat.le_trans HB2.out.size hb1.size⟩; have HW3 := Lib.hid hW3; have HB3 := Lib.hid hb3; have HB1 := Lib.hid hb1; clear hW3 hb3 hb1) | (rw [HW3.out]))
  go_loopw [5, 28] (LayP l level w1.heap.size (w1.heap.size + 1) w W3) (fun _ i _ => l.length - (intOf i).toNat)
  case atStart => exact H0.out
  case round =>
    obtain ⟨k, hk, rfl, rfl, hP, hB, hwP⟩ := hrel
    have hs2 := HS2.out
    have hP2 : w.heap.size + 2 ≤ w1.heap.size := by have := HB1.out.size; omega
    have hBw : Below w.heap.size w wr := (HB2.out.trans (HB1.out.mono HB2.out.size)).trans ((HB3.out.mono (Nat.le_trans HB2.out.size HB1.out.size)).trans (hB.mono hwP))
    have hy1 : wr.cell? ⟨w.heap.size + 1, 0, none⟩ = some (.int .i64 (level : Nat)) := (hB.cell (p := ⟨w.heap.size + 1, 0, none⟩) (by show w.heap.size + 1 < w1.heap.size; omega)).trans z1
    by_cases hlt : k < l.length
    · obtain ⟨b', o', u1, u2, e1, -, c0, c1, c2, hu, hv⟩ := ent_get HR.out (List.getElem?_eq_getElem hlt)
      cases e1
      obtain ⟨U1, cu1, rfl⟩ := hu.form
      obtain ⟨U2, cu2, rfl⟩ := hv.form
      have d0 := (hBw.cell (p := ⟨b, o + k * 3, none⟩) hbb).trans c0
      have d1 := (hBw.cell (p := ⟨b, o + k * 3 + 1, none⟩) hbb).trans c1
      have d2 := (hBw.cell (p := ⟨b, o + k * 3 + 2, none⟩) hbb).trans c2
      have hbl2 : b < wr.heap.size := Nat.lt_of_lt_of_le hbb hBw.size
      have h0 : (0 : Int) ≤ (k : Int) := by omega
      have h1 : (k : Int) < (l.length : Int) := by omega
      have hs : l.take (k + 1) = l.take k ++ [l[k]] := take_succ_snoc hlt
      have hml := Bw.mapOf_lt level (l.take k)
      have hmm : Bw.mapOf level (l.take (k + 1)) = Bw.mapOf level (l.take k) ||| 2 ^ Bw.chunkAt l[k].1 level := by rw [hs, Bw.mapOf_snoc]
      have hpp : (fun c => Bw.partOf level c (l.take (k + 1))) = fun i => if Bw.chunkAt l[k].1 level = i then Bw.partOf level i (l.take k) ++ [l[k]] else Bw.partOf level i (l.take k) := by funext i; rw [hs, Bw.partOf_snoc]
      have hcc := Bw.chunkAt_lt l[k].1 level
      have hln : (Bw.partOf level (Bw.chunkAt l[k].1 level) (l.take k)).length ≤ 1048576 := Nat.le_trans (List.length_filter_le _ _) (by rw [List.length_take]; have := HL.out.len; omega)
      generalize l[k] = q at *
      obtain ⟨qh, qx, qy⟩ := q
      dsimp only at d0 d1 d2 hu hv hcc hmm hpp hln
      generalize hcq : Bw.chunkAt qh level = cc at *
      generalize Bw.mapOf level (l.take k) = mm at *
      obtain ⟨WX, hWX⟩ : ∃ WX, wr.alloc (.cells #[.int .u64 (qh : Nat), .slice U1 qx.length cu1, .slice U2 qy.length cu2] 83) = WX := ⟨_, rfl⟩
      have hwx : Below wr.heap.size wr WX := by rw [← hWX]; (repeat (first | exact Below.refl _ _ | with_reducible assumption | refine Below.drew ?_ | refine b_drewN ?_ _ | (refine Below.alloc ?_ (by first | omega | (simp <;> omega)) _)))
      have m0 : WX.cell? ⟨wr.heap.size, 0, none⟩ = some (.int .u64 (qh : Nat)) := by subst hWX; go_simp
      have m1 : WX.cell? ⟨wr.heap.size, 1, none⟩ = some (.slice U1 qx.length cu1) := by subst hWX; go_simp
      have m2 : WX.cell? ⟨wr.heap.size, 2, none⟩ = some (.slice U2 qy.length cu2) := by subst hWX; go_simp
      have hwl : w.heap.size + 1 < wr.heap.size := by have := hB.size; have := HB3.out.size; omega
      have my : WX.cell? ⟨w.heap.size + 1, 0, none⟩ = some (.int .i64 (level : Nat)) := (hwx.cell (p := ⟨w.heap.size + 1, 0, none⟩) hwl).trans hy1
      have hBX : Below w1.heap.size W3 WX := hB.trans (hwx.mono (by have := hB.size; have := HB3.out.size; omega))
      obtain ⟨v5, vs, hvl, hvc, hvh, hcell, hfr, hown, hnew, hall⟩ := (hP.below hwx goodEnt).at (i := cc) hcc
      obtain ⟨A5, c5, rfl⟩ := (hown.row goodEnt).form
      have hc0 : (0 : Int) ≤ (cc : Int) := by omega
      have hc1 : (cc : Int) < 32 := by omega
      have hbase : w1.heap.size + 1 ≤ WX.heap.size := Nat.le_trans hP.2.1 hwx.size
      have hlow : ∀ j0, j0 < w.heap.size → okP w1.heap.size vs cc j0 ∧ some j0 ≠ (Value.slice A5 (Bw.partOf level cc (l.take k)).length c5).ownBlock := fun j0 hk => by
        exact ⟨⟨by omega, fun j u hu _ e => by have := ((hall j u hu).lt j0 e.symm).1; omega⟩, fun e => by have := (hown.lt j0 e.symm).1; omega⟩
      have hbw : Below w.heap.size w WX.drew := Below.drew (hBw.trans (hwx.mono hBw.size))
      have HY : Hid (entK (fun j0 => okP w1.heap.size vs cc j0 ∧ some j0 ≠ (Value.slice A5 (Bw.partOf level cc (l.take k)).length c5).ownBlock) WX.drew (qh, (qx, qy)) [.int .u64 (qh : Nat), .slice U1 qx.length cu1, .slice U2 qy.length cu2]) :=
        Lib.hid (entK_mk ((hu.move (ok' := fun k => k < w.heap.size) goodByte (Moves.below hbw)).move goodByte (Moves.weaken fun k hk _ => hlow k hk)) ((hv.move (ok' := fun k => k < w.heap.size) goodByte (Moves.below hbw)).move goodByte (Moves.weaken fun k hk _ => hlow k hk)))
      have CW := Lib.hid (bwith_any mm cc WX hml hcc)
      have HOWN := Lib.hid (OwnAt.move goodEnt (Moves.drewN (ok := okP w1.heap.size vs cc) WX 1) hown)
      have HALL := Lib.hid hall; have HVH := Lib.hid hvh; have HVC := Lib.hid hvc; have HVL := Lib.hid hvl; have HNEW := Lib.hid hnew; have HMM := Lib.hid hmm; have HPP := Lib.hid hpp; have HLN := Lib.hid hln; have HWX := Lib.hid hWX
      have HBX := Lib.hid hBX; have HLT := Lib.hid hlt; have HBASE := Lib.hid hbase; have HWP := Lib.hid hwP; have HCQ := Lib.hid hcq
      clear hu hv c0 c1 c2 hs hml hmm hpp hln hown hall hvh hvc hvl hnew hP hB hBw hwx hWX hbw hlow hBX hwP hcq H0
      generalize hxs : Bw.partOf level cc (l.take k) = xs at *
      have HXS := Lib.hid hxs
      clear hxs
      go_wp2_with (first
        | (rw [HWX.out])
        | (refine (CAT.out _ _).mono ?_; rintro e w' ⟨rfl, rfl⟩; rw [HCQ.out])
        | (refine CW.out.mono ?_; rintro e w' ⟨rfl, rfl⟩))
      have HNP : Hid (some w1.heap.size ≠ (Value.slice A5 xs.length c5).ownBlock) := Lib.hid fun e => by have := (HOWN.out.lt _ e.symm).1; omega
      have hlt1 : w1.heap.size < WX.heap.size := HBASE.out
      refine wp_region_noPanic ?_
      go_region_law
        ((first
          | (go_loud (refine st_app1 goodEnt rfl (.tmp 42) (.tmp 44) 54 rfl (w1.heap.size + 1) 83 i0 _ 56 Tryz.underlying54 HI.out HZ0.out HZ1.out HZ2.out rfl (by decide) (.slice A5 xs.length c5) xs rfl HOWN.out (qh, (qx, qy)) #[.int .u64 (qh : Nat), .slice U1 qx.length cu1, .slice U2 qy.length cu2] 83 (by go_simp) HY.out HNEW.out (by have := HLN.out; omega) (by decide) HBASE.out ?_; intro v3 w3 hown3 hb3 hat3 hg3; obtain ⟨A3, c3, rfl⟩ := (hown3.row goodEnt).form; obtain ⟨n0, n1⟩ := cell_of_list ((hg3.block w1.heap.size HBASE.out HNP.out).trans HVH.out) HVC.out))))
      all_goals refine NoPanic.normal ?_
      all_goals go_wp2
      all_goals have hle : (xs ++ [(qh, (qx, qy))]).length = xs.length + 1 := by simp
      all_goals rw [hle] at hown3 hat3
      all_goals have hown4 : OwnAt 83 3 entK (okP w1.heap.size vs cc) w3 (w1.heap.size + 1) (.slice A3 (xs.length + 1) c3) ((fun i => Bw.partOf level i (l.take k)) cc ++ [(qh, (qx, qy))]) := (by show OwnAt _ _ _ _ _ _ _ (Bw.partOf level cc (l.take k) ++ [(qh, (qx, qy))]); rw [HXS.out]; exact hown3)
      all_goals have hfin := Parts.grow (w := WX.drewN 1) (w' := w3) (t := 112) (xs := fun i => Bw.partOf level i (l.take k)) (y := (qh, (qx, qy))) (Nat.lt_succ_self _) HBASE.out HVL.out HVC.out HVH.out (fun j u hj => OwnAt.move goodEnt (Moves.drewN (ok := okP w1.heap.size vs j) WX 1) (HALL.out j u hj)) hown4 hg3 hat3 goodEnt
      all_goals exact ⟨⟨k + 1, HLT.out, int_succ HLT.out HL.out.len, by rw [HMM.out], by rw [HPP.out]; exact hfin, ((b_drewN HBX.out 1).trans (hb3.mono (Nat.le_succ _))).setCell (p := ⟨w1.heap.size, cc, none⟩) (Nat.le_refl _) _, HWP.out⟩, less_succ HLT.out HL.out.len⟩
    · obtain rfl : k = l.length := by omega
      rw [List.take_length] at hP ⊢
      rw [HMQE.out]
      clear hlt H0
      obtain ⟨W5, hW5⟩ : ∃ W5, (wr.alloc (.cells #[.slice none 0 0] 115)).alloc (.cells #[.int .u32 (mq : Nat)] 73) = W5 := ⟨_, rfl⟩
      have hB5 : Below wr.heap.size wr W5 := by rw [← hW5]; (repeat (first | exact Below.refl _ _ | with_reducible assumption | refine Below.drew ?_ | refine b_drewN ?_ _ | (refine Below.alloc ?_ (by first | omega | (simp <;> omega)) _)))
      have hs5 : W5.heap.size = wr.heap.size + 2 := by rw [← hW5]; simp
      have b10 : Boxed W5 wr.heap.size 115 (.slice none 0 0) := by rw [← hW5]; exact (Boxed.new wr _ _).alloc _
      have bm : Boxed W5 (wr.heap.size + 1) 73 (.int .u32 (mq : Nat)) := by rw [← hW5]; have := Boxed.new (wr.alloc (.cells #[.slice none 0 0] 115)) 73 (.int .u32 (mq : Nat)); simpa using this
      have hwr : w1.heap.size < wr.heap.size := hP.2.1
      have hKB : ∀ W, Keep wr.heap.size W5 W → Below wr.heap.size wr W := fun W hK => hB5.trans (hK.below (Nat.le_refl _) hB5.size)
      have hBW : ∀ W, Keep wr.heap.size W5 W → Below w.heap.size w W := fun W hK => hBw.trans ((hKB W hK).mono hBw.size)
      have hTW : ∀ W, Keep wr.heap.size W5 W → Tab W := fun W hK => HT.out.below HT.out.pos (hBW W hK)
      have hPart : ∀ y : Fin 32, ∃ A5 c5, ∀ W, Keep wr.heap.size W5 W → W.cell? ⟨w1.heap.size, y.val, none⟩ = some (.slice A5 (Bw.partOf level y.val l).length c5) ∧ EntsAt (fun k => k < wr.heap.size) W (.slice A5 (Bw.partOf level y.val l).length c5) (Bw.partOf level y.val l) := by
        intro y
        obtain ⟨v5, vs, -, -, hvh, hcell, -, hown, -, -⟩ := hP.at y.isLt
        obtain ⟨A5, c5, rfl⟩ := (hown.row goodEnt).form
        exact ⟨A5, c5, fun W hK => ⟨((hKB W hK).cell (p := ⟨w1.heap.size, y.val, none⟩) hwr).trans hcell, ((hown.row goodEnt).move goodEnt (Moves.weaken fun k _ hl => hl)).move (ok' := fun k => k < wr.heap.size) goodEnt (fun k hk _ => ⟨hk, (hKB W hK).block k hk⟩)⟩⟩
      have hLV : ∀ W, Keep wr.heap.size W5 W → W.cell? ⟨w.heap.size + 1, 0, none⟩ = some (.int .i64 (level : Nat)) := fun W hK => ((hKB W hK).cell (p := ⟨w.heap.size + 1, 0, none⟩) (by show w.heap.size + 1 < wr.heap.size; omega)).trans hy1
      have hCL : ∀ (y : Fin 32) (A5 : Option Addr) (c5 : Nat) W, Keep wr.heap.size W5 W → EntsAt (fun k => k < wr.heap.size) W (.slice A5 (Bw.partOf level y.val l).length c5) (Bw.partOf level y.val l) →
          Calls Tryz.prog 31 #[.slice A5 (Bw.partOf level y.val l).length c5, .int .i64 (IntKind.i64.wrap ((level : Int) + 1))] W (Gives W fun q w' => ONodeAt nt (fun k => W.heap.size ≤ k) w' q (F y.val)) := by
        intro y A5 c5 W hK hE
        rw [show IntKind.i64.wrap ((level : Int) + 1) = ((level + 1 : Nat) : Int) by rw [IntKind.wrap_i64]; have := HLV.out; omega, ← HF.out]
        exact HIH.out _ _ _ W HL.out.part hE (hTW W hK)
      have HPART := Lib.hid hPart; have HLVL := Lib.hid hLV; have HCL := Lib.hid hCL; have HBWK := Lib.hid hBW; have HTW := Lib.hid hTW; have HS5 := Lib.hid hs5; have HW5 := Lib.hid hW5; have HB10 := Lib.hid b10; have HBM := Lib.hid bm
      have hT5 := hTW W5 (Keep.refl _ _)
      have hwle := hBw.size
      clear hPart hLV hCL hBW hTW hKB hP hB hBw hs5 b10 bm hy1 hwP hB5
      clear hW5
      go_wp2
      rw [HW5.out]
      have hs5 := HS5.out
      refine (wpIn_wide (n := 3)).1 ?_
      refine wpIn_rangeFunc_ownF (w := W5) rfl (by omega) (gf := 88) (lb := #[.pointer (some ⟨wr.heap.size + 1, 0, none⟩)]) rfl trivial (enters_of Tryz.func88 (by kernel_rfl) rfl)
        (all32_stops _ (by omega) (wr.heap.size + 1) w.heap.size mq HMQ.out HT.out.pos _ (by omega) HBM.out.cell hT5) belowK_t (belowK_b (by omega)) (Below.refl _ _) (fun _ => rfl)
        (KidI W5 wr.heap.size F)
        (fun _ _ _ => False)
        kidI_own
        (fun _ _ _ _ _ hs _ _ => hs)
        ⟨⟨_, HB10.out, OwnAt.nil⟩, Keep.refl _ _⟩
        (fun y => { tmps := #[.slice (some ⟨b, o, none⟩) l.length c, .int .i64 (level : Nat), .pointer (some ⟨w.heap.size, 0, none⟩), .pointer (some ⟨w.heap.size + 1, 0, none⟩), .nilIface, .int .u32 (mq : Nat), .pointer (some ⟨w1.heap.size, 0, none⟩), undef, u8, u9, .pointer (some ⟨wr.heap.size, 0, none⟩), .int .i64 (y.val : Nat), .slice (some ⟨b, o, none⟩) l.length c, .int .i64 (l.length : Nat), .bool false, .slice (some ⟨b, o, none⟩) l.length c, .func (Fn.func 59) #[] #[.pointer (some ⟨w.heap.size, 0, none⟩)], .bool true, .bool false, undef, undef, undef, undef, undef, undef, undef, .slice (some ⟨b, o, none⟩) l.length c, .int .i64 (l.length : Nat), .int .i64 (l.length : Nat), .bool false, u30, u31, u32, u33, u34, u35, u36, u37, u38, u39, u40, u41, u42, u43, u44, u45, u46, u47, .int .u32 (mq : Nat), .func (.func 88) #[] #[.pointer (some ⟨wr.heap.size + 1, 0, none⟩)], .int .i64 (y.val : Nat), undef, undef, undef, undef, undef, undef, undef, undef, undef, undef, undef, undef], defers := [] }) ?assign ?body ?done ?stop
      case assign =>
        intro l' x W K hK
        gi_wp2
        exact hK
      case body =>
        rintro l' pre y W ⟨⟨v, hv, hown⟩, hK⟩ hlen
        gi_wp2
        obtain ⟨A5, c5, hpt⟩ := HPART.out y
        have hcl := HCL.out y A5 c5
        generalize (Bw.partOf level y.val l).length = n5 at *
        obtain ⟨hpc, hpe⟩ := hpt W hK
        have hlv := HLVL.out W hK
        have hy0 : (0 : Int) ≤ (y.val : Int) := by omega
        have hy1 : (y.val : Int) < 32 := by have := y.isLt; omega
        have hKB5 : wr.heap.size < W5.heap.size := by omega
        have hdW : Below W.heap.size W W.drew := Below.drew (Below.refl _ _)
        have hKd : Keep wr.heap.size W5 W.drew := hK.then hdW
        have hSb : W.cell? ⟨w1.heap.size, y.val, none⟩ = some (.slice A5 n5 c5) ∧ W.cell? ⟨w.heap.size + 1, 0, none⟩ = some (.int .i64 (level : Nat)) := ⟨hpc, hlv⟩
        have CC := Lib.hid (hcl W.drew hKd (hpt W.drew hKd).2)
        have SK7 : Hid (∀ w7, Below W.drew.heap.size W.drew w7 → Below W.heap.size W w7 ∧ (w7.cell? ⟨w1.heap.size, y.val, none⟩ = some (.slice A5 n5 c5) ∧ w7.cell? ⟨w.heap.size + 1, 0, none⟩ = some (.int .i64 (level : Nat))) ∧ w7.cell? ⟨wr.heap.size, 0, none⟩ = some v ∧ w7.frozen? ⟨wr.heap.size, 0, none⟩ = false) := Lib.hid fun w7 hb => by
          have hw7 : Below W.heap.size W w7 := hdW.trans hb
          have hK7 := hK.then hw7
          exact ⟨hw7, ⟨(hpt w7 hK7).1, HLVL.out w7 hK7⟩, (hw7.cell (p := ⟨wr.heap.size, 0, none⟩) (Nat.lt_of_lt_of_le hKB5 hK.size)).trans hv.cell, (hw7.frozen (p := ⟨wr.heap.size, 0, none⟩) (Nat.lt_of_lt_of_le hKB5 hK.size)).trans hv.frozen⟩
        have c10 := hv.cell
        have hlen32 : pre.length < 32 := Nat.lt_of_lt_of_le hlen (by rw [Bw.length_bitsOf]; exact Bw.ones_le 32 _)
        have HLEN : Hid ((pre.map fun c : Fin 32 => F c.val).length < 32) := Lib.hid (by rw [List.length_map]; exact hlen32)
        have HOWN := Lib.hid hown; have HK := Lib.hid hK; have HV := Lib.hid hv; have HPT := Lib.hid hpt; have HWB := Lib.hid hwr
        clear hcl hpt hown hK hv hlen hlen32 hKd hpe
        refine wpIn_region_round (S := fun w' => w'.cell? ⟨w1.heap.size, y.val, none⟩ = some (.slice A5 n5 c5) ∧ w'.cell? ⟨w.heap.size + 1, 0, none⟩ = some (.int .i64 (level : Nat))) (sz := 10) (li := #[false, false, false, false, false, false, false, false, false, false]) rfl rfl (by kernel_rfl) (noDefer_of (by kernel_rfl)) ?_
        refine wpAnyH_take (i := 1) (v := .int .i64 (y.val : Nat)) rfl (by kernel_rfl) (by kernel_rfl) (by kernel_rfl) (fun _ _ _ h => h) (Or.inl ⟨by rfl, ?y1⟩) hSb ?r1
        case y1 => intro w' hSw; (try dsimp only at hSw); simp only [List.getElem_toArray, List.getElem_cons_succ, List.getElem_cons_zero]; (try go_simp); first | done | rfl
        simp only [Act.put, List.getElem_toArray, List.getElem_cons_succ, List.getElem_cons_zero, List.setIfInBounds_toArray, List.set_cons_zero, List.set_cons_succ]
        refine wpAnyH_take (i := 2) (v := .pointer (some ⟨w1.heap.size, y.val, none⟩)) rfl (by kernel_rfl) (by kernel_rfl) (by kernel_rfl) (fun _ _ _ h => h) (Or.inl ⟨by rfl, ?y2⟩) hSb ?r2
        case y2 => intro w' hSw; (try dsimp only at hSw); simp only [List.getElem_toArray, List.getElem_cons_succ, List.getElem_cons_zero]; (try go_simp); first | done | rfl
        simp only [Act.put, List.getElem_toArray, List.getElem_cons_succ, List.getElem_cons_zero, List.setIfInBounds_toArray, List.set_cons_zero, List.set_cons_succ]
        refine wpAnyH_take (i := 3) (v := .slice A5 n5 c5) rfl (by kernel_rfl) (by kernel_rfl) (by kernel_rfl) (fun _ _ _ h => h) (Or.inl ⟨by rfl, ?y3⟩) hSb ?r3
        case y3 => intro w' hSw; (try dsimp only at hSw); simp only [List.getElem_toArray, List.getElem_cons_succ, List.getElem_cons_zero]; (try go_simp); first | done | rfl
        simp only [Act.put, List.getElem_toArray, List.getElem_cons_succ, List.getElem_cons_zero, List.setIfInBounds_toArray, List.set_cons_zero, List.set_cons_succ]
        refine wpAnyH_take (i := 4) (v := .int .i64 (level : Nat)) rfl (by kernel_rfl) (by kernel_rfl) (by kernel_rfl) (fun _ _ _ h => h) (Or.inl ⟨by rfl, ?y4⟩) hSb ?r4
        case y4 => intro w' hSw; (try dsimp only at hSw); simp only [List.getElem_toArray, List.getElem_cons_succ, List.getElem_cons_zero]; (try go_simp); first | done | rfl
        simp only [Act.put, List.getElem_toArray, List.getElem_cons_succ, List.getElem_cons_zero, List.setIfInBounds_toArray, List.set_cons_zero, List.set_cons_succ]
        refine wpAnyH_take (i := 5) (v := .int .i64 (IntKind.i64.wrap ((level : Int) + 1))) rfl (by kernel_rfl) (by kernel_rfl) (by kernel_rfl) (fun _ _ _ h => h) (Or.inl ⟨by rfl, ?y5⟩) hSb ?r5
        case y5 => intro w' hSw; (try dsimp only at hSw); simp only [List.getElem_toArray, List.getElem_cons_succ, List.getElem_cons_zero]; (try go_simp); first | done | rfl
        simp only [Act.put, List.getElem_toArray, List.getElem_cons_succ, List.getElem_cons_zero, List.setIfInBounds_toArray, List.set_cons_zero, List.set_cons_succ]
        refine wpAnyH_ready (rs := [0, 6]) (by kernel_rfl) (by simp) ?_
        refine AllReadyH.cons rfl (fun K0 hK0 => ?_) (AllReadyH.cons rfl (fun K6 hK6 => ?_) (AllReadyH.nil))
        · simp only [List.getElem_toArray, List.getElem_cons_zero]
          go_simp
          refine hK0.out _ _ hSb (fun _ => ?_)
          clear hK0 K0
          simp only [List.setIfInBounds_toArray, List.set_cons_zero]
          refine wpAnyH_ready (rs := [6]) (by kernel_rfl) (by simp) ?_
          refine AllReadyH.cons rfl (fun K6 hK6 => ?_) (AllReadyH.nil)
          simp only [List.getElem_toArray, List.getElem_cons_succ, List.getElem_cons_zero]
          go_simp
          refine CC.out.mono ?_
          rintro e w7 ⟨q, rfl, hq, hb7⟩
          obtain ⟨hw7, hS7, c7, f7⟩ := SK7.out w7 hb7
          have hw1 : wr.heap.size < w7.heap.size := World.block_lt_of_cell? w7 _ c7
          have hw2 : w1.heap.size < w7.heap.size := Nat.lt_trans HWB.out hw1
          have hqf := onodeE_form hq
          have hn7 : nodeK nt (fun k => W5.heap.size ≤ k ∧ some k ≠ v.ownBlock) w7 (F y.val) [q] := ⟨q, rfl, hq.move (Moves.weaken fun k hk _ => ⟨Nat.le_trans HK.out.size hk, fun e => by have h1 := (HOWN.out.lt k e.symm).2; have h2 : W.heap.size ≤ k := hk; omega⟩)⟩
          have HN7 := Lib.hid hn7
          clear hq hn7
          refine hK6.out _ _ hS7 (fun _ => ?_)
          clear hK6 K6
          simp only [List.setIfInBounds_toArray, List.set_cons_zero, List.set_cons_succ]
          refine wpAnyH_ready (rs := [7]) (by kernel_rfl) (by simp) ?_
          refine AllReadyH.cons rfl (fun K7 hK7 => ?_) (AllReadyH.nil)
          rcases hqf with rfl | ⟨tq, bq, rfl⟩
          · simp only [List.getElem_toArray, List.getElem_cons_succ, List.getElem_cons_zero]
            go_simp
            have hS7a : (w7.alloc (.cells #[.nilIface] 27)).cell? ⟨w1.heap.size, y.val, none⟩ = some (.slice A5 n5 c5) ∧ (w7.alloc (.cells #[.nilIface] 27)).cell? ⟨w.heap.size + 1, 0, none⟩ = some (.int .i64 (level : Nat)) := ⟨cell_allocL _ hS7.1, cell_allocL _ hS7.2⟩
            refine hK7.out _ _ hS7a (fun _ => ?_)
            clear hK7 K7
            simp only [List.setIfInBounds_toArray, List.set_cons_zero, List.set_cons_succ]
            refine wpAnyH_ready (rs := [8]) (by kernel_rfl) (by simp) ?_
            refine AllReadyH.cons rfl (fun K8 hK8 => ?_) (AllReadyH.nil)
            refine st_app1 (goodNode nt) rfl (.tmp 51) (.tmp 58) 115 rfl W5.heap.size 27 j0 .nilIface 16 Tryz.underlying115 HJ.out HJ0.out HJ1.out HJ2.out rfl (by decide) v (pre.map fun c => F c.val) rfl (HOWN.out.move (goodNode nt) (Moves.below hw7)) (F y.val) #[.nilIface] 27 (by go_simp) HN7.out (fun k hk => Nat.le_trans (Nat.le_trans HK.out.size hw7.size) hk) (by have := HLEN.out; omega) (by decide) (Nat.le_trans HK.out.size hw7.size) ?_
            intro v8 w8 hown8 hb8 hat8 hg8
            obtain ⟨A8, c8, rfl⟩ := (hown8.row (goodNode nt)).form
            rw [show ((pre.map fun c : Fin 32 => F c.val) ++ [F y.val]).length = pre.length + 1 by simp] at hown8
            have hne8 : ∀ k, k < W5.heap.size → some k ≠ v.ownBlock := fun k hk e => by have := (HOWN.out.lt k e.symm).1; omega
            have c9 : w8.cell? ⟨wr.heap.size, 0, none⟩ = some v := hg8.cell c7 (hne8 _ hKB5)
            have f9 : w8.frozen? ⟨wr.heap.size, 0, none⟩ = false := (World.frozen?_of_block (hg8.block wr.heap.size hw1 (hne8 _ hKB5))).trans f7
            have hS8 : w8.cell? ⟨w1.heap.size, y.val, none⟩ = some (.slice A5 n5 c5) ∧ w8.cell? ⟨w.heap.size + 1, 0, none⟩ = some (.int .i64 (level : Nat)) := ⟨hg8.cell hS7.1 (hne8 _ (by have := HWB.out; show w1.heap.size < _; omega)), hg8.cell hS7.2 (hne8 _ (by have := HWB.out; show w.heap.size + 1 < _; omega))⟩
            refine hK8.out _ _ hS8 (fun _ => ?_)
            clear hK8 K8
            simp only [List.setIfInBounds_toArray, List.set_cons_zero, List.set_cons_succ]
            refine wpAnyH_ready (rs := [9]) (by kernel_rfl) (by simp) ?_
            refine AllReadyH.cons rfl (fun K9 hK9 => ?_) (AllReadyH.nil)
            simp only [List.getElem_toArray, List.getElem_cons_succ, List.getElem_cons_zero]
            go_simp
            refine hK9.out _ _ ?s9 (fun _ => ?_)
            case s9 => exact ⟨(World.cell?_setCell_far _ _ _ _ (by show wr.heap.size ≠ w1.heap.size; have := HWB.out; omega)).trans hS8.1, (World.cell?_setCell_far _ _ _ _ (by show wr.heap.size ≠ w.heap.size + 1; have := HWB.out; omega)).trans hS8.2⟩
            clear hK9 K9
            simp only [List.setIfInBounds_toArray, List.set_cons_zero, List.set_cons_succ]
            refine wpAnyH_done (by kernel_rfl) ?_ _
            obtain ⟨p1, p2, p3⟩ := KidI.step (n0 := w.heap.size) (y := y) (F := F) hKB5 (by omega) HV.out HOWN.out HK.out hw7 hown8 hg8
            exact ⟨p1, p2, p3⟩
          · simp only [List.getElem_toArray, List.getElem_cons_succ, List.getElem_cons_zero]
            go_simp
            have hS7a : (w7.alloc (.cells #[.iface tq (.pointer (some ⟨bq, 0, none⟩))] 27)).cell? ⟨w1.heap.size, y.val, none⟩ = some (.slice A5 n5 c5) ∧ (w7.alloc (.cells #[.iface tq (.pointer (some ⟨bq, 0, none⟩))] 27)).cell? ⟨w.heap.size + 1, 0, none⟩ = some (.int .i64 (level : Nat)) := ⟨cell_allocL _ hS7.1, cell_allocL _ hS7.2⟩
            refine hK7.out _ _ hS7a (fun _ => ?_)
            clear hK7 K7
            simp only [List.setIfInBounds_toArray, List.set_cons_zero, List.set_cons_succ]
            refine wpAnyH_ready (rs := [8]) (by kernel_rfl) (by simp) ?_
            refine AllReadyH.cons rfl (fun K8 hK8 => ?_) (AllReadyH.nil)
            refine st_app1 (goodNode nt) rfl (.tmp 51) (.tmp 58) 115 rfl W5.heap.size 27 j0 .nilIface 16 Tryz.underlying115 HJ.out HJ0.out HJ1.out HJ2.out rfl (by decide) v (pre.map fun c => F c.val) rfl (HOWN.out.move (goodNode nt) (Moves.below hw7)) (F y.val) #[.iface tq (.pointer (some ⟨bq, 0, none⟩))] 27 (by go_simp) HN7.out (fun k hk => Nat.le_trans (Nat.le_trans HK.out.size hw7.size) hk) (by have := HLEN.out; omega) (by decide) (Nat.le_trans HK.out.size hw7.size) ?_
            intro v8 w8 hown8 hb8 hat8 hg8
            obtain ⟨A8, c8, rfl⟩ := (hown8.row (goodNode nt)).form
            rw [show ((pre.map fun c : Fin 32 => F c.val) ++ [F y.val]).length = pre.length + 1 by simp] at hown8
            have hne8 : ∀ k, k < W5.heap.size → some k ≠ v.ownBlock := fun k hk e => by have := (HOWN.out.lt k e.symm).1; omega
            have c9 : w8.cell? ⟨wr.heap.size, 0, none⟩ = some v := hg8.cell c7 (hne8 _ hKB5)
            have f9 : w8.frozen? ⟨wr.heap.size, 0, none⟩ = false := (World.frozen?_of_block (hg8.block wr.heap.size hw1 (hne8 _ hKB5))).trans f7
            have hS8 : w8.cell? ⟨w1.heap.size, y.val, none⟩ = some (.slice A5 n5 c5) ∧ w8.cell? ⟨w.heap.size + 1, 0, none⟩ = some (.int .i64 (level : Nat)) := ⟨hg8.cell hS7.1 (hne8 _ (by have := HWB.out; show w1.heap.size < _; omega)), hg8.cell hS7.2 (hne8 _ (by have := HWB.out; show w.heap.size + 1 < _; omega))⟩
            refine hK8.out _ _ hS8 (fun _ => ?_)
            clear hK8 K8
            simp only [List.setIfInBounds_toArray, List.set_cons_zero, List.set_cons_succ]
            refine wpAnyH_ready (rs := [9]) (by kernel_rfl) (by simp) ?_
            refine AllReadyH.cons rfl (fun K9 hK9 => ?_) (AllReadyH.nil)
            simp only [List.getElem_toArray, List.getElem_cons_succ, List.getElem_cons_zero]
            go_simp
            refine hK9.out _ _ ?s9 (fun _ => ?_)
            case s9 => exact ⟨(World.cell?_setCell_far _ _ _ _ (by show wr.heap.size ≠ w1.heap.size; have := HWB.out; omega)).trans hS8.1, (World.cell?_setCell_far _ _ _ _ (by show wr.heap.size ≠ w.heap.size + 1; have := HWB.out; omega)).trans hS8.2⟩
            clear hK9 K9
            simp only [List.setIfInBounds_toArray, List.set_cons_zero, List.set_cons_succ]
            refine wpAnyH_done (by kernel_rfl) ?_ _
            obtain ⟨p1, p2, p3⟩ := KidI.step (n0 := w.heap.size) (y := y) (F := F) hKB5 (by omega) HV.out HOWN.out HK.out hw7 hown8 hg8
            exact ⟨p1, p2, p3⟩
        · simp only [List.getElem_toArray, List.getElem_cons_succ, List.getElem_cons_zero]
          go_simp
          refine CC.out.mono ?_
          rintro e w7 ⟨q, rfl, hq, hb7⟩
          obtain ⟨hw7, hS7, c7, f7⟩ := SK7.out w7 hb7
          have hw1 : wr.heap.size < w7.heap.size := World.block_lt_of_cell? w7 _ c7
          have hw2 : w1.heap.size < w7.heap.size := Nat.lt_trans HWB.out hw1
          have hqf := onodeE_form hq
          have hn7 : nodeK nt (fun k => W5.heap.size ≤ k ∧ some k ≠ v.ownBlock) w7 (F y.val) [q] := ⟨q, rfl, hq.move (Moves.weaken fun k hk _ => ⟨Nat.le_trans HK.out.size hk, fun e => by have h1 := (HOWN.out.lt k e.symm).2; have h2 : W.heap.size ≤ k := hk; omega⟩)⟩
          have HN7 := Lib.hid hn7
          clear hq hn7
          refine hK6.out _ _ hS7 (fun _ => ?_)
          clear hK6 K6
          simp only [List.setIfInBounds_toArray, List.set_cons_zero, List.set_cons_succ]
          refine wpAnyH_ready (rs := [0, 7]) (by kernel_rfl) (by simp) ?_
          refine AllReadyH.cons rfl (fun K0 hK0 => ?_) (AllReadyH.cons rfl (fun K7 hK7 => ?_) (AllReadyH.nil))
          · simp only [List.getElem_toArray, List.getElem_cons_zero]
            go_simp
            refine hK0.out _ _ hS7 (fun _ => ?_)
            clear hK0 K0
            simp only [List.setIfInBounds_toArray, List.set_cons_zero]
            refine wpAnyH_ready (rs := [7]) (by kernel_rfl) (by simp) ?_
            refine AllReadyH.cons rfl (fun K7 hK7 => ?_) (AllReadyH.nil)
            rcases hqf with rfl | ⟨tq, bq, rfl⟩
            · simp only [List.getElem_toArray, List.getElem_cons_succ, List.getElem_cons_zero]
              go_simp
              have hS7a : (w7.alloc (.cells #[.nilIface] 27)).cell? ⟨w1.heap.size, y.val, none⟩ = some (.slice A5 n5 c5) ∧ (w7.alloc (.cells #[.nilIface] 27)).cell? ⟨w.heap.size + 1, 0, none⟩ = some (.int .i64 (level : Nat)) := ⟨cell_allocL _ hS7.1, cell_allocL _ hS7.2⟩
              refine hK7.out _ _ hS7a (fun _ => ?_)
              clear hK7 K7
              simp only [List.setIfInBounds_toArray, List.set_cons_zero, List.set_cons_succ]
              refine wpAnyH_ready (rs := [8]) (by kernel_rfl) (by simp) ?_
              refine AllReadyH.cons rfl (fun K8 hK8 => ?_) (AllReadyH.nil)
              refine st_app1 (goodNode nt) rfl (.tmp 51) (.tmp 58) 115 rfl W5.heap.size 27 j0 .nilIface 16 Tryz.underlying115 HJ.out HJ0.out HJ1.out HJ2.out rfl (by decide) v (pre.map fun c => F c.val) rfl (HOWN.out.move (goodNode nt) (Moves.below hw7)) (F y.val) #[.nilIface] 27 (by go_simp) HN7.out (fun k hk => Nat.le_trans (Nat.le_trans HK.out.size hw7.size) hk) (by have := HLEN.out; omega) (by decide) (Nat.le_trans HK.out.size hw7.size) ?_
              intro v8 w8 hown8 hb8 hat8 hg8
              obtain ⟨A8, c8, rfl⟩ := (hown8.row (goodNode nt)).form
              rw [show ((pre.map fun c : Fin 32 => F c.val) ++ [F y.val]).length = pre.length + 1 by simp] at hown8
              have hne8 : ∀ k, k < W5.heap.size → some k ≠ v.ownBlock := fun k hk e => by have := (HOWN.out.lt k e.symm).1; omega
              have c9 : w8.cell? ⟨wr.heap.size, 0, none⟩ = some v := hg8.cell c7 (hne8 _ hKB5)
              have f9 : w8.frozen? ⟨wr.heap.size, 0, none⟩ = false := (World.frozen?_of_block (hg8.block wr.heap.size hw1 (hne8 _ hKB5))).trans f7
              have hS8 : w8.cell? ⟨w1.heap.size, y.val, none⟩ = some (.slice A5 n5 c5) ∧ w8.cell? ⟨w.heap.size + 1, 0, none⟩ = some (.int .i64 (level : Nat)) := ⟨hg8.cell hS7.1 (hne8 _ (by have := HWB.out; show w1.heap.size < _; omega)), hg8.cell hS7.2 (hne8 _ (by have := HWB.out; show w.heap.size + 1 < _; omega))⟩
              refine hK8.out _ _ hS8 (fun _ => ?_)
              clear hK8 K8
              simp only [List.setIfInBounds_toArray, List.set_cons_zero, List.set_cons_succ]
              refine wpAnyH_ready (rs := [9]) (by kernel_rfl) (by simp) ?_
              refine AllReadyH.cons rfl (fun K9 hK9 => ?_) (AllReadyH.nil)
              simp only [List.getElem_toArray, List.getElem_cons_succ, List.getElem_cons_zero]
              go_simp
              refine hK9.out _ _ ?s9 (fun _ => ?_)
              case s9 => exact ⟨(World.cell?_setCell_far _ _ _ _ (by show wr.heap.size ≠ w1.heap.size; have := HWB.out; omega)).trans hS8.1, (World.cell?_setCell_far _ _ _ _ (by show wr.heap.size ≠ w.heap.size + 1; have := HWB.out; omega)).trans hS8.2⟩
              clear hK9 K9
              simp only [List.setIfInBounds_toArray, List.set_cons_zero, List.set_cons_succ]
              refine wpAnyH_done (by kernel_rfl) ?_ _
              obtain ⟨p1, p2, p3⟩ := KidI.step (n0 := w.heap.size) (y := y) (F := F) hKB5 (by omega) HV.out HOWN.out HK.out hw7 hown8 hg8
              exact ⟨p1, p2, p3⟩
            · simp only [List.getElem_toArray, List.getElem_cons_succ, List.getElem_cons_zero]
              go_simp
              have hS7a : (w7.alloc (.cells #[.iface tq (.pointer (some ⟨bq, 0, none⟩))] 27)).cell? ⟨w1.heap.size, y.val, none⟩ = some (.slice A5 n5 c5) ∧ (w7.alloc (.cells #[.iface tq (.pointer (some ⟨bq, 0, none⟩))] 27)).cell? ⟨w.heap.size + 1, 0, none⟩ = some (.int .i64 (level : Nat)) := ⟨cell_allocL _ hS7.1, cell_allocL _ hS7.2⟩
              refine hK7.out _ _ hS7a (fun _ => ?_)
              clear hK7 K7
              simp only [List.setIfInBounds_toArray, List.set_cons_zero, List.set_cons_succ]
              refine wpAnyH_ready (rs := [8]) (by kernel_rfl) (by simp) ?_
              refine AllReadyH.cons rfl (fun K8 hK8 => ?_) (AllReadyH.nil)
              refine st_app1 (goodNode nt) rfl (.tmp 51) (.tmp 58) 115 rfl W5.heap.size 27 j0 .nilIface 16 Tryz.underlying115 HJ.out HJ0.out HJ1.out HJ2.out rfl (by decide) v (pre.map fun c => F c.val) rfl (HOWN.out.move (goodNode nt) (Moves.below hw7)) (F y.val) #[.iface tq (.pointer (some ⟨bq, 0, none⟩))] 27 (by go_simp) HN7.out (fun k hk => Nat.le_trans (Nat.le_trans HK.out.size hw7.size) hk) (by have := HLEN.out; omega) (by decide) (Nat.le_trans HK.out.size hw7.size) ?_
              intro v8 w8 hown8 hb8 hat8 hg8
              obtain ⟨A8, c8, rfl⟩ := (hown8.row (goodNode nt)).form
              rw [show ((pre.map fun c : Fin 32 => F c.val) ++ [F y.val]).length = pre.length + 1 by simp] at hown8
              have hne8 : ∀ k, k < W5.heap.size → some k ≠ v.ownBlock := fun k hk e => by have := (HOWN.out.lt k e.symm).1; omega
              have c9 : w8.cell? ⟨wr.heap.size, 0, none⟩ = some v := hg8.cell c7 (hne8 _ hKB5)
              have f9 : w8.frozen? ⟨wr.heap.size, 0, none⟩ = false := (World.frozen?_of_block (hg8.block wr.heap.size hw1 (hne8 _ hKB5))).trans f7
              have hS8 : w8.cell? ⟨w1.heap.size, y.val, none⟩ = some (.slice A5 n5 c5) ∧ w8.cell? ⟨w.heap.size + 1, 0, none⟩ = some (.int .i64 (level : Nat)) := ⟨hg8.cell hS7.1 (hne8 _ (by have := HWB.out; show w1.heap.size < _; omega)), hg8.cell hS7.2 (hne8 _ (by have := HWB.out; show w.heap.size + 1 < _; omega))⟩
              refine hK8.out _ _ hS8 (fun _ => ?_)
              clear hK8 K8
              simp only [List.setIfInBounds_toArray, List.set_cons_zero, List.set_cons_succ]
              refine wpAnyH_ready (rs := [9]) (by kernel_rfl) (by simp) ?_
              refine AllReadyH.cons rfl (fun K9 hK9 => ?_) (AllReadyH.nil)
              simp only [List.getElem_toArray, List.getElem_cons_succ, List.getElem_cons_zero]
              go_simp
              refine hK9.out _ _ ?s9 (fun _ => ?_)
              case s9 => exact ⟨(World.cell?_setCell_far _ _ _ _ (by show wr.heap.size ≠ w1.heap.size; have := HWB.out; omega)).trans hS8.1, (World.cell?_setCell_far _ _ _ _ (by show wr.heap.size ≠ w.heap.size + 1; have := HWB.out; omega)).trans hS8.2⟩
              clear hK9 K9
              simp only [List.setIfInBounds_toArray, List.set_cons_zero, List.set_cons_succ]
              refine wpAnyH_done (by kernel_rfl) ?_ _
              obtain ⟨p1, p2, p3⟩ := KidI.step (n0 := w.heap.size) (y := y) (F := F) hKB5 (by omega) HV.out HOWN.out HK.out hw7 hown8 hg8
              exact ⟨p1, p2, p3⟩
          · rcases hqf with rfl | ⟨tq, bq, rfl⟩
            · simp only [List.getElem_toArray, List.getElem_cons_succ, List.getElem_cons_zero]
              go_simp
              have hS7a : (w7.alloc (.cells #[.nilIface] 27)).cell? ⟨w1.heap.size, y.val, none⟩ = some (.slice A5 n5 c5) ∧ (w7.alloc (.cells #[.nilIface] 27)).cell? ⟨w.heap.size + 1, 0, none⟩ = some (.int .i64 (level : Nat)) := ⟨cell_allocL _ hS7.1, cell_allocL _ hS7.2⟩
              refine hK7.out _ _ hS7a (fun _ => ?_)
              clear hK7 K7
              simp only [List.setIfInBounds_toArray, List.set_cons_zero, List.set_cons_succ]
              refine wpAnyH_ready (rs := [0]) (by kernel_rfl) (by simp) ?_
              refine AllReadyH.cons rfl (fun K0 hK0 => ?_) (AllReadyH.nil)
              simp only [List.getElem_toArray, List.getElem_cons_zero]
              go_simp
              refine hK0.out _ _ hS7a (fun _ => ?_)
              clear hK0 K0
              simp only [List.setIfInBounds_toArray, List.set_cons_zero]
              refine wpAnyH_ready (rs := [8]) (by kernel_rfl) (by simp) ?_
              refine AllReadyH.cons rfl (fun K8 hK8 => ?_) (AllReadyH.nil)
              refine st_app1 (goodNode nt) rfl (.tmp 51) (.tmp 58) 115 rfl W5.heap.size 27 j0 .nilIface 16 Tryz.underlying115 HJ.out HJ0.out HJ1.out HJ2.out rfl (by decide) v (pre.map fun c => F c.val) rfl (HOWN.out.move (goodNode nt) (Moves.below hw7)) (F y.val) #[.nilIface] 27 (by go_simp) HN7.out (fun k hk => Nat.le_trans (Nat.le_trans HK.out.size hw7.size) hk) (by have := HLEN.out; omega) (by decide) (Nat.le_trans HK.out.size hw7.size) ?_
              intro v8 w8 hown8 hb8 hat8 hg8
              obtain ⟨A8, c8, rfl⟩ := (hown8.row (goodNode nt)).form
              rw [show ((pre.map fun c : Fin 32 => F c.val) ++ [F y.val]).length = pre.length + 1 by simp] at hown8
              have hne8 : ∀ k, k < W5.heap.size → some k ≠ v.ownBlock := fun k hk e => by have := (HOWN.out.lt k e.symm).1; omega
              have c9 : w8.cell? ⟨wr.heap.size, 0, none⟩ = some v := hg8.cell c7 (hne8 _ hKB5)
              have f9 : w8.frozen? ⟨wr.heap.size, 0, none⟩ = false := (World.frozen?_of_block (hg8.block wr.heap.size hw1 (hne8 _ hKB5))).trans f7
              have hS8 : w8.cell? ⟨w1.heap.size, y.val, none⟩ = some (.slice A5 n5 c5) ∧ w8.cell? ⟨w.heap.size + 1, 0, none⟩ = some (.int .i64 (level : Nat)) := ⟨hg8.cell hS7.1 (hne8 _ (by have := HWB.out; show w1.heap.size < _; omega)), hg8.cell hS7.2 (hne8 _ (by have := HWB.out; show w.heap.size + 1 < _; omega))⟩
              refine hK8.out _ _ hS8 (fun _ => ?_)
              clear hK8 K8
              simp only [List.setIfInBounds_toArray, List.set_cons_zero, List.set_cons_succ]
              refine wpAnyH_ready (rs := [9]) (by kernel_rfl) (by simp) ?_
              refine AllReadyH.cons rfl (fun K9 hK9 => ?_) (AllReadyH.nil)
              simp only [List.getElem_toArray, List.getElem_cons_succ, List.getElem_cons_zero]
              go_simp
              refine hK9.out _ _ ?s9 (fun _ => ?_)
              case s9 => exact ⟨(World.cell?_setCell_far _ _ _ _ (by show wr.heap.size ≠ w1.heap.size; have := HWB.out; omega)).trans hS8.1, (World.cell?_setCell_far _ _ _ _ (by show wr.heap.size ≠ w.heap.size + 1; have := HWB.out; omega)).trans hS8.2⟩
              clear hK9 K9
              simp only [List.setIfInBounds_toArray, List.set_cons_zero, List.set_cons_succ]
              refine wpAnyH_done (by kernel_rfl) ?_ _
              obtain ⟨p1, p2, p3⟩ := KidI.step (n0 := w.heap.size) (y := y) (F := F) hKB5 (by omega) HV.out HOWN.out HK.out hw7 hown8 hg8
              exact ⟨p1, p2, p3⟩
            · simp only [List.getElem_toArray, List.getElem_cons_succ, List.getElem_cons_zero]
              go_simp
              have hS7a : (w7.alloc (.cells #[.iface tq (.pointer (some ⟨bq, 0, none⟩))] 27)).cell? ⟨w1.heap.size, y.val, none⟩ = some (.slice A5 n5 c5) ∧ (w7.alloc (.cells #[.iface tq (.pointer (some ⟨bq, 0, none⟩))] 27)).cell? ⟨w.heap.size + 1, 0, none⟩ = some (.int .i64 (level : Nat)) := ⟨cell_allocL _ hS7.1, cell_allocL _ hS7.2⟩
              refine hK7.out _ _ hS7a (fun _ => ?_)
              clear hK7 K7
              simp only [List.setIfInBounds_toArray, List.set_cons_zero, List.set_cons_succ]
              refine wpAnyH_ready (rs := [0]) (by kernel_rfl) (by simp) ?_
              refine AllReadyH.cons rfl (fun K0 hK0 => ?_) (AllReadyH.nil)
              simp only [List.getElem_toArray, List.getElem_cons_zero]
              go_simp
              refine hK0.out _ _ hS7a (fun _ => ?_)
              clear hK0 K0
              simp only [List.setIfInBounds_toArray, List.set_cons_zero]
              refine wpAnyH_ready (rs := [8]) (by kernel_rfl) (by simp) ?_
              refine AllReadyH.cons rfl (fun K8 hK8 => ?_) (AllReadyH.nil)
              refine st_app1 (goodNode nt) rfl (.tmp 51) (.tmp 58) 115 rfl W5.heap.size 27 j0 .nilIface 16 Tryz.underlying115 HJ.out HJ0.out HJ1.out HJ2.out rfl (by decide) v (pre.map fun c => F c.val) rfl (HOWN.out.move (goodNode nt) (Moves.below hw7)) (F y.val) #[.iface tq (.pointer (some ⟨bq, 0, none⟩))] 27 (by go_simp) HN7.out (fun k hk => Nat.le_trans (Nat.le_trans HK.out.size hw7.size) hk) (by have := HLEN.out; omega) (by decide) (Nat.le_trans HK.out.size hw7.size) ?_
              intro v8 w8 hown8 hb8 hat8 hg8
              obtain ⟨A8, c8, rfl⟩ := (hown8.row (goodNode nt)).form
              rw [show ((pre.map fun c : Fin 32 => F c.val) ++ [F y.val]).length = pre.length + 1 by simp] at hown8
              have hne8 : ∀ k, k < W5.heap.size → some k ≠ v.ownBlock := fun k hk e => by have := (HOWN.out.lt k e.symm).1; omega
              have c9 : w8.cell? ⟨wr.heap.size, 0, none⟩ = some v := hg8.cell c7 (hne8 _ hKB5)
              have f9 : w8.frozen? ⟨wr.heap.size, 0, none⟩ = false := (World.frozen?_of_block (hg8.block wr.heap.size hw1 (hne8 _ hKB5))).trans f7
              have hS8 : w8.cell? ⟨w1.heap.size, y.val, none⟩ = some (.slice A5 n5 c5) ∧ w8.cell? ⟨w.heap.size + 1, 0, none⟩ = some (.int .i64 (level : Nat)) := ⟨hg8.cell hS7.1 (hne8 _ (by have := HWB.out; show w1.heap.size < _; omega)), hg8.cell hS7.2 (hne8 _ (by have := HWB.out; show w.heap.size + 1 < _; omega))⟩
              refine hK8.out _ _ hS8 (fun _ => ?_)
              clear hK8 K8
              simp only [List.setIfInBounds_toArray, List.set_cons_zero, List.set_cons_succ]
              refine wpAnyH_ready (rs := [9]) (by kernel_rfl) (by simp) ?_
              refine AllReadyH.cons rfl (fun K9 hK9 => ?_) (AllReadyH.nil)
              simp only [List.getElem_toArray, List.getElem_cons_succ, List.getElem_cons_zero]
              go_simp
              refine hK9.out _ _ ?s9 (fun _ => ?_)
              case s9 => exact ⟨(World.cell?_setCell_far _ _ _ _ (by show wr.heap.size ≠ w1.heap.size; have := HWB.out; omega)).trans hS8.1, (World.cell?_setCell_far _ _ _ _ (by show wr.heap.size ≠ w.heap.size + 1; have := HWB.out; omega)).trans hS8.2⟩
              clear hK9 K9
              simp only [List.setIfInBounds_toArray, List.set_cons_zero, List.set_cons_succ]
              refine wpAnyH_done (by kernel_rfl) ?_ _
              obtain ⟨p1, p2, p3⟩ := KidI.step (n0 := w.heap.size) (y := y) (F := F) hKB5 (by omega) HV.out HOWN.out HK.out hw7 hown8 hg8
              exact ⟨p1, p2, p3⟩
      case done =>
        rintro D ys W hD hS ⟨⟨v, hv, hown⟩, hK⟩ hKD
        have hys : (ys.map fun c : Fin 32 => F c.val) = (Bw.bitsOf mq).map F := by rw [← hS, List.map_map]; rfl
        rw [hys] at hown
        have hwK := HBWK.out W hK
        have hDl : D < W.heap.size := (Array.getElem?_eq_some_iff.1 hKD).1
        have hl32 : ((Bw.bitsOf mq).map F).length ≤ 32 := by rw [List.length_map, Bw.length_bitsOf]; exact Bw.ones_le 32 _
        have hrow : NodesAt nt (fun k => w.heap.size ≤ k ∧ k ≠ D) W v ((Bw.bitsOf mq).map F) := ((hown.row (goodNode nt)).onto (ontoNode nt)).move (goodNode nt) (Moves.onto fun k hk hc => ⟨⟨by omega, fun e => by
          subst e
          obtain ⟨x, hx, hxc⟩ := hc
          rw [hKD] at hx
          cases hx
          cases hxc⟩, rfl⟩)
        have CB := Lib.hid (branch_any W hrow hl32 HMQ.out (fun k hk => ⟨Nat.le_trans hwK.size hk, by omega⟩) HCNT.out)
        obtain ⟨A9, c9, rfl⟩ := hrow.form
        have d4 := hv.cell
        rw [List.length_map] at d4 CB
        have HWK := Lib.hid hwK; have HKD := Lib.hid hKD; have HDL := Lib.hid hDl; have HDW : Hid (w.heap.size ≤ D) := Lib.hid (by omega)
        clear hrow hown hv hK hKD hDl hwK hS hD
        go_wp2_with (refine CB.out.mono ?_; rintro e w2 ⟨r, rfl, hr, hb2⟩)
        have hK2 : w2.heap[D]? = some (.deferred (some [])) := (hb2.block D HDL.out).trans HKD.out
        refine ⟨by simp, .inl ⟨_, _, rfl, run_takeDeferred hK2, ?_⟩⟩
        refine ⟨_, results_tmp rfl _ _ _, r, rfl, hr.move fun j hj _ => ⟨hj.1, World.putObj_heap_other hj.2⟩, ?_⟩
        exact (HWK.out.trans (hb2.mono HWK.out.size)).trans (belowK_b (w := w) (Nat.le_refl _) w2 D _ _ HDW.out hK2 rfl rfl)
      case stop =>
        rintro D c pre W _ _ h _
        exact h.elim

/-- layout.lay: the layout of entries of unlike keys at a level -/
theorem lay_any : ∀ (f level : Nat) (l : List Bw.En) (ok : Nat → Prop) (v : Value) (w : World), LayOk level f l → EntsAt ok w v l → Tab w →
    Calls Tryz.prog 31 #[v, .int .i64 (level : Nat)] w (Gives w fun q w' => ONodeAt nt (fun k => w.heap.size ≤ k) w' q (Bw.layO f level l)) := by
  intro f
  induction f with
  | zero =>
    intro level l ok v w hL hr hT
    rcases Nat.eq_zero_or_pos l.length with h0 | hne
    · obtain ⟨A, c, rfl⟩ := hr.form
      have := List.eq_nil_of_length_eq_zero h0
      subst this
      exact (layA_any level A c w).mono fun e w' ⟨q, he, hq, hb⟩ => ⟨q, he, by rw [Bw.layO_nil]; exact hq, hb⟩
    · cases hany : l.any (fun x => decide (x.1 ≠ l[0].1)) with
      | false => rw [Bw.layO_same hne rfl hany]; exact layB_any hL.len hL.bytes hL.unlike.pairs hne rfl hany hr
      | true =>
        obtain ⟨a, b, ha, hb, hn⟩ := Bw.any_split hne rfl hany
        obtain ⟨r, hrr⟩ := hL.res
        have := hL.lv
        obtain rfl : level = 13 := by omega
        exact absurd (Bw.hash_end (hL.hash a ha) (hL.hash b hb) ((hrr a ha).trans (hrr b hb).symm)) hn
  | succ f ih =>
    intro level l ok v w hL hr hT
    rcases Nat.eq_zero_or_pos l.length with h0 | hne
    · obtain ⟨A, c, rfl⟩ := hr.form
      have := List.eq_nil_of_length_eq_zero h0
      subst this
      exact (layA_any level A c w).mono fun e w' ⟨q, he, hq, hb⟩ => ⟨q, he, by rw [Bw.layO_nil]; exact hq, hb⟩
    · cases hany : l.any (fun x => decide (x.1 ≠ l[0].1)) with
      | false => rw [Bw.layO_same hne rfl hany]; exact layB_any hL.len hL.bytes hL.unlike.pairs hne rfl hany hr
      | true => exact layC_any hL hne rfl hany hr hT fun l' ok' v' W h1 h2 h3 => ih (level + 1) l' ok' v' W h1 h2 h3
end Go.Proofs.YtehkjnmnbplcoaaGreatDoor
