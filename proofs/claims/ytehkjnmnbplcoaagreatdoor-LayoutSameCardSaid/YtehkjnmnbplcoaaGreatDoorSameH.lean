/- law16.Same of two branches; of any two nodes. -/
import Derived.Test.YtehkjnmnbplcoaaGreatDoorSameG
import Derived.Test.YtehkjnmnbplcoaaGreatDoorSameA
import Derived.Test.YtehkjnmnbplcoaaGreatDoorBwInj
import Derived.Deep.QuietTactic
import Derived.Deep.RegionHeld3
namespace Go.Proofs.YtehkjnmnbplcoaaGreatDoor
open Go.RowKit Go.Bw


/-- the children for the numbers met so far are one -/
def EqUpto (m : Nat) (kids kids2 : List Bw.N) (j : Nat) : Prop := ∀ c : Nat, c + 1 < j → c < 32 → m.testBit c = true → ∀ k k2, kids[Bw.ones c m]? = some k → kids2[Bw.ones c m]? = some k2 → k.eqv k2 = true

def SmRelG (m : Nat) (kids kids2 : List Bw.N) (w4 : World) (i : Value) (wr : World) : Prop := ∃ j : Nat, j ≤ 34 ∧ i = .int .i64 ((j : Int) - 1) ∧ EqUpto m kids kids2 j ∧ Below w4.heap.size w4 wr

theorem eq_upto_out {m j : Nat} {kids kids2 : List Bw.N} {c : Int} (h : EqUpto m kids kids2 j) (hc : c = (j : Int) - 1) (hin : ¬ (0 ≤ c ∧ c < 32 ∧ m.testBit c.toNat = true)) : EqUpto m kids kids2 (j + 1) := by
  intro d hd h32 ht
  by_cases e : d + 1 < j
  · exact h d e h32 ht
  · have : c.toNat = d := by omega
    exact absurd ⟨by omega, by omega, by rw [this]; exact ht⟩ hin

theorem eq_upto_in {m j : Nat} {kids kids2 : List Bw.N} {c : Int} {k k2 : Bw.N} (h : EqUpto m kids kids2 j) (hc : c = (j : Int) - 1) (h1 : kids[Bw.ones c.toNat m]? = some k) (h2 : kids2[Bw.ones c.toNat m]? = some k2) (he : k.eqv k2 = true) : EqUpto m kids kids2 (j + 1) := by
  intro d hd h32 ht a b ha hb
  by_cases e : d + 1 < j
  · exact h d e h32 ht a b ha hb
  · have : c.toNat = d := by omega
    rw [this] at h1 h2
    rw [h1] at ha; rw [h2] at hb
    injection ha with ha; injection hb with hb
    rw [← ha, ← hb]; exact he

theorem eqvL_not {k k2 : Bw.N} : ∀ {kids kids2 : List Bw.N} {i : Nat}, kids[i]? = some k → kids2[i]? = some k2 → k.eqv k2 = false → Bw.N.eqvL kids kids2 = false
  | [], _, _, h, _, _ => by simp at h
  | _ :: _, [], _, _, h, _ => by simp at h
  | a :: r, b :: s, 0, h1, h2, he => by
    simp only [List.getElem?_cons_zero, Option.some.injEq] at h1 h2
    subst h1 h2
    simp only [Bw.N.eqvL, he, Bool.false_and]
  | a :: r, b :: s, i + 1, h1, h2, he => by
    simp only [Bw.N.eqvL]
    rw [eqvL_not (kids := r) (kids2 := s) (i := i) (by simpa using h1) (by simpa using h2) he, Bool.and_false]

theorem eqvL_of : ∀ {kids kids2 : List Bw.N}, kids.length = kids2.length → (∀ (i : Nat) (k k2 : Bw.N), kids[i]? = some k → kids2[i]? = some k2 → k.eqv k2 = true) → Bw.N.eqvL kids kids2 = true
  | [], [], _, _ => rfl
  | [], _ :: _, h, _ => by simp at h
  | _ :: _, [], h, _ => by simp at h
  | a :: r, b :: s, h, he => by
    simp only [Bw.N.eqvL]
    rw [he 0 a b rfl rfl, eqvL_of (by simpa using h) fun i k k2 h1 h2 => he (i + 1) k k2 (by simpa using h1) (by simpa using h2)]
    rfl

theorem eqvL_all {m : Nat} {kids kids2 : List Bw.N} (h1 : kids.length = (Bw.bitsOf m).length) (h2 : kids2.length = (Bw.bitsOf m).length) (h : EqUpto m kids kids2 34) : Bw.N.eqvL kids kids2 = true := by
  refine eqvL_of (h1.trans h2.symm) fun i k k2 hk hk2 => ?_
  have hi : i < (Bw.bitsOf m).length := by rw [← h1]; exact (List.getElem?_eq_some_iff.1 hk).1
  obtain ⟨h32, ht⟩ := bits_mem.1 (List.getElem_mem hi)
  have hat := Bw.bitsOf_at m _ h32 ht
  obtain ⟨hl, he⟩ := List.getElem?_eq_some_iff.1 hat
  have e : Bw.ones ((Bw.bitsOf m)[i]) m = i := (List.getElem_inj (bits_nodup m)).1 he
  exact h _ (by omega) h32 ht k k2 (by rw [e]; exact hk) (by rw [e]; exact hk2)

set_option maxRecDepth 100000 in
set_option maxHeartbeats 4000000 in
theorem sg_branch {m : Nat} {kids kids2 : List Bw.N} {nv vp vs vk : Value} {w : World} (hn : NodeAt nt AllB w nv (.branch m kids)) (hp : SPairsAt AllB w vp []) (hs : NatsAt AllB w vs (Bw.bitsOf m)) (hk : RowAt 5 xK AllB w vk (kids2.map Bw.N.abs)) (hf : Bw.N.fit (.branch m kids)) (hl2 : kids2.length = (Bw.bitsOf m).length)
    (hih : ∀ k ∈ kids, ∀ k2 ∈ kids2, ∀ nv cs W, Below w.heap.size w W → NodeAt nt AllB W nv k → xK AllB W k2.abs cs → Calls Tryz.prog 20 #[nv, .agg cs.toArray] W fun e w' => e = .returned (.bool (k.eqv k2)) ∧ Below W.heap.size W w') :
    Calls Tryz.prog 20 #[nv, .agg #[.int .i64 3, .int .u64 0, vp, vs, vk]] w fun e w' => e = .returned (.bool (Bw.N.eqvL kids kids2)) ∧ Below w.heap.size w w' := by
  have C1 := Lib.hid (fun W (hW : Below w.heap.size w W) => hash_any (n := some (.branch m kids)) (NodeAt.move (Moves.below hW) _ _ hn))
  have C2 := Lib.hid (fun W (hW : Below w.heap.size w W) => pair_any (n := some (.branch m kids)) (NodeAt.move (Moves.below hW) _ _ hn) (by intro hh p' e; cases e))
  have C3 := Lib.hid (fun W (hW : Below w.heap.size w W) => tree_any (n := some (.branch m kids)) (NodeAt.move (Moves.below hW) _ _ hn))
  have C4 := Lib.hid (fun W (hW : Below w.heap.size w W) => map_any (n := some (.branch m kids)) (NodeAt.move (Moves.below hW) _ _ hn))
  have CKD := Lib.hid (fun c W (hW : Below w.heap.size w W) => kid_any (n := some (.branch m kids)) c (NodeAt.move (Moves.below hW) _ _ hn) (by intro m' k' e; cases e; exact ⟨hf.1, hf.2.1⟩))
  simp only [NodeAt] at hn
  obtain ⟨b, g, og, cg, rfl, _⟩ := hn
  obtain ⟨A1, c1, rfl⟩ := hp.form
  obtain ⟨A2, c2, rfl⟩ := hs.form
  obtain ⟨A3, c3, rfl⟩ := hk.form
  simp only [List.length_nil, List.length_map] at hp hk ⊢
  obtain ⟨hm32, hkl, hfl⟩ := hf
  have hmm := kindm_branch
  have HS := Lib.hid hs; have HK := Lib.hid hk; have HM32 := Lib.hid hm32; have HKL := Lib.hid hkl; have HKL2 := Lib.hid hl2; have HIH := Lib.hid hih
  have hwu : IntKind.u32.wrap (m : Int) = (m : Int) := by rw [IntKind.wrap_u32]; omega
  clear hkl hfl hp hs hk hih hl2
  go_enter Tryz.func20, Tryz.ntmps20
  go_wp2_with fail
  obtain ⟨W1, hW1⟩ : ∃ W1, (w.alloc (.cells #[.int .i64 3, .int .u64 0, .slice A1 0 c1, .slice A2 (Bw.bitsOf m).length c2, .slice A3 kids2.length c3] 37)) = W1 := ⟨_, rfl⟩
  have hB1 : Below w.heap.size w W1 := by rw [← hW1]; (repeat (first | exact Below.refl _ _ | with_reducible assumption | refine Below.drew ?_ | refine b_drewN ?_ _ | (refine Below.alloc ?_ (by simp) _) | (refine Below.alloc ?_ (by simp; omega) _)))
  have hs1 : w.heap.size < W1.heap.size := by rw [← hW1]; simp
  have x0 : W1.cell? ⟨w.heap.size, 0, none⟩ = some (.int .i64 3) := by subst hW1; go_simp
  have x1 : W1.cell? ⟨w.heap.size, 1, none⟩ = some (.int .u64 0) := by subst hW1; go_simp
  have x3 : W1.cell? ⟨w.heap.size, 3, none⟩ = some (.slice A2 (Bw.bitsOf m).length c2) := by subst hW1; go_simp
  have x4 : W1.cell? ⟨w.heap.size, 4, none⟩ = some (.slice A3 kids2.length c3) := by subst hW1; go_simp
  rw [hW1]
  clear hW1
  refine (C1.out _ hB1).mono ?_
  rintro e w1 ⟨rfl, rfl⟩
  simp only [hashO]
  go_wp2_with fail
  refine (C2.out _ hB1).mono ?_
  rintro e w2 ⟨r, rfl, hr, hb2⟩
  simp only [PairTold] at hr
  subst hr
  have x0 := (hb2.cell (p := ⟨w.heap.size, 0, none⟩) hs1).trans x0
  have x1 := (hb2.cell (p := ⟨w.heap.size, 1, none⟩) hs1).trans x1
  have x3 := (hb2.cell (p := ⟨w.heap.size, 3, none⟩) hs1).trans x3
  have x4 := (hb2.cell (p := ⟨w.heap.size, 4, none⟩) hs1).trans x4
  have hB2 := hB1.trans (hb2.mono hB1.size)
  have hs2 : w.heap.size < w2.heap.size := Nat.lt_of_lt_of_le hs1 hb2.size
  clear hb2
  have HB2 := Lib.hid hB2
  have hB3 : Below w2.heap.size w2 (w2.alloc (.cells #[.slice none 0 0, .slice none 0 0] 31)) := by (repeat (first | exact Below.refl _ _ | with_reducible assumption | refine Below.drew ?_ | refine b_drewN ?_ _ | (refine Below.alloc ?_ (by simp) _) | (refine Below.alloc ?_ (by simp; omega) _)))
  have HB3 := Lib.hid hB3
  clear hB1 hB2 hB3
  go_wp2_with fail
  refine (C3.out _ (HB2.out.trans (Below.mono (by (repeat (first | exact Below.refl _ _ | with_reducible assumption | refine Below.drew ?_ | refine b_drewN ?_ _ | (refine Below.alloc ?_ (by simp) _) | (refine Below.alloc ?_ (by simp; omega) _)))) HB2.out.size))).mono ?_
  rintro e w3 ⟨⟨r, rfl, ht⟩, rfl⟩
  simp only [TreeTold] at ht
  subst ht
  go_wp2_with fail
  refine (C4.out _ (HB2.out.trans (Below.mono (by (repeat (first | exact Below.refl _ _ | with_reducible assumption | refine Below.drew ?_ | refine b_drewN ?_ _ | (refine Below.alloc ?_ (by simp) _) | (refine Below.alloc ?_ (by simp; omega) _)))) HB2.out.size))).mono ?_
  rintro e w3 ⟨rfl, rfl⟩
  simp only [mapO]
  go_wp2_with fail
  have CK := Lib.hid (fun W => (kind_branch ⟨b, 0, none⟩ W).mono (R' := fun e w' => e = .returned (.int .i64 3) ∧ w' = W) (fun _ _ h => ⟨h.1, h.2.symm⟩))
  go_quiet ((go_at_call 143; exact Calls.quiet_of_same (CK.out _)))
  go_wp2_with fail
  obtain ⟨W4, hW4⟩ : ∃ W4, (w2.alloc (.cells #[.slice none 0 0, .slice none 0 0] 31)).drewN nq = W4 := ⟨_, rfl⟩
  have hs4 : w.heap.size < W4.heap.size := by subst hW4; simp; omega
  have y3 : W4.cell? ⟨w.heap.size, 3, none⟩ = some (.slice A2 (Bw.bitsOf m).length c2) := by subst hW4; go_simp
  have y4 : W4.cell? ⟨w.heap.size, 4, none⟩ = some (.slice A3 kids2.length c3) := by subst hW4; go_simp
  have HB4 : Hid (Below w.heap.size w W4) := Lib.hid (by subst hW4; exact HB2.out.trans (Below.mono (b_drewN HB3.out _) HB2.out.size))
  rw [hW4]
  clear hW4 x0 x1 x3 x4
  refine (rnumber_any HM32.out (HS.out.move goodNat (Moves.below HB4.out))).mono ?_
  rintro e w4 ⟨rfl, rfl⟩
  go_wp2_with fail
  have HY : Hid (∀ W, Below w4.heap.size w4 W → W.cell? ⟨w.heap.size, 3, none⟩ = some (.slice A2 (Bw.bitsOf m).length c2) ∧ W.cell? ⟨w.heap.size, 4, none⟩ = some (.slice A3 kids2.length c3)) := Lib.hid fun W hW => ⟨(hW.cell (p := ⟨w.heap.size, 3, none⟩) hs4).trans y3, (hW.cell (p := ⟨w.heap.size, 4, none⟩) hs4).trans y4⟩
  have H0 : Hid (SmRelG m kids kids2 w4 (.int .i64 (-1)) w4) := Lib.hid ⟨0, by omega, rfl, fun c hc => by omega, Below.refl _ _⟩
  clear y3 y4 hwu
  go_loopw [13] (SmRelG m kids kids2 w4) (fun i _ => (33 - intOf i).toNat)
  case atStart => exact H0.out
  case round =>
    obtain ⟨j, hj, rfl, hup, hB⟩ := hrel
    have HUP := Lib.hid hup
    clear hup
    have HB := Lib.hid hB
    have HBW := Lib.hid (HB4.out.trans (hB.mono HB4.out.size))
    clear hB
    obtain ⟨c, hc⟩ : ∃ c : Int, c = (j : Int) - 1 := ⟨_, rfl⟩
    rw [← hc]
    by_cases hlt : j < 34
    · have h33 : c < 33 := by omega
      have HCC := Lib.hid hc
      have HLT := Lib.hid hlt
      have hw1 : IntKind.i64.wrap (c + 1) = c + 1 := by rw [IntKind.wrap_i64]; omega
      clear hlt hc hj
      go_wp2_with fail
      refine (CKD.out c wr HBW.out).mono ?_
      rintro e w5 ⟨⟨r, rfl, hr⟩, n5, rfl⟩
      obtain ⟨W5, hW5⟩ : ∃ W5, wr.drewN n5 = W5 := ⟨_, rfl⟩
      have HB5 : Hid (Below w4.heap.size w4 W5) := Lib.hid (by rw [← hW5]; exact b_drewN HB.out _)
      have HM5 : Hid (Moves AllB AllB wr W5) := Lib.hid (by rw [← hW5]; exact Moves.drewN _ _)
      rw [hW5]
      clear hW5
      simp only [KidTold] at hr
      obtain ⟨y3, y4⟩ := HY.out W5 HB5.out
      have hs5 : w.heap.size < W5.heap.size := Nat.lt_of_lt_of_le hs4 HB5.out.size
      have HBW5 := Lib.hid (HB4.out.trans (HB5.out.mono HB4.out.size))
      by_cases hin : 0 ≤ c ∧ c < 32 ∧ m.testBit c.toNat = true
      · rw [if_pos hin] at hr
        obtain ⟨u, k, rfl, hk, hu⟩ := hr
        obtain ⟨t0, b0, rfl⟩ := hu.form
        have HU := Lib.hid (hu.move HM5.out)
        have HKK := Lib.hid hk
        have HIN := Lib.hid hin
        clear hk hu hin
        go_wp2_with fail
        go_loopw [16, 177] (AtRel (Bw.bitsOf m) c W5) (fun _ i _ => (Bw.bitsOf m).length - (intOf i).toNat)
        case atStart => exact ⟨0, -1, Nat.zero_le _, rfl, rfl, .inl ⟨rfl, by simp⟩, rfl⟩
        case round =>
          obtain ⟨i, at_, hi, rfl, rfl, hat, rfl⟩ := hrel
          by_cases hil : i < (Bw.bitsOf m).length
          · obtain ⟨bs, os, cs, rfl, rfl, hcs⟩ := HS.out.get (List.getElem?_eq_getElem hil)
            have e0 := (hcs 0 _ rfl).2
            simp only [Nat.mul_one, Nat.add_zero, encN] at e0
            have hble := World.block_lt_of_cell? w _ e0
            dsimp only at hble
            have e1 := (HBW5.out.cell (p := ⟨bs, os + i, none⟩) hble).trans e0
            have hble2 : bs < W5.heap.size := Nat.lt_of_lt_of_le hble HBW5.out.size
            have g0 : (0 : Int) ≤ (i : Int) := by omega
            have g1 : (i : Int) < ((Bw.bitsOf m).length : Int) := by omega
            have HAT := Lib.hid hat
            have hb32 : (Bw.bitsOf m).length ≤ 1048576 := Nat.le_trans (List.length_filter_le _ _) (by simp)
            have HB32 := Lib.hid hb32
            have HX : Hid ((Bw.bitsOf m)[i]? = some ((Bw.bitsOf m)[i])) := Lib.hid (List.getElem?_eq_getElem hil)
            generalize (Bw.bitsOf m)[i] = x at *
            clear hcs e0 hat hb32
            by_cases hxc : (x : Int) = c
            · have hbe : ((x : Int) == c) = true := by rw [hxc]; exact beq_self_eq_true _
              have HXC := Lib.hid hxc
              clear hxc
              go_wp2
              exact ⟨⟨i + 1, i, hil, rfl, int_succ hil HB32.out, .inr ⟨i, Nat.lt_succ_self _, rfl, x, HX.out, HXC.out⟩, rfl⟩, less_succ hil HB32.out⟩
            · have hbe : ((x : Int) == c) = false := beq_eq_false_iff_ne.2 hxc
              have HXC := Lib.hid hxc
              clear hxc
              go_wp2
              exact ⟨⟨i + 1, at_, hil, rfl, int_succ hil HB32.out, at_step HAT.out HX.out HXC.out, rfl⟩, less_succ hil HB32.out⟩
          · obtain rfl : i = (Bw.bitsOf m).length := by omega
            clear hil
            obtain ⟨hatv, hlenk⟩ := same_at_in HIN.out hat
            subst hatv
            have hjk := HKK.out
            have hjl : Bw.ones c.toNat m < kids2.length := by rw [HKL2.out]; exact hlenk
            have hjk2 : kids2[Bw.ones c.toNat m]? = some (kids2[Bw.ones c.toNat m]) := List.getElem?_eq_getElem hjl
            have hmem2 : kids2[Bw.ones c.toNat m] ∈ kids2 := List.getElem_mem hjl
            have hxk : (kids2.map Bw.N.abs)[Bw.ones c.toNat m]? = some (kids2[Bw.ones c.toNat m]).abs := by rw [List.getElem?_map, hjk2]; rfl
            have HJK := Lib.hid (And.intro hjk hjk2)
            generalize kids2[Bw.ones c.toNat m] = k2 at *
            obtain ⟨bk, ob, cs, rfl, hy, hcells⟩ := HK.out.get hxk
            have hmem : k ∈ kids := List.mem_of_getElem? hjk
            have CS := Lib.hid (HIH.out k hmem k2 hmem2 _ cs W5 HBW5.out HU.out (XAt.move (Moves.below HBW5.out) _ _ hy))
            have hpl : (Bw.ones c.toNat m : Nat) < kids2.length := hjl
            generalize k2.abs = y at *
            have HONE : Hid (∃ pl0, pl0 = Bw.ones c.toNat m) := Lib.hid ⟨_, rfl⟩
            obtain ⟨yk, yh, yp, ys, yy⟩ := y
            rw [xK_iff] at hy
            obtain ⟨yvp, yvs, yvk, rfl, q1, q2, q3⟩ := hy
            obtain ⟨B1, e1, rfl⟩ := q1.form
            obtain ⟨B2, e2, rfl⟩ := q2.form
            obtain ⟨B3, e3, rfl⟩ := q3.form
            have z0 := (hcells 0 _ rfl).2; have z1 := (hcells 1 _ rfl).2; have z2 := (hcells 2 _ rfl).2; have z3 := (hcells 3 _ rfl).2; have z4 := (hcells 4 _ rfl).2
            have hblk := World.block_lt_of_cell? w _ z0
            dsimp only at hblk
            obtain ⟨pl, hpl0⟩ : ∃ pl, Bw.ones c.toNat m = pl := ⟨_, rfl⟩
            have HPL := Lib.hid hpl0
            rw [hpl0] at z0 z1 z2 z3 z4 hpl ⊢
            clear hpl0 HONE
            have d0 := (HBW5.out.cell (p := ⟨bk, ob + (pl * 5 + 0), none⟩) hblk).trans z0
            have d1 := (HBW5.out.cell (p := ⟨bk, ob + (pl * 5 + 1), none⟩) hblk).trans z1
            have d2 := (HBW5.out.cell (p := ⟨bk, ob + (pl * 5 + 2), none⟩) hblk).trans z2
            have d3 := (HBW5.out.cell (p := ⟨bk, ob + (pl * 5 + 3), none⟩) hblk).trans z3
            have d4 := (HBW5.out.cell (p := ⟨bk, ob + (pl * 5 + 4), none⟩) hblk).trans z4
            simp only [Nat.add_zero, ← Nat.add_assoc] at d0 d1 d2 d3 d4
            have hblk5 : bk < W5.heap.size := Nat.lt_of_lt_of_le hblk HBW5.out.size
            have p0 : (0 : Int) ≤ (pl : Int) := by omega
            have p1 : (pl : Int) < (kids2.length : Int) := by omega
            clear z0 z1 z2 z3 z4 hcells hjk hjk2 hjl hmem2 hxk hmem q1 q2 q3 hat hpl hlenk HK HKK HPL
            go_wp2_with fail
            refine CS.out.mono ?_
            rintro e w6 ⟨rfl, hb6⟩
            have HB6 := Lib.hid (HB5.out.trans (hb6.mono HB5.out.size))
            have HBW6 := Lib.hid (HBW5.out.trans (hb6.mono HBW5.out.size))
            clear hb6
            cases hkk : k.eqv k2 with
            | true =>
              have HKE := Lib.hid hkk
              clear hkk
              go_wp2
              exact ⟨⟨j + 1, by have := HLT.out; omega, by rw [HCC.out]; congr 1; omega, eq_upto_in HUP.out HCC.out HJK.out.1 HJK.out.2 HKE.out, HB6.out⟩, by simp only [intOf]; omega⟩
            | false =>
              have HKE : Hid (Bw.N.eqvL kids kids2 = false) := Lib.hid (eqvL_not HJK.out.1 HJK.out.2 hkk)
              clear hkk
              go_wp2
              go_ret
              exact ⟨by rw [HKE.out]; rfl, HBW6.out⟩
      · rw [if_neg hin] at hr
        subst hr
        have HIN := Lib.hid hin
        clear hin
        go_wp2_with fail
        go_loopw [16, 177] (AtRel (Bw.bitsOf m) c W5) (fun _ i _ => (Bw.bitsOf m).length - (intOf i).toNat)
        case atStart => exact ⟨0, -1, Nat.zero_le _, rfl, rfl, .inl ⟨rfl, by simp⟩, rfl⟩
        case round =>
          obtain ⟨i, at_, hi, rfl, rfl, hat, rfl⟩ := hrel
          by_cases hil : i < (Bw.bitsOf m).length
          · obtain ⟨bs, os, cs, rfl, rfl, hcs⟩ := HS.out.get (List.getElem?_eq_getElem hil)
            have e0 := (hcs 0 _ rfl).2
            simp only [Nat.mul_one, Nat.add_zero, encN] at e0
            have hble := World.block_lt_of_cell? w _ e0
            dsimp only at hble
            have e1 := (HBW5.out.cell (p := ⟨bs, os + i, none⟩) hble).trans e0
            have hble2 : bs < W5.heap.size := Nat.lt_of_lt_of_le hble HBW5.out.size
            have g0 : (0 : Int) ≤ (i : Int) := by omega
            have g1 : (i : Int) < ((Bw.bitsOf m).length : Int) := by omega
            have HAT := Lib.hid hat
            have hb32 : (Bw.bitsOf m).length ≤ 1048576 := Nat.le_trans (List.length_filter_le _ _) (by simp)
            have HB32 := Lib.hid hb32
            have HX : Hid ((Bw.bitsOf m)[i]? = some ((Bw.bitsOf m)[i])) := Lib.hid (List.getElem?_eq_getElem hil)
            generalize (Bw.bitsOf m)[i] = x at *
            clear hcs e0 hat hb32
            by_cases hxc : (x : Int) = c
            · have hbe : ((x : Int) == c) = true := by rw [hxc]; exact beq_self_eq_true _
              have HXC := Lib.hid hxc
              clear hxc
              go_wp2
              exact ⟨⟨i + 1, i, hil, rfl, int_succ hil HB32.out, .inr ⟨i, Nat.lt_succ_self _, rfl, x, HX.out, HXC.out⟩, rfl⟩, less_succ hil HB32.out⟩
            · have hbe : ((x : Int) == c) = false := beq_eq_false_iff_ne.2 hxc
              have HXC := Lib.hid hxc
              clear hxc
              go_wp2
              exact ⟨⟨i + 1, at_, hil, rfl, int_succ hil HB32.out, at_step HAT.out HX.out HXC.out, rfl⟩, less_succ hil HB32.out⟩
          · obtain rfl : i = (Bw.bitsOf m).length := by omega
            clear hil
            obtain rfl := same_at_out HIN.out hat
            clear hat
            go_wp2
            exact ⟨⟨j + 1, by have := HLT.out; omega, by rw [HCC.out]; congr 1; omega, eq_upto_out HUP.out HCC.out HIN.out, HB5.out⟩, by simp only [intOf]; omega⟩
    · have h33 : ¬ c < 33 := by omega
      have h34 : j = 34 := by omega
      have HE : Hid (Bw.N.eqvL kids kids2 = true) := Lib.hid (eqvL_all HKL.out HKL2.out (h34 ▸ HUP.out))
      clear hlt hc
      go_wp2
      go_ret
      exact ⟨by rw [HE.out]; rfl, HBW.out⟩


set_option maxRecDepth 100000 in
set_option maxHeartbeats 1000000 in
theorem sg_leaf_zero {h : Nat} {p : Bw.PV} {gx l1 c1 l2 c2 l3 c3 : Nat} {A1 A2 A3 : Option Addr} {nv : Value} {w : World} (hn : NodeAt nt AllB w nv (.leaf h p)) (hf : Bw.N.fit (.leaf h p)) :
    Calls Tryz.prog 20 #[nv, .agg #[.int .i64 0, .int .u64 (gx : Nat), .slice A1 l1 c1, .slice A2 l2 c2, .slice A3 l3 c3]] w fun e w' => e = .returned (.bool false) ∧ Below w.heap.size w w' := by
  have C1 := Lib.hid (fun W (hW : Below w.heap.size w W) => hash_any (n := some (.leaf h p)) (NodeAt.move (Moves.below hW) _ _ hn))
  have C2 := Lib.hid (fun W (hW : Below w.heap.size w W) => pair_any (n := some (.leaf h p)) (NodeAt.move (Moves.below hW) _ _ hn) (by intro hh p' e; cases e; exact hf))
  have C3 := Lib.hid (fun W (hW : Below w.heap.size w W) => tree_any (n := some (.leaf h p)) (NodeAt.move (Moves.below hW) _ _ hn))
  have C4 := Lib.hid (fun W (hW : Below w.heap.size w W) => map_any (n := some (.leaf h p)) (NodeAt.move (Moves.below hW) _ _ hn))
  simp only [NodeAt] at hn
  obtain ⟨b, u1, u2, rfl, _⟩ := hn
  clear hf
  go_enter Tryz.func20, Tryz.ntmps20
  go_wp2_with fail
  obtain ⟨W1, hW1⟩ : ∃ W1, (w.alloc (.cells #[.int .i64 0, .int .u64 (gx : Nat), .slice A1 l1 c1, .slice A2 l2 c2, .slice A3 l3 c3] 37)) = W1 := ⟨_, rfl⟩
  have hB1 : Below w.heap.size w W1 := by rw [← hW1]; (repeat (first | exact Below.refl _ _ | with_reducible assumption | refine Below.drew ?_ | refine b_drewN ?_ _ | (refine Below.alloc ?_ (by simp) _) | (refine Below.alloc ?_ (by simp; omega) _)))
  have hs1 : w.heap.size < W1.heap.size := by rw [← hW1]; simp
  have x0 : W1.cell? ⟨w.heap.size, 0, none⟩ = some (.int .i64 0) := by subst hW1; go_simp
  rw [hW1]
  clear hW1
  refine (C1.out _ hB1).mono ?_
  rintro e w1 ⟨rfl, rfl⟩
  simp only [hashO]
  go_wp2_with fail
  refine (C2.out _ hB1).mono ?_
  rintro e w2 ⟨r, rfl, hr, hb2⟩
  simp only [PairTold] at hr
  obtain ⟨v1, v2, rfl, hv1, hv2⟩ := hr
  obtain ⟨V1, k1, rfl⟩ := hv1.form
  obtain ⟨V2, k2, rfl⟩ := hv2.form
  have x0 := (hb2.cell (p := ⟨w.heap.size, 0, none⟩) hs1).trans x0
  have hB2 := hB1.trans (hb2.mono hB1.size)
  have hs2 : w.heap.size < w2.heap.size := Nat.lt_of_lt_of_le hs1 hb2.size
  clear hb2
  clear hv1 hv2
  have HB2 := Lib.hid hB2
  have hB3 : Below w2.heap.size w2 (w2.alloc (.cells #[.slice V1 p.1.length k1, .slice V2 p.2.length k2] 31)) := by (repeat (first | exact Below.refl _ _ | with_reducible assumption | refine Below.drew ?_ | refine b_drewN ?_ _ | (refine Below.alloc ?_ (by simp) _) | (refine Below.alloc ?_ (by simp; omega) _)))
  have HB3 := Lib.hid hB3
  clear hB1 hB2 hB3
  go_wp2_with fail
  refine (C3.out _ (HB2.out.trans (Below.mono (by (repeat (first | exact Below.refl _ _ | with_reducible assumption | refine Below.drew ?_ | refine b_drewN ?_ _ | (refine Below.alloc ?_ (by simp) _) | (refine Below.alloc ?_ (by simp; omega) _)))) HB2.out.size))).mono ?_
  rintro e w3 ⟨⟨r, rfl, ht⟩, rfl⟩
  simp only [TreeTold] at ht
  subst ht
  go_wp2_with fail
  refine (C4.out _ (HB2.out.trans (Below.mono (by (repeat (first | exact Below.refl _ _ | with_reducible assumption | refine Below.drew ?_ | refine b_drewN ?_ _ | (refine Below.alloc ?_ (by simp) _) | (refine Below.alloc ?_ (by simp; omega) _)))) HB2.out.size))).mono ?_
  rintro e w3 ⟨rfl, rfl⟩
  simp only [mapO]
  go_wp2_with fail
  go_ret
  exact ⟨rfl, HB2.out.trans (HB3.out.mono HB2.out.size)⟩

set_option maxRecDepth 100000 in
set_option maxHeartbeats 1000000 in
theorem sg_bucket_zero {h : Nat} {t : Bw.T} {gx l1 c1 l2 c2 l3 c3 : Nat} {A1 A2 A3 : Option Addr} {nv : Value} {w : World} (hn : NodeAt nt AllB w nv (.bucket h t)) :
    Calls Tryz.prog 20 #[nv, .agg #[.int .i64 0, .int .u64 (gx : Nat), .slice A1 l1 c1, .slice A2 l2 c2, .slice A3 l3 c3]] w fun e w' => e = .returned (.bool false) ∧ Below w.heap.size w w' := by
  have C1 := Lib.hid (fun W (hW : Below w.heap.size w W) => hash_any (n := some (.bucket h t)) (NodeAt.move (Moves.below hW) _ _ hn))
  have C2 := Lib.hid (fun W (hW : Below w.heap.size w W) => pair_any (n := some (.bucket h t)) (NodeAt.move (Moves.below hW) _ _ hn) (by intro hh p' e; cases e))
  have C3 := Lib.hid (fun W (hW : Below w.heap.size w W) => tree_any (n := some (.bucket h t)) (NodeAt.move (Moves.below hW) _ _ hn))
  have C4 := Lib.hid (fun W (hW : Below w.heap.size w W) => map_any (n := some (.bucket h t)) (NodeAt.move (Moves.below hW) _ _ hn))
  simp only [NodeAt] at hn
  obtain ⟨b, tv, rfl, _⟩ := hn

  go_enter Tryz.func20, Tryz.ntmps20
  go_wp2_with fail
  obtain ⟨W1, hW1⟩ : ∃ W1, (w.alloc (.cells #[.int .i64 0, .int .u64 (gx : Nat), .slice A1 l1 c1, .slice A2 l2 c2, .slice A3 l3 c3] 37)) = W1 := ⟨_, rfl⟩
  have hB1 : Below w.heap.size w W1 := by rw [← hW1]; (repeat (first | exact Below.refl _ _ | with_reducible assumption | refine Below.drew ?_ | refine b_drewN ?_ _ | (refine Below.alloc ?_ (by simp) _) | (refine Below.alloc ?_ (by simp; omega) _)))
  have hs1 : w.heap.size < W1.heap.size := by rw [← hW1]; simp
  have x0 : W1.cell? ⟨w.heap.size, 0, none⟩ = some (.int .i64 0) := by subst hW1; go_simp
  rw [hW1]
  clear hW1
  refine (C1.out _ hB1).mono ?_
  rintro e w1 ⟨rfl, rfl⟩
  simp only [hashO]
  go_wp2_with fail
  refine (C2.out _ hB1).mono ?_
  rintro e w2 ⟨r, rfl, hr, hb2⟩
  simp only [PairTold] at hr
  subst hr
  have x0 := (hb2.cell (p := ⟨w.heap.size, 0, none⟩) hs1).trans x0
  have hB2 := hB1.trans (hb2.mono hB1.size)
  have hs2 : w.heap.size < w2.heap.size := Nat.lt_of_lt_of_le hs1 hb2.size
  clear hb2
  have HB2 := Lib.hid hB2
  have hB3 : Below w2.heap.size w2 (w2.alloc (.cells #[.slice none 0 0, .slice none 0 0] 31)) := by (repeat (first | exact Below.refl _ _ | with_reducible assumption | refine Below.drew ?_ | refine b_drewN ?_ _ | (refine Below.alloc ?_ (by simp) _) | (refine Below.alloc ?_ (by simp; omega) _)))
  have HB3 := Lib.hid hB3
  clear hB1 hB2 hB3
  go_wp2_with fail
  refine (C3.out _ (HB2.out.trans (Below.mono (by (repeat (first | exact Below.refl _ _ | with_reducible assumption | refine Below.drew ?_ | refine b_drewN ?_ _ | (refine Below.alloc ?_ (by simp) _) | (refine Below.alloc ?_ (by simp; omega) _)))) HB2.out.size))).mono ?_
  rintro e w3 ⟨⟨r, rfl, ht⟩, rfl⟩
  simp only [TreeTold] at ht
  obtain ⟨tv2, rfl, htv⟩ := ht
  obtain ⟨AT, rfl⟩ := htv.form
  have HTV := Lib.hid htv
  clear htv
  go_wp2_with fail
  refine (C4.out _ (HB2.out.trans (Below.mono (by (repeat (first | exact Below.refl _ _ | with_reducible assumption | refine Below.drew ?_ | refine b_drewN ?_ _ | (refine Below.alloc ?_ (by simp) _) | (refine Below.alloc ?_ (by simp; omega) _)))) HB2.out.size))).mono ?_
  rintro e w3 ⟨rfl, rfl⟩
  simp only [mapO]
  go_wp2_with fail
  go_ret
  exact ⟨rfl, HB2.out.trans (HB3.out.mono HB2.out.size)⟩

set_option maxRecDepth 100000 in
set_option maxHeartbeats 1000000 in
theorem sg_branch_zero {m : Nat} {kids : List Bw.N} {gx l1 c1 l2 c2 l3 c3 : Nat} {A1 A2 A3 : Option Addr} {nv : Value} {w : World} (hn : NodeAt nt AllB w nv (.branch m kids)) :
    Calls Tryz.prog 20 #[nv, .agg #[.int .i64 0, .int .u64 (gx : Nat), .slice A1 l1 c1, .slice A2 l2 c2, .slice A3 l3 c3]] w fun e w' => e = .returned (.bool false) ∧ Below w.heap.size w w' := by
  have C1 := Lib.hid (fun W (hW : Below w.heap.size w W) => hash_any (n := some (.branch m kids)) (NodeAt.move (Moves.below hW) _ _ hn))
  have C2 := Lib.hid (fun W (hW : Below w.heap.size w W) => pair_any (n := some (.branch m kids)) (NodeAt.move (Moves.below hW) _ _ hn) (by intro hh p' e; cases e))
  have C3 := Lib.hid (fun W (hW : Below w.heap.size w W) => tree_any (n := some (.branch m kids)) (NodeAt.move (Moves.below hW) _ _ hn))
  have C4 := Lib.hid (fun W (hW : Below w.heap.size w W) => map_any (n := some (.branch m kids)) (NodeAt.move (Moves.below hW) _ _ hn))
  simp only [NodeAt] at hn
  obtain ⟨b, g, og, cg, rfl, _⟩ := hn

  go_enter Tryz.func20, Tryz.ntmps20
  go_wp2_with fail
  obtain ⟨W1, hW1⟩ : ∃ W1, (w.alloc (.cells #[.int .i64 0, .int .u64 (gx : Nat), .slice A1 l1 c1, .slice A2 l2 c2, .slice A3 l3 c3] 37)) = W1 := ⟨_, rfl⟩
  have hB1 : Below w.heap.size w W1 := by rw [← hW1]; (repeat (first | exact Below.refl _ _ | with_reducible assumption | refine Below.drew ?_ | refine b_drewN ?_ _ | (refine Below.alloc ?_ (by simp) _) | (refine Below.alloc ?_ (by simp; omega) _)))
  have hs1 : w.heap.size < W1.heap.size := by rw [← hW1]; simp
  have x0 : W1.cell? ⟨w.heap.size, 0, none⟩ = some (.int .i64 0) := by subst hW1; go_simp
  rw [hW1]
  clear hW1
  refine (C1.out _ hB1).mono ?_
  rintro e w1 ⟨rfl, rfl⟩
  simp only [hashO]
  go_wp2_with fail
  refine (C2.out _ hB1).mono ?_
  rintro e w2 ⟨r, rfl, hr, hb2⟩
  simp only [PairTold] at hr
  subst hr
  have x0 := (hb2.cell (p := ⟨w.heap.size, 0, none⟩) hs1).trans x0
  have hB2 := hB1.trans (hb2.mono hB1.size)
  have hs2 : w.heap.size < w2.heap.size := Nat.lt_of_lt_of_le hs1 hb2.size
  clear hb2
  have HB2 := Lib.hid hB2
  have hB3 : Below w2.heap.size w2 (w2.alloc (.cells #[.slice none 0 0, .slice none 0 0] 31)) := by (repeat (first | exact Below.refl _ _ | with_reducible assumption | refine Below.drew ?_ | refine b_drewN ?_ _ | (refine Below.alloc ?_ (by simp) _) | (refine Below.alloc ?_ (by simp; omega) _)))
  have HB3 := Lib.hid hB3
  clear hB1 hB2 hB3
  go_wp2_with fail
  refine (C3.out _ (HB2.out.trans (Below.mono (by (repeat (first | exact Below.refl _ _ | with_reducible assumption | refine Below.drew ?_ | refine b_drewN ?_ _ | (refine Below.alloc ?_ (by simp) _) | (refine Below.alloc ?_ (by simp; omega) _)))) HB2.out.size))).mono ?_
  rintro e w3 ⟨⟨r, rfl, ht⟩, rfl⟩
  simp only [TreeTold] at ht
  subst ht
  go_wp2_with fail
  refine (C4.out _ (HB2.out.trans (Below.mono (by (repeat (first | exact Below.refl _ _ | with_reducible assumption | refine Below.drew ?_ | refine b_drewN ?_ _ | (refine Below.alloc ?_ (by simp) _) | (refine Below.alloc ?_ (by simp; omega) _)))) HB2.out.size))).mono ?_
  rintro e w3 ⟨rfl, rfl⟩
  simp only [mapO]
  go_wp2_with fail
  go_ret
  exact ⟨rfl, HB2.out.trans (HB3.out.mono HB2.out.size)⟩

set_option maxRecDepth 100000 in
set_option maxHeartbeats 1000000 in
theorem sg_nil {kx gx l1 c1 l2 c2 l3 c3 : Nat} {A1 A2 A3 : Option Addr} {w : World} (h0 : kx ≠ 0) :
    Calls Tryz.prog 20 #[.nilIface, .agg #[.int .i64 (kx : Nat), .int .u64 (gx : Nat), .slice A1 l1 c1, .slice A2 l2 c2, .slice A3 l3 c3]] w fun e w' => e = .returned (.bool false) ∧ Below w.heap.size w w' := by
  have hk0 : ((kx : Int) == 0) = false := by rw [beq_eq_false_iff_ne]; omega
  have he := fun (W : World) => (show (binOp .eql 27 .nilIface .nilIface).run Tryz.prog W = .ok (.bool true) W by rfl)
  have C1 := Lib.hid (fun W => hash_any (w := W) (v := .nilIface) (n := none) (ok := AllB) rfl)
  have C2 := Lib.hid pair_none
  have C3 := Lib.hid (fun W => tree_any (w := W) (v := .nilIface) (n := none) (ok := AllB) rfl)
  have C4 := Lib.hid (fun W => map_any (w := W) (v := .nilIface) (n := none) (ok := AllB) rfl)
  clear h0
  go_enter Tryz.func20, Tryz.ntmps20
  go_wp2_with fail
  refine (C1.out _).mono ?_
  rintro e w1 ⟨rfl, rfl⟩
  simp only [hashO]
  obtain ⟨W1, hW1⟩ : ∃ W1, (w.alloc (.cells #[.int .i64 (kx : Nat), .int .u64 (gx : Nat), .slice A1 l1 c1, .slice A2 l2 c2, .slice A3 l3 c3] 37)) = W1 := ⟨_, rfl⟩
  have hB1 : Below w.heap.size w W1 := by rw [← hW1]; (repeat (first | exact Below.refl _ _ | with_reducible assumption | refine Below.drew ?_ | refine b_drewN ?_ _ | (refine Below.alloc ?_ (by simp) _) | (refine Below.alloc ?_ (by simp; omega) _)))
  have hs1 : w.heap.size < W1.heap.size := by rw [← hW1]; simp
  have x0 : W1.cell? ⟨w.heap.size, 0, none⟩ = some (.int .i64 (kx : Nat)) := by subst hW1; go_simp
  rw [hW1]
  clear hW1
  go_wp2_with fail
  refine (C2.out _).mono ?_
  rintro e w2 ⟨rfl, hb2⟩
  have x0 := (hb2.cell (p := ⟨w.heap.size, 0, none⟩) hs1).trans x0
  have hB2 := Lib.hid (hB1.trans (hb2.mono hB1.size))
  have hs2 : w.heap.size < w2.heap.size := Nat.lt_of_lt_of_le hs1 hb2.size
  clear hb2 hB1
  go_wp2_with fail
  refine (C3.out _).mono ?_
  rintro e w3 ⟨⟨r, rfl, ht⟩, rfl⟩
  simp only [TreeTold] at ht
  subst ht
  go_wp2_with fail
  refine (C4.out _).mono ?_
  rintro e w3 ⟨rfl, rfl⟩
  simp only [mapO]
  go_wp2_with fail
  have hB3 : Below w2.heap.size w2 (w2.alloc (.cells #[.slice none 0 0, .slice none 0 0] 31)) := by (repeat (first | exact Below.refl _ _ | with_reducible assumption | refine Below.drew ?_ | refine b_drewN ?_ _ | (refine Below.alloc ?_ (by simp) _) | (refine Below.alloc ?_ (by simp; omega) _)))
  have HB3 := Lib.hid hB3
  clear hB3
  go_quiet (fail)
  go_wp2
  go_ret
  exact ⟨rfl, hB2.out.trans (Below.mono (b_drewN HB3.out _) hB2.out.size)⟩

set_option maxRecDepth 100000 in
set_option maxHeartbeats 1000000 in
theorem sg_branch_map {m m2 : Nat} {kids kids2 : List Bw.N} {nv vp vs vk : Value} {w : World} (hn : NodeAt nt AllB w nv (.branch m kids)) (hp : SPairsAt AllB w vp []) (hs : NatsAt AllB w vs (Bw.bitsOf m2)) (hk : RowAt 5 xK AllB w vk (kids2.map Bw.N.abs)) (hf : Bw.N.fit (.branch m kids)) (hm2 : m2 < 4294967296) (hne : m ≠ m2) :
    Calls Tryz.prog 20 #[nv, .agg #[.int .i64 3, .int .u64 0, vp, vs, vk]] w fun e w' => e = .returned (.bool false) ∧ Below w.heap.size w w' := by
  have C1 := Lib.hid (fun W (hW : Below w.heap.size w W) => hash_any (n := some (.branch m kids)) (NodeAt.move (Moves.below hW) _ _ hn))
  have C2 := Lib.hid (fun W (hW : Below w.heap.size w W) => pair_any (n := some (.branch m kids)) (NodeAt.move (Moves.below hW) _ _ hn) (by intro hh p' e; cases e))
  have C3 := Lib.hid (fun W (hW : Below w.heap.size w W) => tree_any (n := some (.branch m kids)) (NodeAt.move (Moves.below hW) _ _ hn))
  have C4 := Lib.hid (fun W (hW : Below w.heap.size w W) => map_any (n := some (.branch m kids)) (NodeAt.move (Moves.below hW) _ _ hn))
  simp only [NodeAt] at hn
  obtain ⟨b, g, og, cg, rfl, _⟩ := hn
  obtain ⟨A1, c1, rfl⟩ := hp.form
  obtain ⟨A2, c2, rfl⟩ := hs.form
  obtain ⟨A3, c3, rfl⟩ := hk.form
  simp only [List.length_nil, List.length_map] at hp hk ⊢
  obtain ⟨hm32, hkl, hfl⟩ := hf
  have hmm := kindm_branch
  have HS := Lib.hid hs; have HK := Lib.hid hk; have HM32 := Lib.hid hm32; have HKL := Lib.hid hkl; have HM2 := Lib.hid hm2; have hgg : ((m : Int) != (m2 : Int)) = true := by rw [bne_iff_ne]; omega
  have hwu : IntKind.u32.wrap (m : Int) = (m : Int) := by rw [IntKind.wrap_u32]; omega
  clear hkl hfl hp hs hk hm2 hne
  go_enter Tryz.func20, Tryz.ntmps20
  go_wp2_with fail
  obtain ⟨W1, hW1⟩ : ∃ W1, (w.alloc (.cells #[.int .i64 3, .int .u64 0, .slice A1 0 c1, .slice A2 (Bw.bitsOf m2).length c2, .slice A3 kids2.length c3] 37)) = W1 := ⟨_, rfl⟩
  have hB1 : Below w.heap.size w W1 := by rw [← hW1]; (repeat (first | exact Below.refl _ _ | with_reducible assumption | refine Below.drew ?_ | refine b_drewN ?_ _ | (refine Below.alloc ?_ (by simp) _) | (refine Below.alloc ?_ (by simp; omega) _)))
  have hs1 : w.heap.size < W1.heap.size := by rw [← hW1]; simp
  have x0 : W1.cell? ⟨w.heap.size, 0, none⟩ = some (.int .i64 3) := by subst hW1; go_simp
  have x1 : W1.cell? ⟨w.heap.size, 1, none⟩ = some (.int .u64 0) := by subst hW1; go_simp
  have x3 : W1.cell? ⟨w.heap.size, 3, none⟩ = some (.slice A2 (Bw.bitsOf m2).length c2) := by subst hW1; go_simp
  have x4 : W1.cell? ⟨w.heap.size, 4, none⟩ = some (.slice A3 kids2.length c3) := by subst hW1; go_simp
  rw [hW1]
  clear hW1
  refine (C1.out _ hB1).mono ?_
  rintro e w1 ⟨rfl, rfl⟩
  simp only [hashO]
  go_wp2_with fail
  refine (C2.out _ hB1).mono ?_
  rintro e w2 ⟨r, rfl, hr, hb2⟩
  simp only [PairTold] at hr
  subst hr
  have x0 := (hb2.cell (p := ⟨w.heap.size, 0, none⟩) hs1).trans x0
  have x1 := (hb2.cell (p := ⟨w.heap.size, 1, none⟩) hs1).trans x1
  have x3 := (hb2.cell (p := ⟨w.heap.size, 3, none⟩) hs1).trans x3
  have x4 := (hb2.cell (p := ⟨w.heap.size, 4, none⟩) hs1).trans x4
  have hB2 := hB1.trans (hb2.mono hB1.size)
  have hs2 : w.heap.size < w2.heap.size := Nat.lt_of_lt_of_le hs1 hb2.size
  clear hb2
  have HB2 := Lib.hid hB2
  have hB3 : Below w2.heap.size w2 (w2.alloc (.cells #[.slice none 0 0, .slice none 0 0] 31)) := by (repeat (first | exact Below.refl _ _ | with_reducible assumption | refine Below.drew ?_ | refine b_drewN ?_ _ | (refine Below.alloc ?_ (by simp) _) | (refine Below.alloc ?_ (by simp; omega) _)))
  have HB3 := Lib.hid hB3
  clear hB1 hB2 hB3
  go_wp2_with fail
  refine (C3.out _ (HB2.out.trans (Below.mono (by (repeat (first | exact Below.refl _ _ | with_reducible assumption | refine Below.drew ?_ | refine b_drewN ?_ _ | (refine Below.alloc ?_ (by simp) _) | (refine Below.alloc ?_ (by simp; omega) _)))) HB2.out.size))).mono ?_
  rintro e w3 ⟨⟨r, rfl, ht⟩, rfl⟩
  simp only [TreeTold] at ht
  subst ht
  go_wp2_with fail
  refine (C4.out _ (HB2.out.trans (Below.mono (by (repeat (first | exact Below.refl _ _ | with_reducible assumption | refine Below.drew ?_ | refine b_drewN ?_ _ | (refine Below.alloc ?_ (by simp) _) | (refine Below.alloc ?_ (by simp; omega) _)))) HB2.out.size))).mono ?_
  rintro e w3 ⟨rfl, rfl⟩
  simp only [mapO]
  go_wp2_with fail
  have CK := Lib.hid (fun W => (kind_branch ⟨b, 0, none⟩ W).mono (R' := fun e w' => e = .returned (.int .i64 3) ∧ w' = W) (fun _ _ h => ⟨h.1, h.2.symm⟩))
  go_quiet ((go_at_call 143; exact Calls.quiet_of_same (CK.out _)))
  go_wp2_with fail
  obtain ⟨W4, hW4⟩ : ∃ W4, (w2.alloc (.cells #[.slice none 0 0, .slice none 0 0] 31)).drewN nq = W4 := ⟨_, rfl⟩
  have hs4 : w.heap.size < W4.heap.size := by subst hW4; simp; omega
  have y3 : W4.cell? ⟨w.heap.size, 3, none⟩ = some (.slice A2 (Bw.bitsOf m2).length c2) := by subst hW4; go_simp
  have y4 : W4.cell? ⟨w.heap.size, 4, none⟩ = some (.slice A3 kids2.length c3) := by subst hW4; go_simp
  have HB4 : Hid (Below w.heap.size w W4) := Lib.hid (by subst hW4; exact HB2.out.trans (Below.mono (b_drewN HB3.out _) HB2.out.size))
  rw [hW4]
  clear hW4 x0 x1 x3 x4
  refine (rnumber_any HM2.out (HS.out.move goodNat (Moves.below HB4.out))).mono ?_
  rintro e w4 ⟨rfl, rfl⟩
  go_wp2
  go_ret
  exact ⟨rfl, HB4.out⟩

/-- of two nodes it is told whether they are one -/
theorem sg_node (n : Bw.N) : ∀ (n2 : Bw.N) (nv : Value) (cs : List Value) (w : World), NodeAt nt AllB w nv n → xK AllB w n2.abs cs → n.fit → n2.fit →
    Calls Tryz.prog 20 #[nv, .agg cs.toArray] w fun e w' => e = .returned (.bool (n.eqv n2)) ∧ Below w.heap.size w w' := by
  refine Bw.N.ind (P := fun n => ∀ (n2 : Bw.N) (nv : Value) (cs : List Value) (w : World), NodeAt nt AllB w nv n → xK AllB w n2.abs cs → n.fit → n2.fit →
    Calls Tryz.prog 20 #[nv, .agg cs.toArray] w fun e w' => e = .returned (.bool (n.eqv n2)) ∧ Below w.heap.size w w') ?_ ?_ ?_ n
  · intro h p n2 nv cs w hn hx hf hf2
    cases n2 with
    | leaf g q =>
      obtain ⟨vp, vs, vk, rfl, h1, h2, h3⟩ := xK_iff.1 hx
      obtain ⟨A2, c2, rfl⟩ := h2.form
      obtain ⟨A3, c3, rfl⟩ := h3.form
      by_cases hg : g = h
      · subst hg
        have := sg_leaf (l2 := 0) (c2 := c2) (l3 := 0) (c3 := c3) (A2 := A2) (A3 := A3) hn hf h1
        have e : (Bw.N.leaf g p).eqv (.leaf g q) = (p == q) := by simp [Bw.N.eqv]
        rw [e]
        exact this
      · obtain ⟨A1, c1, rfl⟩ := h1.form
        have e : (Bw.N.leaf h p).eqv (.leaf g q) = false := by simp only [Bw.N.eqv]; rw [beq_eq_false_iff_ne.2 (fun e => hg e.symm), Bool.false_and]
        rw [e]
        exact sg_leaf_hash hn hf hg
    | bucket g s =>
      obtain ⟨vp, vs, vk, rfl, h1, h2, h3⟩ := xK_iff.1 hx
      obtain ⟨A1, c1, rfl⟩ := h1.form
      obtain ⟨A2, c2, rfl⟩ := h2.form
      obtain ⟨A3, c3, rfl⟩ := h3.form
      exact sg_leaf_kind (kx := 2) hn hf (by decide) (by decide)
    | branch m2 k2 =>
      obtain ⟨vp, vs, vk, rfl, h1, h2, h3⟩ := xK_iff.1 hx
      obtain ⟨A1, c1, rfl⟩ := h1.form
      obtain ⟨A2, c2, rfl⟩ := h2.form
      obtain ⟨A3, c3, rfl⟩ := h3.form
      exact sg_leaf_kind (kx := 3) (gx := 0) hn hf (by decide) (by decide)
  · intro h t n2 nv cs w hn hx hf hf2
    cases n2 with
    | bucket g s =>
      obtain ⟨vp, vs, vk, rfl, h1, h2, h3⟩ := xK_iff.1 hx
      obtain ⟨A2, c2, rfl⟩ := h2.form
      obtain ⟨A3, c3, rfl⟩ := h3.form
      by_cases hg : g = h
      · subst hg
        have := sg_bucket (l2 := 0) (c2 := c2) (l3 := 0) (c3 := c3) (A2 := A2) (A3 := A3) hn h1 hf
        have e : (Bw.N.bucket g t).eqv (.bucket g s) = decide (t.list = s.list) := by
          simp only [Bw.N.eqv, beq_self_eq_true, Bool.true_and]
          rw [Bool.eq_iff_iff, beq_iff_eq, decide_eq_true_iff]
        rw [e]
        exact this
      · obtain ⟨A1, c1, rfl⟩ := h1.form
        have e : (Bw.N.bucket h t).eqv (.bucket g s) = false := by simp only [Bw.N.eqv]; rw [beq_eq_false_iff_ne.2 (fun e => hg e.symm), Bool.false_and]
        rw [e]
        exact sg_bucket_hash hn hg
    | leaf g q =>
      obtain ⟨vp, vs, vk, rfl, h1, h2, h3⟩ := xK_iff.1 hx
      obtain ⟨A1, c1, rfl⟩ := h1.form
      obtain ⟨A2, c2, rfl⟩ := h2.form
      obtain ⟨A3, c3, rfl⟩ := h3.form
      exact sg_bucket_kind (kx := 1) hn (by decide) (by decide)
    | branch m2 k2 =>
      obtain ⟨vp, vs, vk, rfl, h1, h2, h3⟩ := xK_iff.1 hx
      obtain ⟨A1, c1, rfl⟩ := h1.form
      obtain ⟨A2, c2, rfl⟩ := h2.form
      obtain ⟨A3, c3, rfl⟩ := h3.form
      exact sg_bucket_kind (kx := 3) (gx := 0) hn (by decide) (by decide)
  · intro m kids ih n2 nv cs w hn hx hf hf2
    cases n2 with
    | branch m2 kids2 =>
      obtain ⟨vp, vs, vk, rfl, h1, h2, h3⟩ := xK_iff.1 hx
      rw [Bw.N.absL_eq] at h3
      have hff := hf
      have hff2 := hf2
      simp only [Bw.N.fit, Bw.N.fitL_iff] at hff hff2
      by_cases hm : m = m2
      · subst hm
        have e : (Bw.N.branch m kids).eqv (.branch m kids2) = Bw.N.eqvL kids kids2 := by simp [Bw.N.eqv]
        rw [e]
        exact sg_branch hn h1 h2 h3 hf hff2.2.1 fun k hk k2 hk2 nv cs W _ hn hx => ih k hk k2 nv cs W hn hx (hff.2.2 k hk) (hff2.2.2 k2 hk2)
      · have e : (Bw.N.branch m kids).eqv (.branch m2 kids2) = false := by simp only [Bw.N.eqv]; rw [beq_eq_false_iff_ne.2 hm, Bool.false_and]
        rw [e]
        exact sg_branch_map hn h1 h2 h3 hf hff2.1 hm
    | leaf g q =>
      obtain ⟨vp, vs, vk, rfl, h1, h2, h3⟩ := xK_iff.1 hx
      obtain ⟨A1, c1, rfl⟩ := h1.form
      obtain ⟨A2, c2, rfl⟩ := h2.form
      obtain ⟨A3, c3, rfl⟩ := h3.form
      exact sg_branch_kind (kx := 1) hn (by decide) (by decide)
    | bucket g s =>
      obtain ⟨vp, vs, vk, rfl, h1, h2, h3⟩ := xK_iff.1 hx
      obtain ⟨A1, c1, rfl⟩ := h1.form
      obtain ⟨A2, c2, rfl⟩ := h2.form
      obtain ⟨A3, c3, rfl⟩ := h3.form
      exact sg_branch_kind (kx := 2) hn (by decide) (by decide)

theorem sgO_any {a b : Option Bw.N} {nv : Value} {cs : List Value} {w : World} (hn : ONodeAt nt AllB w nv a) (hx : xK AllB w (Bw.absO b) cs) (hfa : ∀ n, a = some n → n.fit) (hfb : ∀ n, b = some n → n.fit) :
    Calls Tryz.prog 20 #[nv, .agg cs.toArray] w fun e w' => e = .returned (.bool (Bw.eqvO a b)) ∧ Below w.heap.size w w' := by
  cases a with
  | none =>
    cases b with
    | none => exact sameO_any (o := none) hn hx (fun n e => by cases e)
    | some k =>
      cases hn
      obtain ⟨kx, hk, hx'⟩ : ∃ kx, k.abs = .mk kx k.abs.hash k.abs.pairs k.abs.set k.abs.kids ∧ kx ≠ 0 := by
        cases k with
        | leaf h p => exact ⟨1, rfl, by decide⟩
        | bucket h t => exact ⟨2, rfl, by decide⟩
        | branch m ks => exact ⟨3, rfl, by decide⟩
      have hx2 : xK AllB w k.abs cs := hx
      rw [hk] at hx2
      obtain ⟨vp, vs, vk, rfl, h1, h2, h3⟩ := xK_iff.1 hx2
      obtain ⟨A1, c1, rfl⟩ := h1.form
      obtain ⟨A2, c2, rfl⟩ := h2.form
      obtain ⟨A3, c3, rfl⟩ := h3.form
      exact sg_nil hx'
  | some n =>
    cases b with
    | some k => exact sg_node n k nv cs w hn hx (hfa n rfl) (hfb k rfl)
    | none =>
      obtain ⟨vp, vs, vk, rfl, h1, h2, h3⟩ := xK_iff.1 hx
      obtain ⟨A1, c1, rfl⟩ := h1.form
      obtain ⟨A2, c2, rfl⟩ := h2.form
      obtain ⟨A3, c3, rfl⟩ := h3.form
      cases n with
      | leaf h p => exact sg_leaf_zero (gx := 0) hn (hfa _ rfl)
      | bucket h t => exact sg_bucket_zero (gx := 0) hn
      | branch m ks => exact sg_branch_zero (gx := 0) hn
end Go.Proofs.YtehkjnmnbplcoaaGreatDoor
