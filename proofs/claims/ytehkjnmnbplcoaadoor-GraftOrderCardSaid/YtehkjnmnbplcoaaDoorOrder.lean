
import Derived.Test.YtehkjnmnbplcoaaDoorGA
import Derived.Test.YtehkjnmnbplcoaaDoorLSame
import Derived.Lib.ConvBytes
import Derived.Deep.DeepCutAuto
import Derived.Deep.RegionHeldLaw
namespace Go.Proofs.YtehkjnmnbplcoaaDoor
open Go.RowKit Go.Bw

/-! ### []byte(s): a row of its own -/
theorem run_unconv (w : World) (l : Bw.Bytes) (hl : l.length ≤ maxLen) : ∃ v' w', (convert 9 29 (.string ⟨l.toArray⟩)).run Tryd.prog w = .ok v' w' ∧ BytesAt (fun k => w.heap.size ≤ k) w' v' l ∧ Below w.heap.size w w' := by
  have hsz : (⟨l.toArray⟩ : ByteArray).size = l.length := by simp [ByteArray.size]
  refine ⟨_, _, Lib.run_convert_string_bytes w 9 29 5 ⟨l.toArray⟩ Tryd.underlying9 Tryd.underlying29 Tryd.underlying5, ?_, ⟨rfl, rfl, rfl, by rw [Lib.bytesWorld_size]; omega, fun k hk => Lib.bytesWorld_at_old w _ _ k hk⟩⟩
  rw [hsz]
  refine ⟨_, _, rfl, grownCap_ge _ _ _ _, grownCap_le_maxLen _ _ _ _ hl, (fun e => by cases e), (fun ad e _ => by cases e; rfl), fun j x hj => ⟨_, [encB x], rfl, rfl, fun i u hu => ⟨Nat.le_refl _, ?_⟩⟩⟩
  cases i with
  | succ i => simp at hu
  | zero =>
    simp only [List.getElem?_cons_zero, Option.some.injEq] at hu
    subst hu
    have hjl := (List.getElem?_eq_some_iff.1 hj).1
    have := Lib.bytesWorld_cell w 5 ⟨l.toArray⟩ j (by rw [hsz]; exact hjl)
    simp only [Nat.mul_one, Nat.add_zero, Nat.zero_add]
    rw [this]
    simp [encB, hj]

/-- the same, at every world: the world behind it as a letter -/
theorem fun_unconv (l : Bw.Bytes) (hl : l.length ≤ maxLen) : ∃ (fa : World → Option Addr) (fc : World → Nat) (fw : World → World), ∀ W, (convert 9 29 (.string ⟨l.toArray⟩)).run Tryd.prog W = .ok (.slice (fa W) l.length (fc W)) (fw W) ∧ BytesAt AllB (fw W) (.slice (fa W) l.length (fc W)) l ∧ Below W.heap.size W (fw W) := by
  have key : ∀ W, ∃ (A : Option Addr) (c : Nat) (w' : World), (convert 9 29 (.string ⟨l.toArray⟩)).run Tryd.prog W = .ok (.slice A l.length c) w' ∧ BytesAt AllB w' (.slice A l.length c) l ∧ Below W.heap.size W w' := by
    intro W
    obtain ⟨v', w', h1, h2, h3⟩ := run_unconv W l hl
    obtain ⟨A, c, rfl⟩ := h2.form
    exact ⟨A, c, w', h1, h2.move goodByte (Moves.weaken fun _ _ _ => trivial), h3⟩
  exact ⟨fun W => Classical.choose (key W), fun W => Classical.choose (Classical.choose_spec (key W)), fun W => Classical.choose (Classical.choose_spec (Classical.choose_spec (key W))), fun W => Classical.choose_spec (Classical.choose_spec (Classical.choose_spec (key W)))⟩

theorem below_step {A B C : World} (h : Below A.heap.size A B) (k : Below B.heap.size B C) : Below A.heap.size A C := h.trans (k.mono h.size)

theorem wrap_small {a b : Nat} (ha : a ≤ 1000) (hb : b ≤ 1000) : wrap64 ((a : Int) + (b : Int)) = ((a + b : Nat) : Int) := by unfold wrap64; omega
theorem wrap_one {a : Nat} (ha : a ≤ 1000) : wrap64 (a : Int) = (a : Int) := by unfold wrap64; omega
theorem wrap_less {a b : Nat} (hb : b ≤ a) (ha : a ≤ 1000) : wrap64 ((a : Int) - (b : Int)) = ((a - b : Nat) : Int) := by unfold wrap64; omega

theorem turned_int {n k s : Nat} (hk : k < n) (hn : n ≤ 40) (hs : s < 256) : (wrap64 (wrap64 (wrap64 ((n : Int) - 1) - (k : Int)) + wrap64 (s : Int))).tmod (n : Int) = ((Bw.turnedAt n s k : Nat) : Int) := by
  have w1 : wrap64 ((n : Int) - 1) = ((n - 1 : Nat) : Int) := wrap_less (b := 1) (by omega) (by omega)
  rw [w1, wrap_less (by omega) (by omega), wrap_one (by omega), wrap_small (by omega) (by omega)]
  rfl

def MLoop (l : List Bw.PV) (w : World) (m i : Value) (wr : World) : Prop :=
  ∃ k : Nat, k ≤ l.length ∧ i = .int .i64 k ∧ SPairsAt AllB wr m (Bw.come (l.take k)) ∧ Below w.heap.size w wr

def OLoop (t : List Nat) (m : List Bw.PV) (s : Nat) (w : World) (a b i : Value) (wr : World) : Prop :=
  ∃ (k : Nat) (oa ob : Option Bw.N), k ≤ m.length ∧ i = .int .i64 k ∧ ONodeAt nt AllB wr a oa ∧ Bw.OLays 0 oa (Bw.entries t (Bw.come (m.take k))) ∧ ONodeAt nt AllB wr b ob ∧ Bw.OLays 0 ob (Bw.entries t (Bw.come ((Bw.turned m s).take k))) ∧ Below w.heap.size w wr

theorem fit_thin (n : Bw.N) : n.fit → n.thin := by
  refine Bw.N.ind (P := fun n => n.fit → n.thin) ?_ ?_ ?_ n
  · intro h p _; trivial
  · intro h t _; trivial
  · intro m kids ih hf
    simp only [Bw.N.fit, Bw.N.fitL_iff] at hf
    simp only [Bw.N.thin, Bw.N.thinL_iff]
    exact ⟨hf.1, fun k hk => ih k hk (hf.2.2 k hk)⟩

theorem olays_slim {t : List Nat} {m : List Bw.PV} {o : Option Bw.N} (ht : ∀ x ∈ t, x < 18446744073709551616) (hm : MapOk m) (hl : m.length ≤ 1000) (h : Bw.OLays 0 o (Bw.entries t m)) : ∀ n, o = some n → Slim n := by
  rintro n rfl
  have hu := Bw.unlike_entries (t := t) hm.rises
  obtain ⟨_, h2, h3⟩ := lays_visits h _ hu (fun _ => Iff.rfl) (by decide) ⟨0, fun _ _ => Nat.mod_one _⟩ (entries_hash ht)
  have h4 := Bw.lays_count h _ hu (fun _ => Iff.rfl)
  rw [Bw.length_entries] at h3 h4
  refine ⟨olays_fit hm h n rfl, fun x hx => Nat.le_trans (h2 x hx) (by decide), ?_⟩
  rw [vol_wtE, held_count, h4]
  omega

theorem olays_same {t : List Nat} {m : List Bw.PV} {a b : Option Bw.N} (ht : ∀ x ∈ t, x < 18446744073709551616) (hm : MapOk m) (ha : Bw.OLays 0 a (Bw.entries t m)) (hb : Bw.OLays 0 b (Bw.entries t m)) : sameB a b = true := by
  have h := Bw.absO_same (fun n e => fit_thin n (olays_fit hm ha n e)) (fun n e => fit_thin n (olays_fit hm hb n e)) ((olays_abs ht hm ha).symm.trans (olays_abs ht hm hb)) 0
  unfold sameB
  rw [h.1, h.2]
  simp

set_option maxRecDepth 100000 in
set_option maxHeartbeats 4000000 in
theorem order_any {t : List Nat} {l : List Bw.PV} {tv v : Value} {s : Nat} {w : World} (hs : s < 256) (ht : ∀ x ∈ t, x < 18446744073709551616) (hr : PairsAt AllB w v l) (htr : RowAt 1 natK64 AllB w tv t) (hT : Tab w) :
    Calls Tryd.prog 5 #[tv, v, .int .u8 (s : Nat)] w fun e w' => e = .returned (.bool true) ∧ Below w.heap.size w w' := by
  obtain ⟨A, c, rfl⟩ := hr.form
  obtain ⟨AT, ct, rfl⟩ := htr.form
  have CF := Lib.hid (fine19_any 40 (by decide) htr hr)
  have CA := Lib.hid (fun W (hW : Below w.heap.size w W) => awake19_any W (hT.below hT.pos hW))
  cases hfine : fine19 t l 40 with
  | false =>
    rw [hfine] at CF
    clear hr htr ht hfine hT
    go_enter Tryd.func5, Tryd.ntmps5
    go_wp2_with fail
    refine CF.out.mono ?_
    rintro e w1 ⟨rfl, hb1⟩
    go_wp2_with fail
    refine (CA.out _ hb1).mono ?_
    rintro e w2 ⟨rfl, hb2⟩
    have HB := Lib.hid (hb1.trans (hb2.mono hb1.size))
    clear hb1 hb2
    go_wp2
    go_ret
    exact ⟨rfl, HB.out⟩
  | true =>
    rw [hfine] at CF
    obtain ⟨ht200, hl40, hby⟩ := fine19_parts hfine
    have HL : Hid (l.length ≤ 1048576) := Lib.hid (by omega)
    have ht1 : t.length ≤ 1048576 := by omega
    have HM : Hid (∀ k, MapOk (Bw.come (l.take k))) := Lib.hid fun k => mapOk_come (Nat.le_trans (List.length_take_le' _ _) (by omega)) fun p hp => hby p (List.mem_of_mem_take hp)
    have HBY := Lib.hid hby; have HR := Lib.hid hr; have HTR := Lib.hid htr; have HT1 := Lib.hid ht1; have HTT := Lib.hid ht; have HTAB := Lib.hid hT; have HL40 := Lib.hid hl40; have HS := Lib.hid hs
    clear hr htr ht hfine hT ht200 hl40 hby ht1 hs
    go_enter Tryd.func5, Tryd.ntmps5
    go_wp2_with fail
    refine CF.out.mono ?_
    rintro e w1 ⟨rfl, hb1⟩
    have H0 : Hid (MLoop l w (.slice none 0 0) (.int .i64 0) w1) := Lib.hid ⟨0, Nat.zero_le _, rfl, RowAt.nil, hb1⟩
    clear hb1
    go_wp2_with fail
    go_loopw [7, 22] (MLoop l w) (fun _ i _ => l.length - (intOf i).toNat)
    case atStart => exact H0.out
    case round =>
      obtain ⟨j, hk, rfl, hMv, hB⟩ := hrel
      by_cases hlt : j < l.length
      · obtain ⟨b, off, u1, u2, rfl, hob, c0, c1, hu, hv⟩ := pair_get HR.out (List.getElem?_eq_getElem hlt)
        obtain ⟨U1, cu1, rfl⟩ := hu.form
        obtain ⟨U2, cu2, rfl⟩ := hv.form
        have hbl := World.block_lt_of_cell? w _ c0
        dsimp only at hbl
        have d0 := (hB.cell (p := ⟨b, off + j * 2, none⟩) hbl).trans c0
        have d1 := (hB.cell (p := ⟨b, off + j * 2 + 1, none⟩) hbl).trans c1
        have hbl2 : b < wr.heap.size := Nat.lt_of_lt_of_le hbl hB.size
        have h0 : (0 : Int) ≤ (j : Int) := by omega
        have h1 : (j : Int) < (l.length : Int) := by omega
        have hq := HBY.out l[j] (List.getElem_mem hlt)
        have hcs : Bw.come (l.take (j + 1)) = Bw.put (Bw.come (l.take j)) l[j] := by rw [take_succ_snoc hlt, come_snoc]
        have hmk := HM.out j
        generalize l[j] = q at *
        obtain ⟨qx, qy⟩ := q
        dsimp only at *
        generalize hm : Bw.come (l.take j) = m at *
        obtain ⟨W1, hW1⟩ : ∃ W1, wr.alloc (.cells #[.slice U1 qx.length cu1, .slice U2 qy.length cu2] 31) = W1 := ⟨_, rfl⟩
        have hb1 : Below wr.heap.size wr W1 := by rw [← hW1]; (repeat (first | exact Below.refl _ _ | with_reducible assumption | refine Below.drew ?_ | refine b_drewN ?_ _ | (refine Below.alloc ?_ (by first | omega | (simp <;> omega)) _)))
        have hs1 : wr.heap.size < W1.heap.size := by rw [← hW1]; simp
        have x0 : W1.cell? ⟨wr.heap.size, 0, none⟩ = some (.slice U1 qx.length cu1) := by rw [← hW1]; exact cell_new wr 0 _ _ 0 _ rfl
        have x1 : W1.cell? ⟨wr.heap.size, 1, none⟩ = some (.slice U2 qy.length cu2) := by rw [← hW1]; exact cell_new wr 0 _ _ 1 _ rfl
        have hB1 := hB.trans (hb1.mono hB.size)
        have HQ1 := run_conv (P := Tryd.prog) 29 9 5 Tryd.underlying29 Tryd.underlying5 Tryd.underlying9 (hu.move goodByte (Moves.below hB1))
        have HQ2 := run_conv (P := Tryd.prog) 29 9 5 Tryd.underlying29 Tryd.underlying5 Tryd.underlying9 (hv.move goodByte (Moves.below hB1))
        have CU := Lib.hid (rput_any (px := qx) (py := qy) (Nat.le_trans hmk.len (by decide)) hq.1 (fun q hq => (hmk.bytes q hq).1) (hMv.move goodSp (Moves.below hb1)) hmk.rises)
        have HLT := Lib.hid hlt
        have HCS := Lib.hid hcs
        have HB1 := Lib.hid hB1
        obtain ⟨AM, cm, rfl⟩ := hMv.form
        have q1 : (convert 29 9 (.slice U1 qx.length cu1)).run Tryd.prog (wr.alloc (.cells #[.slice U1 qx.length cu1, .slice U2 qy.length cu2] 31)) = .ok (.string ⟨qx.toArray⟩) W1 := by rw [hW1]; exact HQ1
        clear hu hv c0 c1 hb1 hB1 hlt hW1 hmk hcs hMv hB hq H0 CF CA
        go_wp2_with fail
        refine CU.out.mono ?_
        rintro e w3 ⟨mv3, rfl, hm3, hb3⟩
        obtain ⟨A3, c3, rfl⟩ := hm3.form
        have HM3 := Lib.hid ((hm3.move (ok' := AllB) goodSp (Moves.weaken fun _ _ _ => trivial)))
        have HB3 := Lib.hid (HB1.out.trans (hb3.mono HB1.out.size))
        clear hm3 hb3
        go_wp2
        exact ⟨⟨_, HLT.out, int_succ HLT.out HL.out, by rw [HCS.out]; exact HM3.out, HB3.out⟩, less_succ HLT.out HL.out⟩
      · obtain rfl : j = l.length := by omega
        rw [List.take_length] at hMv
        have hmk := HM.out l.length
        rw [List.take_length] at hmk
        have hml : (Bw.come l).length ≤ 40 := Nat.le_trans (Bw.length_come l) HL40.out
        generalize Bw.come l = m at *
        obtain ⟨AM, cm, rfl⟩ := hMv.form
        obtain ⟨wM, rfl⟩ : ∃ wM, wM = wr := ⟨_, rfl⟩
        have HMV := Lib.hid hMv; have HMK := Lib.hid hmk; have HML := Lib.hid hml; have HBM := Lib.hid hB
        have H1 : Hid (OLoop t m s wM .nilIface .nilIface (.int .i64 0) wM) := Lib.hid ⟨0, none, none, Nat.zero_le _, rfl, rfl, rfl, rfl, rfl, Below.refl _ _⟩
        clear hMv hmk hml hB H0 CF hlt hk
        go_wp2_with fail
        go_loopw [10, 11, 38] (OLoop t m s wM) (fun _ _ i _ => m.length - (intOf i).toNat)
        case atStart => exact H1.out
        case round =>
          obtain ⟨k, oa, ob, hk, rfl, hNa, hLa, hNb, hLb, hB⟩ := hrel
          by_cases hlt : k < m.length
          · have hr : Bw.turnedAt m.length s k < m.length := Bw.turnedAt_lt hlt
            obtain ⟨b, off, e1, hob, c0, c1⟩ := sp_get HMV.out (List.getElem?_eq_getElem hlt)
            cases e1
            obtain ⟨b', off', e1, hob', c2, c3⟩ := sp_get HMV.out (List.getElem?_eq_getElem hr)
            cases e1
            have hbl := World.block_lt_of_cell? wM _ c0
            dsimp only at hbl
            have d0 := (hB.cell (p := ⟨b, off + k * 2, none⟩) hbl).trans c0
            have d1 := (hB.cell (p := ⟨b, off + k * 2 + 1, none⟩) hbl).trans c1
            have d2 := (hB.cell (p := ⟨b, off + Bw.turnedAt m.length s k * 2, none⟩) hbl).trans c2
            have d3 := (hB.cell (p := ⟨b, off + Bw.turnedAt m.length s k * 2 + 1, none⟩) hbl).trans c3
            have hbl2 : b < wr.heap.size := Nat.lt_of_lt_of_le hbl hB.size
            have h0 : (0 : Int) ≤ (k : Int) := by omega
            have h1 : (k : Int) < (m.length : Int) := by omega
            have hcs : Bw.come (m.take (k + 1)) = Bw.put (Bw.come (m.take k)) m[k] := by rw [take_succ_snoc hlt, come_snoc]
            have htl : (Bw.turned m s)[k]? = some (m[Bw.turnedAt m.length s k]) := by rw [Bw.turned_get hlt, List.getD_eq_getElem?_getD, List.getElem?_eq_getElem hr]; rfl
            have hct : Bw.come ((Bw.turned m s).take (k + 1)) = Bw.put (Bw.come ((Bw.turned m s).take k)) m[Bw.turnedAt m.length s k] := by
              have hlt' : k < (Bw.turned m s).length := by rw [Bw.length_turned]; exact hlt
              rw [take_succ_snoc hlt', come_snoc]
              obtain ⟨_, he⟩ := List.getElem?_eq_some_iff.1 htl
              rw [he]
            have hmem : ∀ p ∈ Bw.turned m s, p ∈ m := by
              intro p hp
              unfold Bw.turned at hp
              obtain ⟨i, hi, rfl⟩ := List.mem_map.1 hp
              have hi' := List.mem_range.1 hi
              rw [List.getD_eq_getElem?_getD, List.getElem?_eq_getElem (Bw.turnedAt_lt hi')]
              exact List.getElem_mem _
            have hma : MapOk (Bw.come (m.take k)) := mapOk_come (Nat.le_trans (List.length_take_le' _ _) (by have := HML.out; omega)) fun p hp => HMK.out.bytes p (List.mem_of_mem_take hp)
            have hmb : MapOk (Bw.come ((Bw.turned m s).take k)) := mapOk_come (Nat.le_trans (List.length_take_le' _ _) (by rw [Bw.length_turned]; have := HML.out; omega)) fun p hp => HMK.out.bytes p (hmem p (List.mem_of_mem_take hp))
            have hp1 := HMK.out.bytes m[k] (List.getElem_mem hlt)
            have hq1 := HMK.out.bytes m[Bw.turnedAt m.length s k] (List.getElem_mem hr)
            have hx := turned_int hlt HML.out HS.out
            have HLT := Lib.hid hlt
            have HCS := Lib.hid hcs
            have HCT := Lib.hid hct
            generalize hrr : Bw.turnedAt m.length s k = r at *
            have h2 : (0 : Int) ≤ (r : Int) := by omega
            have h3 : (r : Int) < (m.length : Int) := by omega
            generalize hpk : m[k] = p at *
            generalize hqr : m[r] = q at *
            obtain ⟨px, py⟩ := p
            obtain ⟨qx, qy⟩ := q
            dsimp only at hp1 hq1
            simp only [str] at d0 d1 d2 d3
            obtain ⟨WB, hWB⟩ : ∃ WB, (wr.alloc (.cells #[.string ⟨px.toArray⟩, .string ⟨py.toArray⟩] 36)).alloc (.cells #[.string ⟨qx.toArray⟩, .string ⟨qy.toArray⟩] 36) = WB := ⟨_, rfl⟩
            have hbB : Below wr.heap.size wr WB := by rw [← hWB]; (repeat (first | exact Below.refl _ _ | with_reducible assumption | refine Below.drew ?_ | refine b_drewN ?_ _ | (refine Below.alloc ?_ (by first | omega | (simp <;> omega)) _)))
            have hsB : WB.heap.size = wr.heap.size + 1 + 1 := by rw [← hWB]; simp
            have x0 : WB.cell? ⟨wr.heap.size, 0, none⟩ = some (.string ⟨px.toArray⟩) := by subst hWB; go_simp
            have x1 : WB.cell? ⟨wr.heap.size, 1, none⟩ = some (.string ⟨py.toArray⟩) := by subst hWB; go_simp
            have y0 : WB.cell? ⟨wr.heap.size + 1, 0, none⟩ = some (.string ⟨qx.toArray⟩) := by subst hWB; go_simp
            have y1 : WB.cell? ⟨wr.heap.size + 1, 1, none⟩ = some (.string ⟨qy.toArray⟩) := by subst hWB; go_simp
            have hBB : Below w.heap.size w WB := HBM.out.trans ((hB.trans (hbB.mono hB.size)).mono HBM.out.size)
            have SK : Hid (∀ W, Below WB.heap.size WB W → W.cell? ⟨wr.heap.size, 0, none⟩ = some (.string ⟨px.toArray⟩) ∧ W.cell? ⟨wr.heap.size, 1, none⟩ = some (.string ⟨py.toArray⟩)) := Lib.hid fun W hW => ⟨(hW.cell (p := ⟨wr.heap.size, 0, none⟩) (by dsimp only; omega)).trans x0, (hW.cell (p := ⟨wr.heap.size, 1, none⟩) (by dsimp only; omega)).trans x1⟩
            have SQ : Hid (∀ W, Below WB.heap.size WB W → W.cell? ⟨wr.heap.size + 1, 0, none⟩ = some (.string ⟨qx.toArray⟩) ∧ W.cell? ⟨wr.heap.size + 1, 1, none⟩ = some (.string ⟨qy.toArray⟩)) := Lib.hid fun W hW => ⟨(hW.cell (p := ⟨wr.heap.size + 1, 0, none⟩) (by dsimp only; omega)).trans y0, (hW.cell (p := ⟨wr.heap.size + 1, 1, none⟩) (by dsimp only; omega)).trans y1⟩
            have hbw : ∀ W, Below WB.heap.size WB W → Below w.heap.size w W := fun W hW => hBB.trans (hW.mono hBB.size)
            have CHP := Lib.hid (fun (W : World) (hW : Below WB.heap.size WB W) => thash_any hp1.1 HT1.out (HTR.out.move goodNat64 (Moves.below (hbw W hW))))
            have CHQ := Lib.hid (fun (W : World) (hW : Below WB.heap.size WB W) => thash_any hq1.1 HT1.out (HTR.out.move goodNat64 (Moves.below (hbw W hW))))
            simp only [str] at CHP CHQ
            have hbr : ∀ W, Below WB.heap.size WB W → Below wr.heap.size wr W := fun W hW => hbB.trans (hW.mono hbB.size)
            have CPA := Lib.hid (fun (W : World) (v1 v2 : Value) (hW : Below WB.heap.size WB W) (h1 : BytesAt AllB W v1 px) (h2 : BytesAt AllB W v2 py) => gput_trie (ok := AllB) (okb := AllB) (p := (px, py)) HTT.out hma hp1 (ONodeAt.move (Moves.below (hbr W hW)) hNa) hLa h1 h2 (fun _ _ => trivial) (HTAB.out.below HTAB.out.pos (hbw W hW)))
            have CPB := Lib.hid (fun (W : World) (v1 v2 : Value) (hW : Below WB.heap.size WB W) (h1 : BytesAt AllB W v1 qx) (h2 : BytesAt AllB W v2 qy) => gput_trie (ok := AllB) (okb := AllB) (p := (qx, qy)) HTT.out hmb hq1 (ONodeAt.move (Moves.below (hbr W hW)) hNb) hLb h1 h2 (fun _ _ => trivial) (HTAB.out.below HTAB.out.pos (hbw W hW)))
            have HLX : Hid (px.length ≤ maxLen) := Lib.hid (Nat.le_trans hp1.1 (by unfold maxLen; omega))
            have HLY : Hid (py.length ≤ maxLen) := Lib.hid (Nat.le_trans hp1.2 (by unfold maxLen; omega))
            have HQX : Hid (qx.length ≤ maxLen) := Lib.hid (Nat.le_trans hq1.1 (by unfold maxLen; omega))
            have HQY : Hid (qy.length ≤ maxLen) := Lib.hid (Nat.le_trans hq1.2 (by unfold maxLen; omega))
            have HBB := Lib.hid hbB; have HBW := Lib.hid hB; have HSB := Lib.hid hsB
            have hfa := onode_form hNa
            have hfb := onode_form hNb
            clear hcs hct htl hmem hma hmb hp1 hq1 hNa hLa hNb hLb hbw hbr hBB hbB hB c0 c1 c2 c3 hbl hrr hpk hqr hlt hr x0 x1 y0 y1
            go_upto_region 15 with fail
            go_cut [10] (fun s10 wx => ∃ n5, NodeAt nt AllB wx s10 n5 ∧ Bw.OLays 0 (some n5) (Bw.entries t (Bw.put (Bw.come (m.take k)) (px, py))) ∧ Below WB.heap.size WB wx)
            case first =>
              have hkB := Below.refl WB.heap.size WB
              obtain ⟨aP, cP, fP, hP⟩ := fun_unconv px HLX.out
              obtain ⟨aV, cV, fV, hV⟩ := fun_unconv py HLY.out
              have hcP := fun W => (hP W).1
              have hcV := fun W => (hV W).1
              have j0 := (Below.refl WB.heap.size WB).drew
              have j1 := below_step j0 (hP _).2.2
              have j2 := below_step j0 (hV _).2.2
              have j3 := below_step j1 (hV _).2.2
              have j4 := below_step j2 (hP _).2.2
              have hd := below_step hkB j0
              have k1 := below_step hkB j1
              have k2 := below_step hkB j2
              have k3 := below_step hkB j3
              have k4 := below_step hkB j4
              have Z0 := Lib.hid (SK.out _ hd); have Z1 := Lib.hid (SK.out _ k1); have Z2 := Lib.hid (SK.out _ k2); have Z3 := Lib.hid (SK.out _ k3); have Z4 := Lib.hid (SK.out _ k4)
              obtain ⟨z0, z1⟩ := Z0.out
              have CH0 := Lib.hid (CHP.out _ hd); have CH1 := Lib.hid (CHP.out _ k1); have CH2 := Lib.hid (CHP.out _ k2); have CH3 := Lib.hid (CHP.out _ k3); have CH4 := Lib.hid (CHP.out _ k4)
              have P3 := Lib.hid (CPA.out _ _ _ k3 ((hP WB.drew).2.1.move goodByte (Moves.below (hV _).2.2)) (hV _).2.1)
              have P4 := Lib.hid (CPA.out _ _ _ k4 (hP _).2.1 ((hV WB.drew).2.1.move goodByte (Moves.below (hP _).2.2)))
              have K3 := Lib.hid k3; have K4 := Lib.hid k4; have J3 := Lib.hid j3; have J4 := Lib.hid j4
              clear hP hV hd k1 k2 k3 k4 j0 j1 j2 j3 j4
              go_region_held_law (fun W => W.cell? ⟨wr.heap.size, 0, none⟩ = some (.string ⟨px.toArray⟩) ∧ W.cell? ⟨wr.heap.size, 1, none⟩ = some (.string ⟨py.toArray⟩))
                (first | with_reducible exact Z0.out | with_reducible exact Z1.out | with_reducible exact Z2.out | with_reducible exact Z3.out | with_reducible exact Z4.out | with_reducible exact SK.out _ (below_step K3.out hb5) | with_reducible exact SK.out _ (below_step K4.out hb5))
                ((first
                  | (go_at_call 18; (first | with_reducible refine CH0.out.mono ?_ | with_reducible refine CH1.out.mono ?_ | with_reducible refine CH2.out.mono ?_ | with_reducible refine CH3.out.mono ?_ | with_reducible refine CH4.out.mono ?_); rintro e wH ⟨rfl, rfl⟩)
                  | (go_at_call 17; (first | with_reducible refine P3.out.mono ?_ | with_reducible refine P4.out.mono ?_); rintro e w5 ⟨nv5, n5, rfl, hn5, hl5, hb5⟩; obtain ⟨t5, b5, rfl⟩ := hn5.form)))
              all_goals go_wp2_with fail
              all_goals go_meet
              all_goals first
                | exact ⟨n5, hn5, hl5, below_step J3.out hb5⟩
                | exact ⟨n5, hn5, hl5, below_step J4.out hb5⟩
            case rest =>
              obtain ⟨nA, hnA, hlA, hkB⟩ := hcut
              obtain ⟨tA, bA, rfl⟩ := hnA.form
              have HNA := Lib.hid hnA; have HLA := Lib.hid hlA; have HKB := Lib.hid hkB
              clear hnA hlA SK CHP CPA HLX HLY
              go_wp2_with fail
              obtain ⟨aP, cP, fP, hP⟩ := fun_unconv qx HQX.out
              obtain ⟨aV, cV, fV, hV⟩ := fun_unconv qy HQY.out
              have hcP := fun W => (hP W).1
              have hcV := fun W => (hV W).1
              have j0 := (Below.refl wc.heap.size wc).drew
              have j1 := below_step j0 (hP _).2.2
              have j2 := below_step j0 (hV _).2.2
              have j3 := below_step j1 (hV _).2.2
              have j4 := below_step j2 (hP _).2.2
              have hd := below_step hkB j0
              have k1 := below_step hkB j1
              have k2 := below_step hkB j2
              have k3 := below_step hkB j3
              have k4 := below_step hkB j4
              have Z0 := Lib.hid (SQ.out _ hd); have Z1 := Lib.hid (SQ.out _ k1); have Z2 := Lib.hid (SQ.out _ k2); have Z3 := Lib.hid (SQ.out _ k3); have Z4 := Lib.hid (SQ.out _ k4)
              obtain ⟨z0, z1⟩ := Z0.out
              have CH0 := Lib.hid (CHQ.out _ hd); have CH1 := Lib.hid (CHQ.out _ k1); have CH2 := Lib.hid (CHQ.out _ k2); have CH3 := Lib.hid (CHQ.out _ k3); have CH4 := Lib.hid (CHQ.out _ k4)
              have P3 := Lib.hid (CPB.out _ _ _ k3 ((hP wc.drew).2.1.move goodByte (Moves.below (hV _).2.2)) (hV _).2.1)
              have P4 := Lib.hid (CPB.out _ _ _ k4 (hP _).2.1 ((hV wc.drew).2.1.move goodByte (Moves.below (hP _).2.2)))
              have K3 := Lib.hid k3; have K4 := Lib.hid k4; have J3 := Lib.hid j3; have J4 := Lib.hid j4
              clear hP hV hd k1 k2 k3 k4 j0 j1 j2 j3 j4
              go_region_held_law (fun W => W.cell? ⟨wr.heap.size + 1, 0, none⟩ = some (.string ⟨qx.toArray⟩) ∧ W.cell? ⟨wr.heap.size + 1, 1, none⟩ = some (.string ⟨qy.toArray⟩))
                (first | with_reducible exact Z0.out | with_reducible exact Z1.out | with_reducible exact Z2.out | with_reducible exact Z3.out | with_reducible exact Z4.out | with_reducible exact SQ.out _ (below_step K3.out hb5) | with_reducible exact SQ.out _ (below_step K4.out hb5))
                ((first
                  | (go_at_call 18; (first | with_reducible refine CH0.out.mono ?_ | with_reducible refine CH1.out.mono ?_ | with_reducible refine CH2.out.mono ?_ | with_reducible refine CH3.out.mono ?_ | with_reducible refine CH4.out.mono ?_); rintro e wH ⟨rfl, rfl⟩)
                  | (go_at_call 17; (first | with_reducible refine P3.out.mono ?_ | with_reducible refine P4.out.mono ?_); rintro e w5 ⟨nv5, n5, rfl, hn5, hl5, hb5⟩; obtain ⟨t5, b5, rfl⟩ := hn5.form)))
              all_goals go_wp2_with fail
              all_goals first
                | exact ⟨⟨k + 1, some nA, some n5, HLT.out, int_succ HLT.out (Nat.le_trans HML.out (by decide)), NodeAt.move (Moves.below (below_step J3.out hb5)) _ _ HNA.out, by rw [HCS.out]; exact HLA.out, hn5, by rw [HCT.out]; exact hl5, HBW.out.trans ((HBB.out.trans ((below_step HKB.out (below_step J3.out hb5)).mono HBB.out.size)).mono HBW.out.size)⟩, less_succ HLT.out (Nat.le_trans HML.out (by decide))⟩
                | exact ⟨⟨k + 1, some nA, some n5, HLT.out, int_succ HLT.out (Nat.le_trans HML.out (by decide)), NodeAt.move (Moves.below (below_step J4.out hb5)) _ _ HNA.out, by rw [HCS.out]; exact HLA.out, hn5, by rw [HCT.out]; exact hl5, HBW.out.trans ((HBB.out.trans ((below_step HKB.out (below_step J4.out hb5)).mono HBB.out.size)).mono HBW.out.size)⟩, less_succ HLT.out (Nat.le_trans HML.out (by decide))⟩
          · obtain rfl : k = m.length := by omega
            rw [List.take_length, Bw.come_alike HMK.out.rises (List.Pairwise.imp (fun h => Bw.lt_ne h) HMK.out.rises) (fun _ => Iff.rfl)] at hLa
            rw [List.take_of_length_le (by rw [Bw.length_turned]; exact Nat.le_refl _), Bw.come_turned HMK.out.rises] at hLb
            have hBw := HBM.out.trans (hB.mono HBM.out.size)
            have CS := Lib.hid (lsame_any hNa hNb (olays_slim HTT.out HMK.out (Nat.le_trans HML.out (by decide)) hLa) (olays_slim HTT.out HMK.out (Nat.le_trans HML.out (by decide)) hLb) (HTAB.out.below HTAB.out.pos hBw))
            rw [olays_same HTT.out HMK.out hLa hLb] at CS
            have hfa := onode_form hNa
            have hfb := onode_form hNb
            have HBW := Lib.hid hBw
            clear hNa hLa hNb hLb hB hBw hlt hk H1
            rcases hfa with rfl | ⟨ta, ba, rfl⟩ <;> rcases hfb with rfl | ⟨tb, bb, rfl⟩
            all_goals go_wp2_with fail
            all_goals refine CS.out.mono ?_
            all_goals rintro e w2 ⟨rfl, hb2⟩
            all_goals have HB2 := Lib.hid (HBW.out.trans (hb2.mono HBW.out.size))
            all_goals clear hb2
            all_goals go_wp2_with fail
            all_goals refine (CA.out _ HB2.out).mono ?_
            all_goals rintro e w3 ⟨rfl, hb3⟩
            all_goals go_wp2
            all_goals go_ret
            all_goals exact ⟨rfl, HB2.out.trans (hb3.mono HB2.out.size)⟩
end Go.Proofs.YtehkjnmnbplcoaaDoor
