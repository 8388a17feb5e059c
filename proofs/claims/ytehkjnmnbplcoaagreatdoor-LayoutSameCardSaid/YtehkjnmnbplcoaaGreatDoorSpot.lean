
import Derived.Test.YtehkjnmnbplcoaaGreatDoorNodeC
import Derived.Test.YtehkjnmnbplcoaaGreatDoorBwG
import Derived.Laws.StructEq
import Derived.KernelRfl
namespace Go.Proofs.YtehkjnmnbplcoaaGreatDoor
open Go.RowKit Go.Bw

def encSpot (s : Bw.Spot) : List Value := [.int .i64 (s.1 : Nat), .int .i64 (s.2.1 : Nat), .int .u64 (s.2.2.1 : Nat), .int .u32 (s.2.2.2.1 : Nat), .int .i64 (s.2.2.2.2 : Nat)]
/-- a spot, in five cells -/
def spotK : Knd Bw.Spot := fun _ _ x cs => cs = encSpot x
theorem goodSpot : _root_.Go.Bw.Good 5 spotK where
  len := by rintro ok w x cs rfl; rfl
  one := by
    rintro ok w x cs rfl u hu
    simp only [encSpot, List.mem_cons, List.not_mem_nil, or_false] at hu
    rcases hu with rfl | rfl | rfl | rfl | rfl <;> rfl
  move := by rintro ok ok' w w' x cs _ h; exact h
abbrev SpotsAt := RowAt 5 spotK

theorem spot_get {ok : Nat → Prop} {w : World} {A : Option Addr} {n c j : Nat} {xs : List Bw.Spot} {s : Bw.Spot} (h : SpotsAt ok w (.slice A n c) xs) (hj : xs[j]? = some s) :
    ∃ b o, A = some ⟨b, o, none⟩ ∧ w.cell? ⟨b, o + j * 5, none⟩ = some (.int .i64 (s.1 : Nat)) ∧ w.cell? ⟨b, o + j * 5 + 1, none⟩ = some (.int .i64 (s.2.1 : Nat)) ∧ w.cell? ⟨b, o + j * 5 + 2, none⟩ = some (.int .u64 (s.2.2.1 : Nat)) ∧
      w.cell? ⟨b, o + j * 5 + 3, none⟩ = some (.int .u32 (s.2.2.2.1 : Nat)) ∧ w.cell? ⟨b, o + j * 5 + 4, none⟩ = some (.int .i64 (s.2.2.2.2 : Nat)) := by
  obtain ⟨b, o, cs, rfl, rfl, hc⟩ := h.get hj
  exact ⟨b, o, rfl, (hc 0 _ rfl).2, (hc 1 _ rfl).2, (hc 2 _ rfl).2, (hc 3 _ rfl).2, (hc 4 _ rfl).2⟩

theorem stoodSpot : Tryz.prog.stoodInHeld 75 = false := by kernel_rfl
theorem fieldsSpot : Tryz.prog.underlying 75 = some (.struct (Tryz.prog.fieldsOf 75)) := by kernel_rfl

set_option maxRecDepth 100000 in
theorem eqSpot (a b : Bw.Spot) (w : World) : (Op.equalIn 10000 75 (.agg (encSpot a).toArray) (.agg (encSpot b).toArray)).run Tryz.prog w = .ok (decide (a = b)) w := by
  obtain ⟨a1, a2, a3, a4, a5⟩ := a
  obtain ⟨b1, b2, b3, b4, b5⟩ := b
  have u3 := Tryz.underlying3
  have a3' := Tryz.isAgg3
  have z3 := Tryz.sizeOf3
  have v3 := Tryz.underlying32
  have b3' := Tryz.isAgg32
  have y3 := Tryz.sizeOf32
  have v4 := Tryz.underlying73
  have b4' := Tryz.isAgg73
  have y4 := Tryz.sizeOf73
  rw [show (10000 : Nat) = 9999 + 1 from rfl, run_equalIn_agg w 9999 75 _ _ fieldsSpot stoodSpot]
  simp only [Program.fieldsOf, Tryz.underlying75, encSpot]
  go_simp
  by_cases h1 : (a1 : Int) = b1 <;> by_cases h2 : (a2 : Int) = b2 <;> by_cases h3 : (a3 : Int) = b3 <;> by_cases h4 : (a4 : Int) = b4 <;> by_cases h5 : (a5 : Int) = b5 <;> simp_all <;> omega

def EqRel (a b : List Bw.Spot) (w : World) (i : Value) (wr : World) : Prop := ∃ k : Nat, k ≤ a.length ∧ i = .int .i64 k ∧ a.take k = b.take k ∧ Below w.heap.size w wr

theorem take_step {α : Type} {a b : List α} {k : Nat} (ha : k < a.length) (hb : k < b.length) (h : a.take k = b.take k) (e : a[k] = b[k]) : a.take (k + 1) = b.take (k + 1) := by
  rw [take_succ_snoc ha, take_succ_snoc hb, h, e]

set_option maxRecDepth 100000 in
set_option maxHeartbeats 1000000 in
theorem speq_any {ok ok' : Nat → Prop} {u v : Value} {a b : List Bw.Spot} {w : World} (ha : SpotsAt ok w u a) (hb : SpotsAt ok' w v b) (hl : a.length ≤ 1048576) :
    Calls Tryz.prog 24 #[u, v] w fun e w' => e = .returned (.bool (decide (a = b))) ∧ Below w.heap.size w w' := by
  obtain ⟨A, ca, rfl⟩ := ha.form
  obtain ⟨B, cb, rfl⟩ := hb.form
  by_cases hlen : a.length = b.length
  · have hne : ((a.length : Int) != (b.length : Int)) = false := by rw [bne_eq_false_iff_eq]; omega
    have HA := Lib.hid ha; have HB := Lib.hid hb; have HL := Lib.hid hl; have HLEN := Lib.hid hlen
    have H0 : Hid (EqRel a b w (.int .i64 0) w) := Lib.hid ⟨0, Nat.zero_le _, rfl, by simp, Below.refl _ _⟩
    clear ha hb hl hlen
    go_enter Tryz.func24, Tryz.ntmps24
    go_wp2_with fail
    go_loopw [13] (EqRel a b w) (fun i _ => a.length - (intOf i).toNat)
    case atStart => exact H0.out
    case round =>
      obtain ⟨k, hk, rfl, hpre, hB⟩ := hrel
      have hlen := HLEN.out
      by_cases hlt : k < a.length
      · obtain ⟨ba, oa, rfl, c0, c1, c2, c3, c4⟩ := spot_get HA.out (List.getElem?_eq_getElem hlt)
        obtain ⟨bb, ob, rfl, d0, d1, d2, d3, d4⟩ := spot_get HB.out (List.getElem?_eq_getElem (show k < b.length by omega))
        have hba := World.block_lt_of_cell? w _ c0
        have hbb := World.block_lt_of_cell? w _ d0
        dsimp only at hba hbb
        have x0 := (hB.cell (p := ⟨ba, oa + k * 5, none⟩) hba).trans c0
        have x1 := (hB.cell (p := ⟨ba, oa + k * 5 + 1, none⟩) hba).trans c1
        have x2 := (hB.cell (p := ⟨ba, oa + k * 5 + 2, none⟩) hba).trans c2
        have x3 := (hB.cell (p := ⟨ba, oa + k * 5 + 3, none⟩) hba).trans c3
        have x4 := (hB.cell (p := ⟨ba, oa + k * 5 + 4, none⟩) hba).trans c4
        have y0 := (hB.cell (p := ⟨bb, ob + k * 5, none⟩) hbb).trans d0
        have y1 := (hB.cell (p := ⟨bb, ob + k * 5 + 1, none⟩) hbb).trans d1
        have y2 := (hB.cell (p := ⟨bb, ob + k * 5 + 2, none⟩) hbb).trans d2
        have y3 := (hB.cell (p := ⟨bb, ob + k * 5 + 3, none⟩) hbb).trans d3
        have y4 := (hB.cell (p := ⟨bb, ob + k * 5 + 4, none⟩) hbb).trans d4
        have h0 : (0 : Int) ≤ (k : Int) := by omega
        have h1 : (k : Int) < (a.length : Int) := by omega
        have h2 : (k : Int) < (b.length : Int) := by omega
        have heq := eqSpot a[k] b[k]
        simp only [encSpot] at heq
        have HST := Lib.hid (fun e : a[k] = b[k] => take_step hlt (by omega) hpre e)
        have HNE := Lib.hid (show a[k] ≠ b[k] → decide (a = b) = false from fun hn => by rw [decide_eq_false_iff_not]; rintro rfl; exact hn rfl)
        have HBW := Lib.hid hB
        generalize a[k] = p at *
        generalize b[k] = q at *
        clear hpre c0 c1 c2 c3 c4 d0 d1 d2 d3 d4 hB
        cases hd : decide (p = q) with
        | true =>
          rw [hd] at heq
          go_wp2_with fail
          go_quiet (fail)
          rename_i nq
          go_wp2
          exact ⟨⟨k + 1, hlt, int_succ hlt HL.out, HST.out (of_decide_eq_true hd), b_drewN HBW.out _⟩, less_succ hlt HL.out⟩
        | false =>
          rw [hd] at heq
          go_wp2_with fail
          go_quiet (fail)
          rename_i nq
          go_wp2
          go_ret
          exact ⟨by rw [HNE.out (of_decide_eq_false hd)]; rfl, b_drewN HBW.out _⟩
      · obtain rfl : k = a.length := by omega
        rw [List.take_length, hlen, List.take_length] at hpre
        have HP := Lib.hid hpre
        clear hpre
        go_wp2
        go_ret
        exact ⟨by rw [HP.out, decide_eq_true rfl]; rfl, hB⟩
  · have hne : ((a.length : Int) != (b.length : Int)) = true := by rw [bne_iff_ne]; omega
    have HF := Lib.hid (show decide (a = b) = false by rw [decide_eq_false_iff_not]; rintro rfl; exact hlen rfl)
    clear ha hb hl
    go_enter Tryz.func24, Tryz.ntmps24
    go_wp2
    go_ret
    exact ⟨by rw [HF.out]; rfl, Below.refl _ _⟩
end Go.Proofs.YtehkjnmnbplcoaaGreatDoor
