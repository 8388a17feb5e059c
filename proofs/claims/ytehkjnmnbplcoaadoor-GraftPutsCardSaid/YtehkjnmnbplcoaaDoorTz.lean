
import Derived.Test.YtehkjnmnbplcoaaDoorBits1
import Derived.Test.YtehkjnmnbplcoaaDoorLow
namespace Go.Proofs.YtehkjnmnbplcoaaDoor
open Go.RowKit Go.Bw

/-- the table of math/bits, where the program has it -/
def Tab (w : World) : Prop := ∀ i t, Bw.tab[i]? = some t → w.cell? ⟨0, i, none⟩ = some (.int .u8 (t : Nat))

theorem Tab.pos {w : World} (h : Tab w) : 0 < w.heap.size := by
  have := World.block_lt_of_cell? w _ (h 0 0 rfl)
  exact this

theorem Tab.below {n : Nat} {w w' : World} (h : Tab w) (h0 : 0 < n) (hB : Below n w w') : Tab w' := fun i t ht => (hB.cell (p := ⟨0, i, none⟩) h0).trans (h i t ht)

set_option maxRecDepth 100000 in
set_option maxHeartbeats 400000 in
theorem tz_any (x : Nat) (h0 : 0 < x) (hx : x < 4294967296) (w : World) (hT : Tab w) :
    Calls Tryd.prog 118 #[.int .u32 (x : Nat)] w fun e w' => e = .returned (.int .i64 (Bw.low 32 x : Nat)) ∧ w' = w := by
  have hlow := Bw.low_lt 32 x h0 hx
  have hneg : IntKind.u32.wrap (-(x : Int)) = ((4294967296 - x : Nat) : Int) := by rw [IntKind.wrap_u32]; omega
  have hand : bits .and .u32 (x : Int) ((4294967296 - x : Nat) : Int) = ((2 ^ Bw.low 32 x : Nat) : Int) := by
    rw [and_u32 x _ hx (by omega)]; congr 1; exact Bw.and_neg 32 x h0 hx
  have hmul : IntKind.u32.wrap (((2 ^ Bw.low 32 x : Nat) : Int) * 125613361) = ((2 ^ Bw.low 32 x * 125613361 % 4294967296 : Nat) : Int) := by
    rw [IntKind.wrap_u32]; generalize 2 ^ Bw.low 32 x = y; omega
  obtain ⟨ht1, ht2⟩ := Bw.tab_at ⟨Bw.low 32 x, hlow⟩
  simp only at ht1 ht2
  have hc := hT _ _ ht2
  generalize Bw.low 32 x = t at *
  generalize hz : 2 ^ t * 125613361 % 4294967296 = z at *
  generalize ((2 ^ t : Nat) : Int) = y at *
  rw [IntKind.wrap_u32] at hneg hmul
  have hd : (z : Int) / 134217728 = ((z / 134217728 : Nat) : Int) := (Int.natCast_ediv z 134217728).symm
  have hE : bits .and .u32 (x : Int) (-(x : Int) % 4294967296) * 125613361 % 4294967296 / 134217728 = ((z / 134217728 : Nat) : Int) := by rw [hneg, hand, hmul, hd]
  have hc : w.cell? ⟨0, (bits .and .u32 (x : Int) (-(x : Int) % 4294967296) * 125613361 % 4294967296 / 134217728).toNat, none⟩ = some (.int .u8 (t : Nat)) := by rw [hE, Int.toNat_natCast]; exact hc
  have hE0 : 0 ≤ bits .and .u32 (x : Int) (-(x : Int) % 4294967296) * 125613361 % 4294967296 / 134217728 := by rw [hE]; omega
  have hE1 : bits .and .u32 (x : Int) (-(x : Int) % 4294967296) * 125613361 % 4294967296 / 134217728 < 32 := by rw [hE]; omega
  have hw : IntKind.i64.wrap (t : Int) = (t : Int) := by rw [IntKind.wrap_i64]; omega
  have hne : ((x : Int) == 0) = false := by rw [beq_eq_false_iff_ne]; omega
  clear hneg hand hmul hz ht2 hE ht1 hT hd
  go_enter Tryd.func118, Tryd.ntmps118
  go_wp2
  go_ret
  exact ⟨rfl, rfl⟩
end Go.Proofs.YtehkjnmnbplcoaaDoor
