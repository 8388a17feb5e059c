
import Derived.Test.YtadaoceidkagfaaDoorLawA
import Derived.Test.YtadaoceidkagfaaDoorListA
import Derived.Test.YtadaoceidkagfaaDoorNodeC
namespace Go.Proofs.YtadaoceidkagfaaDoor
open Go.RowKit Go.Bw

mutual
/-- bounded pairs, even and rising buckets, as many children as numbers -/
def _root_.Bw.N.fit : Bw.N → Prop
  | .leaf _ p => p.1.length ≤ 1048576 ∧ p.2.length ≤ 1048576
  | .bucket _ t => t.even ∧ Bw.Rises t.list ∧ (∀ p ∈ t.list, p.1.length ≤ 1048576 ∧ p.2.length ≤ 1048576) ∧ t.size ≤ 1048576
  | .branch m kids => m < 4294967296 ∧ kids.length = (Bw.bitsOf m).length ∧ Bw.N.fitL kids
def _root_.Bw.N.fitL : List Bw.N → Prop
  | [] => True
  | k :: r => k.fit ∧ Bw.N.fitL r
end
theorem _root_.Bw.N.fitL_iff (l : List Bw.N) : Bw.N.fitL l ↔ ∀ k ∈ l, k.fit := by
  induction l with
  | nil => simp [Bw.N.fitL]
  | cons k r ih => simp [Bw.N.fitL, ih]

end Go.Proofs.YtadaoceidkagfaaDoor

namespace Go.Proofs.YtadaoceidkagfaaDoor
open Go.RowKit Go.Bw

def SmRel2 (w4 : World) (i : Value) (wr : World) : Prop := ∃ j : Nat, j ≤ 34 ∧ i = .int .i64 ((j : Int) - 1) ∧ Below w4.heap.size w4 wr

/-- where a number stands in a list, so far -/
def AtOk (bits : List Nat) (c : Int) (i : Nat) (at_ : Int) : Prop :=
  (at_ = -1 ∧ ∀ x ∈ bits.take i, (x : Int) ≠ c) ∨ ∃ a : Nat, a < i ∧ at_ = a ∧ ∃ x, bits[a]? = some x ∧ (x : Int) = c

def AtRel (bits : List Nat) (c : Int) (W : World) (a i : Value) (wr : World) : Prop :=
  ∃ (k : Nat) (at_ : Int), k ≤ bits.length ∧ a = .int .i64 at_ ∧ i = .int .i64 k ∧ AtOk bits c k at_ ∧ W = wr

theorem at_step {bits : List Nat} {c : Int} {i : Nat} {at_ : Int} {x : Nat} (h : AtOk bits c i at_) (hx : bits[i]? = some x) (hne : ¬ (x : Int) = c) : AtOk bits c (i + 1) at_ := by
  rcases h with ⟨h1, h2⟩ | ⟨a, h1, h2⟩
  · obtain ⟨hl, he⟩ := List.getElem?_eq_some_iff.1 hx
    refine .inl ⟨h1, fun y hy => ?_⟩
    rw [take_succ_snoc hl, List.mem_append] at hy
    rcases hy with hy | hy
    · exact h2 y hy
    · simp only [List.mem_singleton] at hy; rw [hy, he]; exact hne
  · exact .inr ⟨a, Nat.lt_succ_of_lt h1, h2⟩

theorem bits_mem {m x : Nat} : x ∈ Bw.bitsOf m ↔ x < 32 ∧ m.testBit x = true := by
  unfold Bw.bitsOf
  rw [List.mem_filter, List.mem_range]

theorem bits_nodup (m : Nat) : (Bw.bitsOf m).Nodup := List.Pairwise.filter _ List.nodup_range

theorem same_at_out {m : Nat} {c : Int} {at_ : Int} (hc : ¬ (0 ≤ c ∧ c < 32 ∧ m.testBit c.toNat = true)) (h : AtOk (Bw.bitsOf m) c (Bw.bitsOf m).length at_) : at_ = -1 := by
  rcases h with ⟨h1, _⟩ | ⟨a, _, _, x, hx, he⟩
  · exact h1
  · have := bits_mem.1 (List.mem_of_getElem? hx)
    subst he
    exact absurd ⟨by omega, by omega, by rw [Int.toNat_natCast]; exact this.2⟩ hc

theorem same_at_in {m : Nat} {c : Int} {at_ : Int} (hc : 0 ≤ c ∧ c < 32 ∧ m.testBit c.toNat = true) (h : AtOk (Bw.bitsOf m) c (Bw.bitsOf m).length at_) : at_ = (Bw.ones c.toNat m : Nat) ∧ Bw.ones c.toNat m < (Bw.bitsOf m).length := by
  have hat := Bw.bitsOf_at m c.toNat (by omega) hc.2.2
  obtain ⟨hl, he⟩ := List.getElem?_eq_some_iff.1 hat
  refine ⟨?_, hl⟩
  rcases h with ⟨_, h2⟩ | ⟨a, _, h2, x, hx, hxc⟩
  · rw [List.take_length] at h2
    exact absurd (by omega) (h2 c.toNat (List.mem_of_getElem? hat))
  · rw [h2]
    obtain ⟨ha, hax⟩ := List.getElem?_eq_some_iff.1 hx
    have : a = Bw.ones c.toNat m := by
      have hnd := List.pairwise_iff_getElem.1 (bits_nodup m)
      rcases Nat.lt_trichotomy a (Bw.ones c.toNat m) with hl2 | hl2 | hl2
      · exact absurd (by rw [hax, he]; omega) (hnd a _ ha hl hl2)
      · exact hl2
      · exact absurd (by rw [hax, he]; omega) (hnd _ a hl ha hl2)
    rw [this]

end Go.Proofs.YtadaoceidkagfaaDoor
