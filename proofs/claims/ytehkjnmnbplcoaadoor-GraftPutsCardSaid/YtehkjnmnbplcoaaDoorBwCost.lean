/- How many nodes a Put, or a Get, of a trie visits, and how many keys it compares. Plain. -/
import Derived.Test.YtehkjnmnbplcoaaDoorBwGraft
namespace Bw

/-- the child for a number, or none -/
def kidO (m : Nat) (kids : List N) (c : Nat) : Option N := if m.testBit c then kids[ones c m]? else none

/-- visits, compares: of a put of a key with a hash, from a level on; f levels are left -/
def costO : Nat → Option N → Nat → Bytes → Nat → Nat × Nat
  | _, none, _, _, _ => (0, 0)
  | _, some (.leaf g _), h, _, _ => (1, if g = h then 1 else 0)
  | _, some (.bucket g t), h, k, _ => if g = h then (t.steps k, t.steps k) else (0, 0)
  | 0, some (.branch _ _), _, _, _ => (0, 0)
  | f + 1, some (.branch m kids), h, k, level => ((costO f (kidO m kids (chunkAt h level)) h k (level + 1)).1 + 1, (costO f (kidO m kids (chunkAt h level)) h k (level + 1)).2)

theorem costO_none (f h : Nat) (k : Bytes) (level : Nat) : costO f none h k level = (0, 0) := by cases f <;> rfl
theorem costO_leaf (f g : Nat) (q : PV) (h : Nat) (k : Bytes) (level : Nat) : costO f (some (.leaf g q)) h k level = (1, if g = h then 1 else 0) := by cases f <;> rfl
theorem costO_bucket (f g : Nat) (t : T) (h : Nat) (k : Bytes) (level : Nat) : costO f (some (.bucket g t)) h k level = if g = h then (t.steps k, t.steps k) else (0, 0) := by cases f <;> rfl

def OLays (level : Nat) : Option N → List En → Prop
  | none, l => l = []
  | some n, l => Lays level n fun e => e ∈ l

/-- the child of a branch is the layout of its part -/
theorem olays_kid {level m : Nat} {kids : List N} {l : List En} (h : Lays level (.branch m kids) fun e => e ∈ l) (c : Nat) : OLays (level + 1) (kidO m kids c) (partOf level c l) := by
  cases h with
  | branch hm hl h2 hc hk =>
    unfold kidO
    by_cases ht : m.testBit c = true
    · have hc32 : c < 32 := by
        rcases Nat.lt_or_ge c 32 with x | x
        · exact x
        · have := Nat.pow_le_pow_right (n := 2) (by decide) x
          rw [Nat.testBit_lt_two_pow (by omega)] at ht; cases ht
      have hat := bitsOf_at m c hc32 ht
      have hlt : ones c m < kids.length := by rw [hl]; exact (List.getElem?_eq_some_iff.1 hat).1
      rw [if_pos ht, List.getElem?_eq_getElem hlt]
      exact (hk _ c _ hat (List.getElem?_eq_getElem hlt)).congr fun e => mem_partOf.symm
    · rw [if_neg ht]
      simp only [OLays]
      rw [List.eq_nil_iff_forall_not_mem]
      intro e he
      obtain ⟨h1, h2⟩ := mem_partOf.1 he
      have := hc e h1
      rw [h2] at this
      exact ht (mem_bitsOf.1 this).2

theorem lays_branch_fit {level m : Nat} {kids : List N} {S : En → Prop} (h : Lays level (.branch m kids) S) : m < 4294967296 ∧ kids.length = (bitsOf m).length := by
  cases h with
  | branch hm hl _ _ _ => exact ⟨hm, hl⟩

end Bw
