/- How high an even tree is; how many pairs there are at a way's end; what a look costs there. -/
import Derived.Test.YtehkjnmnbplcoaaGreatDoorLaw8
namespace Go.Proofs.YtehkjnmnbplcoaaGreatDoor
open Go.RowKit Go.Bw

theorem steps_high (k : Bw.Bytes) : ∀ t : Bw.T, t.even → 4 ^ t.steps k ≤ 3 ^ t.steps k * (t.size + 1)
  | .nil, _ => by simp [Bw.T.steps, Bw.T.size]
  | .node l q r, h => by
    obtain ⟨hl, hr, h1, h2⟩ := h
    have il := steps_high k l hl
    have ir := steps_high k r hr
    simp only [Bw.T.steps, Bw.T.size]
    split
    · rw [Nat.pow_one, Nat.pow_one]; clear il ir; omega
    · split
      · rw [Nat.pow_succ, Nat.pow_succ, Nat.mul_assoc]
        refine Nat.le_trans (Nat.mul_le_mul_right 4 ir) ?_
        rw [Nat.mul_assoc]
        clear il ir
        exact Nat.mul_le_mul_left _ (by omega)
      · rw [Nat.pow_succ, Nat.pow_succ, Nat.mul_assoc]
        refine Nat.le_trans (Nat.mul_le_mul_right 4 il) ?_
        rw [Nat.mul_assoc]
        clear il ir
        exact Nat.mul_le_mul_left _ (by omega)

theorem high_pow {s N L : Nat} (h : 4 ^ s ≤ 3 ^ s * N) (hL : N ^ 6 < 2 ^ L) : s < L := by
  have h1 : (4 ^ s) ^ 6 ≤ (3 ^ s * N) ^ 6 := Nat.pow_le_pow_left h 6
  rw [Nat.mul_pow] at h1
  have h2 : (3 ^ s) ^ 6 * 2 ^ s ≤ (4 ^ s) ^ 6 := by
    rw [← Nat.pow_mul, ← Nat.pow_mul, Nat.mul_comm s 6, Nat.pow_mul, Nat.pow_mul, ← Nat.mul_pow]
    exact Nat.pow_le_pow_left (by decide) s
  have h3 : 2 ^ s ≤ N ^ 6 := Nat.le_of_mul_le_mul_left (Nat.le_trans h2 h1) (Nat.pow_pos (Nat.pow_pos (by decide)))
  exact (Nat.pow_lt_pow_iff_right (by decide)).1 (Nat.lt_of_le_of_lt h3 hL)

theorem steps_lt {k : Bw.Bytes} {t : Bw.T} {n L : Nat} (he : t.even) (hn : t.size ≤ n) (hL : (n + 1) ^ 6 < 2 ^ L) : t.steps k < L :=
  high_pow (Nat.le_trans (steps_high k t he) (Nat.mul_le_mul_left _ (Nat.succ_le_succ hn))) hL

theorem count_mem {x : Bw.N} : ∀ {kids : List Bw.N}, x ∈ kids → x.count ≤ Bw.N.countL kids
  | k :: r, h => by
    simp only [Bw.N.countL]
    rcases List.mem_cons.1 h with rfl | h
    · omega
    · have := count_mem h; omega

def manyO : Option Bw.N → Nat
  | none => 0
  | some n => n.count

theorem way_count (h : Nat) : ∀ (f level : Nat) (o : Option Bw.N), manyO (Bw.wayO f o h level).1 ≤ manyO o
  | f, level, none => by rw [Bw.wayO_none]; exact Nat.le_refl _
  | f, level, some (.leaf g q) => by rw [Bw.wayO_leaf]; exact Nat.le_refl _
  | f, level, some (.bucket g t) => by rw [Bw.wayO_bucket]; exact Nat.le_refl _
  | 0, level, some (.branch m kids) => Nat.zero_le _
  | f + 1, level, some (.branch m kids) => by
    simp only [Bw.wayO]
    refine Nat.le_trans (way_count h f (level + 1) _) ?_
    unfold Bw.kidO
    split
    · cases hk : kids[Bw.ones (Bw.chunkAt h level) m]? with
      | none => exact Nat.zero_le _
      | some x => exact count_mem (List.mem_of_getElem? hk)
    · exact Nat.zero_le _

theorem ofO_count {l : List Bw.En} (hl : EnsOk l) : manyO (Bw.ofO l) = (Bw.lasts l).length := by
  have hO := hl.lays
  cases ho : Bw.ofO l with
  | none =>
    rw [ho] at hO
    rw [show Bw.lasts l = [] from hO]
    rfl
  | some n =>
    rw [ho] at hO
    exact Bw.lays_count hO (Bw.lasts l) hl.lay.unlike fun _ => Iff.rfl

/-- what a look costs at a way's end, from what the document has there -/
structure EndCost (k g : Nat) (h : Nat) (c : Nat × Nat) : Prop where
  kind : k = 0 ∨ k = 1 ∨ k = 2
  leaf : k = 1 → c = (1, if g = h then 1 else 0)
  none : k ≠ 1 → (k = 0 ∨ g ≠ h) → c = (0, 0)
  bucket : k = 2 → g = h → 0 < c.1
  less : c.2 ≤ c.1

theorem costEnd_is {x : Option Bw.N} {d : Nat} {l : List Bw.En} (hO : Bw.OLays d x l) (hb : ∀ m kids, x ≠ some (.branch m kids)) (h : Nat) (key : Bw.Bytes) :
    EndCost (Bw.absO x).kind (Bw.absO x).hash h (Bw.costEnd x h key) := by
  match x, hO, hb with
  | none, _, _ => exact ⟨.inl rfl, fun h => (by cases h), fun _ _ => rfl, fun h => (by cases h), Nat.le_refl _⟩
  | some (.leaf g q), _, _ => exact ⟨.inr (.inl rfl), fun _ => rfl, fun h => absurd rfl h, fun h => (by cases h), by show (if g = h then 1 else 0) ≤ 1; split <;> decide⟩
  | some (.bucket g t), hO, _ =>
    have h2s : 2 ≤ t.size := by
      cases hO with
      | bucket he hrs h2 hs => rw [← Bw.T.length_list]; exact h2
    refine ⟨.inr (.inr rfl), fun h => (by cases h), fun _ hx => ?_, fun _ hg => ?_, ?_⟩
    · have hne : g ≠ h := hx.resolve_left (fun e : (2 : Nat) = 0 => by cases e)
      show (if g = h then (t.steps key, t.steps key) else (0, 0)) = (0, 0)
      rw [if_neg hne]
    · show 0 < (if g = h then (t.steps key, t.steps key) else (0, 0)).1
      rw [if_pos (show g = h from hg)]
      cases t with
      | nil => exact absurd h2s (by simp [Bw.T.size])
      | node a b c =>
        simp only [Bw.T.steps]
        split
        · exact Nat.one_pos
        · split <;> exact Nat.succ_pos _
    · show (if g = h then (t.steps key, t.steps key) else (0, 0)).2 ≤ (if g = h then (t.steps key, t.steps key) else (0, 0)).1
      split <;> exact Nat.le_refl _
  | some (.branch m kids), _, hb => exact absurd rfl (hb m kids)

theorem costEnd_bound {x : Option Bw.N} (hf : ∀ n, x = some n → n.fit) (h : Nat) (key : Bw.Bytes) {n L : Nat} (hn : manyO x ≤ n) (hL : (n + 1) ^ 6 < 2 ^ L) : (Bw.costEnd x h key).1 ≤ L := by
  have hL1 : 1 ≤ L := by
    rcases Nat.eq_zero_or_pos L with rfl | h
    · have : 1 ≤ (n + 1) ^ 6 := Nat.pow_pos (Nat.succ_pos n)
      rw [Nat.pow_zero] at hL
      exact absurd hL (by clear hL; omega)
    · exact h
  match x, hf, hn with
  | none, _, _ => exact Nat.zero_le _
  | some (.leaf g q), _, _ => exact hL1
  | some (.bucket g t), hf, hn =>
    have hfit := hf _ rfl
    simp only [Bw.N.fit] at hfit
    show (if g = h then (t.steps key, t.steps key) else (0, 0)).1 ≤ L
    split
    · exact Nat.le_of_lt (steps_lt hfit.1 hn hL)
    · exact Nat.zero_le _
  | some (.branch m kids), _, _ => exact Nat.zero_le _
end Go.Proofs.YtehkjnmnbplcoaaGreatDoor
