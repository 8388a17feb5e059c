
import Derived.Test.YtkblhilaeecdlaaFit
import Derived.Test.YtkblhilaeecdlaaColl
import Derived.Test.YtkblhilaeecdlaaBwG
namespace Go.Proofs.Ytkblhilaeecdlaa
open Go.RowKit Go.Bw

theorem kidsSum_append (a b : List Bw.Plan) : kidsSum (a ++ b) = kidsSum a + kidsSum b := by
  induction a with
  | nil => simp [kidsSum]
  | cons p r ih => simp only [kidsSum, List.cons_append, List.map_cons, List.sum_cons] at ih ⊢; omega
theorem kidsSum_drop (l : List Bw.Plan) {i j : Nat} (h : i ≤ j) : kidsSum (l.drop j) ≤ kidsSum (l.drop i) := by
  obtain ⟨d, rfl⟩ := Nat.exists_eq_add_of_le h
  have : l.drop i = (l.drop i).take d ++ l.drop (i + d) := by rw [← List.drop_drop, List.take_append_drop]
  rw [this, kidsSum_append]
  omega

/-- few plans make few pairs -/
theorem few_build {l : List Bw.Plan} (hf : fineB l = true) : ∀ f i n, Bw.build l f i = some n → n.count ≤ 12 * 2 ^ kidsSum (l.drop i) := by
  intro f
  induction f with
  | zero => intro i n h; simp [Bw.build] at h
  | succ f ih =>
    intro i n h
    simp only [Bw.build] at h
    cases hp : l[i]? with
    | none => simp [hp] at h
    | some p =>
      have hmem := List.mem_of_getElem? hp
      obtain ⟨hil, hpi⟩ := List.getElem?_eq_some_iff.1 hp
      obtain ⟨hps, hpk⟩ := (fine_parts hf).2 p hmem
      have hpos : 1 ≤ 2 ^ kidsSum (l.drop i) := Nat.one_le_pow _ _ (by decide)
      simp only [hp] at h
      split at h
      · simp only [Bw.branchO] at h
        split at h
        · cases h
        · simp only [Option.map_eq_some_iff] at h
          obtain ⟨ks, hks, rfl⟩ := h
          have hsq := Bw.seqO_some hks
          have hlen : (Bw.kidsOf (Bw.build l f) i l.length p.kids).length = ks.length := by rw [hsq]; simp
          have hkl : ks.length = p.kids.length := by rw [← hlen]; simp [Bw.kidsOf]
          have hk : ∀ k ∈ ks, k.count ≤ 12 * 2 ^ kidsSum (l.drop (i + 1)) := fun k hk => by
            have hk' : some k ∈ Bw.kidsOf (Bw.build l f) i l.length p.kids := by rw [hsq]; exact List.mem_map_of_mem hk
            simp only [Bw.kidsOf, List.mem_map] at hk'
            obtain ⟨z, _, hz⟩ := hk'
            split at hz
            · cases hz
            · rename_i hz'
              rw [not_or] at hz'
              exact Nat.le_trans (ih _ _ hz) (Nat.mul_le_mul_left _ (Nat.pow_le_pow_right (by decide) (kidsSum_drop l (by omega))))
          have hsum : ∀ q : List Bw.N, (∀ k ∈ q, k.count ≤ 12 * 2 ^ kidsSum (l.drop (i + 1))) → Bw.N.countL q ≤ q.length * (12 * 2 ^ kidsSum (l.drop (i + 1))) := by
            intro q
            induction q with
            | nil => intro _; simp [Bw.N.countL]
            | cons k r ihr =>
              intro h
              have h1 := h k (by simp)
              have h2 := ihr (fun k hk => h k (by simp [hk]))
              simp only [Bw.N.countL, List.length_cons, Nat.add_mul, Nat.one_mul]
              omega
          have h1 := hsum ks hk
          have hd : l.drop i = p :: l.drop (i + 1) := by rw [List.drop_eq_getElem_cons hil, hpi]
          have hs : kidsSum (l.drop i) = p.kids.length + kidsSum (l.drop (i + 1)) := by rw [hd]; simp [kidsSum]
          have h2 : ks.length ≤ 2 ^ ks.length := Nat.le_of_lt Nat.lt_two_pow_self
          have h3 : ks.length * (12 * 2 ^ kidsSum (l.drop (i + 1))) ≤ 2 ^ ks.length * (12 * 2 ^ kidsSum (l.drop (i + 1))) := Nat.mul_le_mul_right _ h2
          have h4 : 2 ^ ks.length * (12 * 2 ^ kidsSum (l.drop (i + 1))) = 12 * 2 ^ kidsSum (l.drop i) := by
            rw [hs, hkl, Nat.pow_add, ← Nat.mul_assoc, ← Nat.mul_assoc, Nat.mul_comm (2 ^ p.kids.length) 12]
          simp only [Bw.N.count]
          omega
      · obtain ⟨_, h2⟩ := fit_bucketO hps h
        omega

theorem few_all {l : List Bw.Plan} (hf : fineB l = true) {f i : Nat} {n : Bw.N} (h : Bw.build l f i = some n) : n.count ≤ 196608 := by
  have h1 := few_build hf f i n h
  have h2 : kidsSum l ≤ 14 := by
    unfold fineB at hf
    rw [Bool.and_eq_true, Bool.and_eq_true, decide_eq_true_iff] at hf
    exact of_decide_eq_true hf.2.2
  have h3 := kidsSum_drop l (Nat.zero_le i)
  rw [List.drop_zero] at h3
  have h4 : 12 * 2 ^ kidsSum (l.drop i) ≤ 12 * 2 ^ 14 := Nat.mul_le_mul_left _ (Nat.pow_le_pow_right (by decide) (by omega))
  omega

theorem flat_pairs (n : Bw.N) : n.flat = n.pairs := by
  refine Bw.N.ind (P := fun n => n.flat = n.pairs) (fun _ _ => rfl) (fun _ _ => rfl) ?_ n
  intro m kids ih
  have : ∀ ks : List Bw.N, (∀ k ∈ ks, k ∈ kids) → Bw.N.flatL ks = Bw.N.pairsL ks := by
    intro ks
    induction ks with
    | nil => intro _; rfl
    | cons k r ihr => intro hm; simp [Bw.N.flatL, Bw.N.pairsL, ih k (hm k (by simp)), ihr fun x hx => hm x (by simp [hx])]
  simp [Bw.N.flat, Bw.N.pairs, this kids fun _ h => h]
end Go.Proofs.Ytkblhilaeecdlaa
