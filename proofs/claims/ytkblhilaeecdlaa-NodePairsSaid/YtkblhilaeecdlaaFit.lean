
import Derived.Test.YtkblhilaeecdlaaLaw3
import Derived.Test.YtkblhilaeecdlaaBuild2
namespace Go.Proofs.Ytkblhilaeecdlaa
open Go.RowKit Go.Bw

theorem fine_parts {l : List Bw.Plan} (h : fineB l = true) : l.length ≤ 12 ∧ ∀ p ∈ l, smallB p.pairs 12 = true ∧ p.kids.length ≤ 6 := by
  unfold fineB at h
  rw [Bool.and_eq_true, Bool.and_eq_true, decide_eq_true_iff, List.all_eq_true] at h
  refine ⟨h.1, fun p hp => ?_⟩
  have := h.2.1 p hp
  unfold planOk at this
  rw [Bool.and_eq_true, decide_eq_true_iff] at this
  exact this

theorem fit_bucketO {h : Nat} {ps : List Bw.PV} {n : Bw.N} (hs : smallB ps 12 = true) (hn : Bw.bucketO h (Bw.T.from (Bw.come ps)) = some n) : n.fit ∧ n.count ≤ 12 := by
  obtain ⟨h12, hb⟩ := small_bounds hs
  have hlen := Bw.length_come ps
  have hbd : ∀ p ∈ (Bw.T.from (Bw.come ps)).list, p.1.length ≤ 1048576 ∧ p.2.length ≤ 1048576 := fun p hp => by
    rw [Bw.T.list_from] at hp
    exact hb p (Bw.mem_come hp)
  have hsz : (Bw.T.from (Bw.come ps)).size = (Bw.come ps).length := Bw.T.size_from _
  unfold Bw.bucketO at hn
  split at hn
  · cases hn
  · split at hn
    · cases hn
      refine ⟨?_, by simp [Bw.N.count]⟩
      rename_i h0 h1
      simp only [Bw.N.fit]
      generalize hc : Bw.come ps = m at *
      rw [hsz] at h1
      match m, h1 with
      | [x], _ =>
        have hx : (Bw.T.from [x]).root = x := by simp [Bw.T.from, Bw.T.root]
        rw [hx]
        exact hb x (Bw.mem_come (by rw [hc]; simp))
    · cases hn
      refine ⟨⟨Bw.T.even_from _, by rw [Bw.T.list_from]; exact Bw.rises_come _, hbd, by rw [hsz]; omega⟩, ?_⟩
      simp only [Bw.N.count]
      omega

theorem fit_build {l : List Bw.Plan} (hf : fineB l = true) (hs : ∀ p ∈ l, p.set < 4294967296) : ∀ f i n, Bw.build l f i = some n → n.fit ∧ n.count ≤ 12 * 7 ^ f := by
  intro f
  induction f with
  | zero => intro i n h; simp [Bw.build] at h
  | succ f ih =>
    intro i n h
    simp only [Bw.build] at h
    have hpow : 12 * 7 ^ (f + 1) = 7 * (12 * 7 ^ f) := by rw [Nat.pow_succ]; omega
    have hpos : 1 ≤ 7 ^ f := Nat.one_le_pow _ _ (by decide)
    cases hp : l[i]? with
    | none => simp [hp] at h
    | some p =>
      have hmem := List.mem_of_getElem? hp
      obtain ⟨hps, hpk⟩ := (fine_parts hf).2 p hmem
      simp only [hp] at h
      split at h
      · simp only [Bw.branchO] at h
        split at h
        · cases h
        · rename_i hc
          rw [not_or] at hc
          simp only [Option.map_eq_some_iff] at h
          obtain ⟨ks, hks, rfl⟩ := h
          have hsq := Bw.seqO_some hks
          have hlen : (Bw.kidsOf (Bw.build l f) i l.length p.kids).length = ks.length := by rw [hsq]; simp
          have hkl : ks.length ≤ 6 := by rw [← hlen]; simp [Bw.kidsOf]; exact hpk
          have hk : ∀ k ∈ ks, k.fit ∧ k.count ≤ 12 * 7 ^ f := fun k hk => by
            have hk' : some k ∈ Bw.kidsOf (Bw.build l f) i l.length p.kids := by rw [hsq]; exact List.mem_map_of_mem hk
            simp only [Bw.kidsOf, List.mem_map] at hk'
            obtain ⟨z, _, hz⟩ := hk'
            split at hz
            · cases hz
            · exact ih _ _ hz
          refine ⟨⟨hs p hmem, by rw [← hlen]; exact Decidable.not_not.1 hc.2, (Bw.N.fitL_iff _).2 fun k h => (hk k h).1⟩, ?_⟩
          have hsum : ∀ q : List Bw.N, (∀ k ∈ q, k.count ≤ 12 * 7 ^ f) → Bw.N.countL q ≤ q.length * (12 * 7 ^ f) := by
            intro q
            induction q with
            | nil => intro _; simp [Bw.N.countL]
            | cons k r ihr =>
              intro h
              have h1 := h k (by simp)
              have h2 := ihr (fun k hk => h k (by simp [hk]))
              simp only [Bw.N.countL, List.length_cons, Nat.add_mul, Nat.one_mul]
              omega
          have := hsum ks (fun k h => (hk k h).2)
          have h6 : ks.length * (12 * 7 ^ f) ≤ 6 * (12 * 7 ^ f) := Nat.mul_le_mul_right _ hkl
          simp only [Bw.N.count]
          omega
      · obtain ⟨h1, h2⟩ := fit_bucketO hps h
        exact ⟨h1, by omega⟩

theorem countOs_build {l : List Bw.Plan} (hf : fineB l = true) (hs : ∀ p ∈ l, p.set < 4294967296) (f i : Nat) (ks : List Int) (hk : ks.length ≤ 6) (hfl : f ≤ 12) : countOs (Bw.kidsOf (Bw.build l f) i l.length ks) ≤ 4611686018427387904 := by
  have h1 : ∀ q : List (Option Bw.N), (∀ o ∈ q, countO o ≤ 12 * 7 ^ f) → countOs q ≤ q.length * (12 * 7 ^ f) := by
    intro q
    induction q with
    | nil => intro _; simp [countOs]
    | cons o r ih =>
      intro h
      have h1 := h o (by simp)
      have h2 := ih (fun o ho => h o (by simp [ho]))
      simp only [countOs, List.map_cons, List.sum_cons, List.length_cons, Nat.add_mul, Nat.one_mul] at h2 ⊢
      omega
  have h2 := h1 (Bw.kidsOf (Bw.build l f) i l.length ks) (fun o ho => by
    simp only [Bw.kidsOf, List.mem_map] at ho
    obtain ⟨z, _, rfl⟩ := ho
    split
    · simp [countO]
    · cases hb : Bw.build l f z.toNat with
      | none => simp [countO]
      | some n => exact (fit_build hf hs f _ n hb).2)
  have h3 : (Bw.kidsOf (Bw.build l f) i l.length ks).length = ks.length := by simp [Bw.kidsOf]
  have h4 : 7 ^ f ≤ 7 ^ 12 := Nat.pow_le_pow_right (by decide) hfl
  rw [h3] at h2
  have h5 : ks.length * (12 * 7 ^ f) ≤ 6 * (12 * 7 ^ 12) := Nat.mul_le_mul hk (Nat.mul_le_mul_left _ h4)
  have h6 : 6 * (12 * 7 ^ 12) ≤ 4611686018427387904 := by decide
  omega

theorem build_any {l : List Bw.Plan} (hf : fineB l = true) (hs : ∀ p ∈ l, p.set < 4294967296) : ∀ f i (v : Value) (w : World), PlansAt AllB w v l → i < l.length → l.length ≤ i + f → f ≤ 13 →
    Calls Try.prog 8 #[v, .int .i64 (i : Nat)] w (Gives w (BuildTold w (Bw.build l f i))) := by
  intro f
  induction f with
  | zero => intro i v w _ h1 h2; omega
  | succ f ih =>
    intro i v w hr hi hif hf13
    have hq : l[i]? = some l[i] := List.getElem?_eq_getElem hi
    have hmem : l[i] ∈ l := List.getElem_mem hi
    obtain ⟨hps, hpk⟩ := (fine_parts hf).2 _ hmem
    have hset := hs _ hmem
    have hb : Bw.build l (f + 1) i = if l[i].branch then Bw.branchO l[i].set (Bw.kidsOf (Bw.build l f) i l.length l[i].kids) else Bw.bucketO l[i].hash (Bw.T.from (Bw.come l[i].pairs)) := by
      simp only [Bw.build, hq]
    rw [hb]
    cases hbr : l[i].branch with
    | false =>
      rw [if_neg (by simp)]
      exact build_flat hq hbr hps hr
    | true =>
      rw [if_pos rfl]
      exact build_branch hq hbr hr hset hpk (Bw.build l f) (countOs_build hf hs f i _ hpk (by omega)) (fun z hz hzl W hW => ih z v W (hr.move goodPlan (Moves.below hW)) hzl (by omega) (by omega))

theorem builds_any {l : List Bw.Plan} {v : Value} {w : World} (hr : PlansAt AllB w v l) (hs : ∀ p ∈ l, p.set < 4294967296) (hf : fineB l = true) : Builds l v w (Bw.build l 13) := by
  intro i hi
  have hl := (fine_parts hf).1
  refine ⟨fun W hW => build_any hf hs 13 i v W (hr.move goodPlan (Moves.below hW)) hi (by omega) (Nat.le_refl _), fun n hn => ?_⟩
  obtain ⟨h1, h2⟩ := fit_build hf hs 13 i n hn
  exact ⟨h1, Nat.le_trans h2 (by decide)⟩
end Go.Proofs.Ytkblhilaeecdlaa
