
import Derived.Test.YtkblhilaeecdlaaDoorLaw2
import Derived.Test.YtkblhilaeecdlaaDoorBuild2
import Derived.Test.YtkblhilaeecdlaaDoorRight
namespace Go.Proofs.YtkblhilaeecdlaaDoor
open Go.RowKit Go.Bw

theorem fine_parts {l : List Bw.Plan} (h : fineB l = true) : l.length ≤ 12 ∧ ∀ p ∈ l, smallB p.pairs 12 = true ∧ p.kids.length ≤ 6 := by
  unfold fineB at h
  rw [Bool.and_eq_true, Bool.and_eq_true, decide_eq_true_iff, List.all_eq_true] at h
  refine ⟨h.1, fun p hp => ?_⟩
  have := h.2.1 p hp
  unfold planOk at this
  rw [Bool.and_eq_true, decide_eq_true_iff] at this
  exact this

/-- what is known of a node that build makes, at a depth -/
structure RFit (f : Nat) (n : Bw.N) : Prop where
  m32 : n.m32
  h64 : ∀ h ∈ n.abs.hashes, h < 18446744073709551616
  len : n.abs.hashes.length ≤ 7 ^ f
  count : n.count ≤ 12 * 7 ^ f

theorem m32L_of {l : List Bw.N} (h : ∀ k ∈ l, k.m32) : Bw.N.m32L l := by
  induction l with
  | nil => trivial
  | cons a r ih => exact ⟨h a (by simp), ih fun k hk => h k (by simp [hk])⟩

theorem rfit_bucketO {h : Nat} {ps : List Bw.PV} {n : Bw.N} {f : Nat} (hs : smallB ps 12 = true) (hh : h < 18446744073709551616) (hn : Bw.bucketO h (Bw.T.from (Bw.come ps)) = some n) : RFit f n := by
  obtain ⟨h12, hb⟩ := small_bounds hs
  have hlen := Bw.length_come ps
  have hsz : (Bw.T.from (Bw.come ps)).size = (Bw.come ps).length := Bw.T.size_from _
  have hpos : 1 ≤ 7 ^ f := Nat.one_le_pow _ _ (by decide)
  unfold Bw.bucketO at hn
  split at hn
  · cases hn
  · split at hn
    · cases hn
      exact ⟨trivial, fun x hx => by simp [Bw.N.abs, Bw.X.hashes] at hx; omega, by simp [Bw.N.abs, Bw.X.hashes]; omega, by simp [Bw.N.count]; omega⟩
    · cases hn
      exact ⟨trivial, fun x hx => by simp [Bw.N.abs, Bw.X.hashes] at hx; omega, by simp [Bw.N.abs, Bw.X.hashes]; omega, by simp only [Bw.N.count]; omega⟩

theorem fit_build {l : List Bw.Plan} (hf : fineB l = true) (hs : ∀ p ∈ l, p.set < 4294967296 ∧ p.hash < 18446744073709551616) : ∀ f i n, Bw.build l f i = some n → RFit f n := by
  intro f
  induction f with
  | zero => intro i n h; simp [Bw.build] at h
  | succ f ih =>
    intro i n h
    simp only [Bw.build] at h
    have hpow : 7 ^ (f + 1) = 7 * 7 ^ f := by rw [Nat.pow_succ]; omega
    cases hp : l[i]? with
    | none => simp [hp] at h
    | some p =>
      have hmem := List.mem_of_getElem? hp
      obtain ⟨hps, hpk⟩ := (fine_parts hf).2 p hmem
      simp only [hp] at h
      split at h
      · simp only [Bw.branchO] at h
        split at h
        · cases h
        · rename_i hc
          rw [not_or] at hc
          simp only [Option.map_eq_some_iff] at h
          obtain ⟨ks, hks, rfl⟩ := h
          have hsq := Bw.seqO_some hks
          have hlen : (Bw.kidsOf (Bw.build l f) i l.length p.kids).length = ks.length := by rw [hsq]; simp
          have hkl : ks.length ≤ 6 := by rw [← hlen]; simp [Bw.kidsOf]; exact hpk
          have hk : ∀ k ∈ ks, RFit f k := fun k hk => by
            have hk' : some k ∈ Bw.kidsOf (Bw.build l f) i l.length p.kids := by rw [hsq]; exact List.mem_map_of_mem hk
            simp only [Bw.kidsOf, List.mem_map] at hk'
            obtain ⟨z, _, hz⟩ := hk'
            split at hz
            · cases hz
            · exact ih _ _ hz
          have hsum : ∀ q : List Bw.N, (∀ k ∈ q, RFit f k) → Bw.N.countL q ≤ q.length * (12 * 7 ^ f) ∧ (Bw.X.hashesL (Bw.N.absL q)).length ≤ q.length * 7 ^ f ∧ ∀ h ∈ Bw.X.hashesL (Bw.N.absL q), h < 18446744073709551616 := by
            intro q
            induction q with
            | nil => intro _; simp [Bw.N.countL, Bw.N.absL, Bw.X.hashesL]
            | cons k r ihr =>
              intro h
              have h1 := h k (by simp)
              obtain ⟨h2, h3, h4⟩ := ihr (fun k hk => h k (by simp [hk]))
              have h5 := h1.count
              have h6 := h1.len
              refine ⟨?_, ?_, fun x hx => ?_⟩
              · simp only [Bw.N.countL, List.length_cons, Nat.add_mul, Nat.one_mul]
                omega
              · simp only [Bw.N.absL, Bw.X.hashesL, List.length_append, List.length_cons, Nat.add_mul, Nat.one_mul]
                omega
              · simp only [Bw.N.absL, Bw.X.hashesL, List.mem_append] at hx
                rcases hx with hx | hx
                · exact h1.h64 x hx
                · exact h4 x hx
          obtain ⟨s1, s2, s3⟩ := hsum ks hk
          have h6 : ks.length * (12 * 7 ^ f) ≤ 6 * (12 * 7 ^ f) := Nat.mul_le_mul_right _ hkl
          have h7 : ks.length * 7 ^ f ≤ 6 * 7 ^ f := Nat.mul_le_mul_right _ hkl
          have hH : (Bw.N.branch p.set ks).abs.hashes = Bw.X.hashesL (Bw.N.absL ks) := by simp [Bw.N.abs, Bw.X.hashes]
          refine ⟨⟨(hs p hmem).1, m32L_of fun k h => (hk k h).m32⟩, by rw [hH]; exact s3, by rw [hH, hpow]; omega, ?_⟩
          simp only [Bw.N.count]
          omega
      · exact rfit_bucketO hps (hs p hmem).2 h

theorem countOs_build {l : List Bw.Plan} (hf : fineB l = true) (hs : ∀ p ∈ l, p.set < 4294967296 ∧ p.hash < 18446744073709551616) (f i : Nat) (ks : List Int) (hk : ks.length ≤ 6) (hfl : f ≤ 12) : countOs (Bw.kidsOf (Bw.build l f) i l.length ks) ≤ 4611686018427387904 := by
  have h1 : ∀ q : List (Option Bw.N), (∀ o ∈ q, countO o ≤ 12 * 7 ^ f) → countOs q ≤ q.length * (12 * 7 ^ f) := by
    intro q
    induction q with
    | nil => intro _; simp [countOs]
    | cons o r ih =>
      intro h
      have h1 := h o (by simp)
      have h2 := ih (fun o ho => h o (by simp [ho]))
      simp only [countOs, List.map_cons, List.sum_cons, List.length_cons, Nat.add_mul, Nat.one_mul] at h2 ⊢
      omega
  have h2 := h1 (Bw.kidsOf (Bw.build l f) i l.length ks) (fun o ho => by
    simp only [Bw.kidsOf, List.mem_map] at ho
    obtain ⟨z, _, rfl⟩ := ho
    split
    · simp [countO]
    · cases hb : Bw.build l f z.toNat with
      | none => simp [countO]
      | some n => exact (fit_build hf hs f _ n hb).count)
  have h3 : (Bw.kidsOf (Bw.build l f) i l.length ks).length = ks.length := by simp [Bw.kidsOf]
  have h4 : 7 ^ f ≤ 7 ^ 12 := Nat.pow_le_pow_right (by decide) hfl
  rw [h3] at h2
  have h5 : ks.length * (12 * 7 ^ f) ≤ 6 * (12 * 7 ^ 12) := Nat.mul_le_mul hk (Nat.mul_le_mul_left _ h4)
  have h6 : 6 * (12 * 7 ^ 12) ≤ 4611686018427387904 := by decide
  omega

theorem build_any {l : List Bw.Plan} (hf : fineB l = true) (hs : ∀ p ∈ l, p.set < 4294967296 ∧ p.hash < 18446744073709551616) : ∀ f i (v : Value) (w : World), PlansAt AllB w v l → i < l.length → l.length ≤ i + f → f ≤ 13 →
    Calls Tryd.prog 6 #[v, .int .i64 (i : Nat)] w (Gives w (BuildTold w (Bw.build l f i))) := by
  intro f
  induction f with
  | zero => intro i v w _ h1 h2; omega
  | succ f ih =>
    intro i v w hr hi hif hf13
    have hq : l[i]? = some l[i] := List.getElem?_eq_getElem hi
    have hmem : l[i] ∈ l := List.getElem_mem hi
    obtain ⟨hps, hpk⟩ := (fine_parts hf).2 _ hmem
    have hset := (hs _ hmem).1
    have hb : Bw.build l (f + 1) i = if l[i].branch then Bw.branchO l[i].set (Bw.kidsOf (Bw.build l f) i l.length l[i].kids) else Bw.bucketO l[i].hash (Bw.T.from (Bw.come l[i].pairs)) := by
      simp only [Bw.build, hq]
    rw [hb]
    cases hbr : l[i].branch with
    | false =>
      rw [if_neg (by simp)]
      exact build_flat hq hbr hps hr
    | true =>
      rw [if_pos rfl]
      exact build_branch hq hbr hr hset hpk (Bw.build l f) (countOs_build hf hs f i _ hpk (by omega)) (fun z hz hzl W hW => ih z v W (hr.move goodPlan (Moves.below hW)) hzl (by omega) (by omega))

/-- what build is known to give, at any place -/
def RBuilds (l : List Bw.Plan) (v : Value) (w : World) (bf : Nat → Option Bw.N) : Prop :=
  ∀ i, i < l.length → (∀ W, Below w.heap.size w W → Calls Tryd.prog 6 #[v, .int .i64 (i : Nat)] W (Gives W (BuildTold W (bf i)))) ∧
    (∀ n, bf i = some n → n.wf ∧ n.m32 ∧ (∀ h ∈ n.abs.hashes, h < 18446744073709551616) ∧ n.abs.hashes.length ≤ 8796093022208)

theorem rbuilds_any {l : List Bw.Plan} {v : Value} {w : World} (hr : PlansAt AllB w v l) (hs : ∀ p ∈ l, p.set < 4294967296 ∧ p.hash < 18446744073709551616) (hf : fineB l = true) : RBuilds l v w (Bw.build l 13) := by
  intro i hi
  have hl := (fine_parts hf).1
  refine ⟨fun W hW => build_any hf hs 13 i v W (hr.move goodPlan (Moves.below hW)) hi (by omega) (Nat.le_refl _), fun n hn => ?_⟩
  obtain ⟨h1, h2, h3, _⟩ := fit_build hf hs 13 i n hn
  exact ⟨Bw.wf_build l 13 i n hn, h1, h2, Nat.le_trans h3 (by decide)⟩
end Go.Proofs.YtkblhilaeecdlaaDoor
