/- What brushwoodlaw16.build makes, as plain data. -/
import Derived.Test.YtkblhilaeecdlaaBwRight
namespace Bw

def T.root : T → PV
  | .nil => ([], [])
  | .node _ p _ => p

def bucketO (h : Nat) (t : T) : Option N := if t.size = 0 then none else if t.size = 1 then some (.leaf h t.root) else some (.bucket h t)

def seqO : List (Option N) → Option (List N)
  | [] => some []
  | none :: _ => none
  | some k :: r => (seqO r).map (k :: ·)

def branchO (m : Nat) (kids : List (Option N)) : Option N :=
  if kids.length = 0 ∨ kids.length ≠ (bitsOf m).length then none else (seqO kids).map (N.branch m)

structure Plan where
  branch : Bool
  hash : Nat
  pairs : List PV
  set : Nat
  kids : List Int

def kidsOf (b : Nat → Option N) (i n : Nat) (ks : List Int) : List (Option N) :=
  ks.map fun k => if k ≤ (i : Int) ∨ (n : Int) ≤ k then none else b k.toNat

def build (l : List Plan) : Nat → Nat → Option N
  | 0, _ => none
  | f + 1, i => match l[i]? with
    | none => none
    | some p => if p.branch then branchO p.set (kidsOf (build l f) i l.length p.kids) else bucketO p.hash (T.from (come p.pairs))

theorem seqO_some {l : List (Option N)} {ks : List N} (h : seqO l = some ks) : l = ks.map some := by
  induction l generalizing ks with
  | nil => simp [seqO] at h; subst h; rfl
  | cons o r ih =>
    cases o with
    | none => simp [seqO] at h
    | some k =>
      simp only [seqO, Option.map_eq_some_iff] at h
      obtain ⟨q, hq, rfl⟩ := h
      simp [← ih hq]

theorem wf_build (l : List Plan) : ∀ f i n, build l f i = some n → n.wf := by
  intro f
  induction f with
  | zero => intro i n h; simp [build] at h
  | succ f ih =>
    intro i n h
    simp only [build] at h
    cases hp : l[i]? with
    | none => simp [hp] at h
    | some p =>
      simp only [hp] at h
      split at h
      · simp only [branchO] at h
        split at h
        · cases h
        · rename_i hc
          rw [not_or] at hc
          simp only [Option.map_eq_some_iff] at h
          obtain ⟨ks, hks, rfl⟩ := h
          have hs := seqO_some hks
          have hlen : (kidsOf (build l f) i l.length p.kids).length = ks.length := by rw [hs]; simp
          rw [N.wf, N.wfL_iff]
          refine ⟨fun e => ?_, ?_, fun k hk => ?_⟩
          · subst e; exact hc.1 hlen
          · rw [← hlen]; exact Decidable.not_not.1 hc.2
          · have hk' : some k ∈ kidsOf (build l f) i l.length p.kids := by rw [hs]; exact List.mem_map_of_mem hk
            simp only [kidsOf, List.mem_map] at hk'
            obtain ⟨z, _, hz⟩ := hk'
            split at hz
            · cases hz
            · exact ih _ _ hz
      · simp only [bucketO] at h
        split at h
        · cases h
        · split at h <;> (cases h; trivial)

end Bw
