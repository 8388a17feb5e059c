/- Whether a node is right is what the document says of its plain form. -/
import Derived.Test.YtkblhilaeecdlaaBwNode
namespace Bw

mutual
def X.hashes : X → List Nat
  | .mk k h _ _ kids => if k = 3 then X.hashesL kids else [h]
def X.hashesL : List X → List Nat
  | [] => []
  | k :: r => k.hashes ++ X.hashesL r
end

mutual
def X.right (level : Nat) : X → Bool
  | .mk k _ _ s kids => if k = 3 then !(decide (12 < level) || kids.isEmpty || X.lone kids) && X.rightL level s kids else true
def X.rightL (level : Nat) (s : List Nat) : List X → Bool
  | [] => true
  | k :: r => k.right (level + 1) && k.hashes.all (fun h => chunkAt h level == s.headD 0) && X.rightL level s.tail r
def X.lone : List X → Bool
  | [.mk k _ _ _ _] => !(k == 3)
  | _ => false
end

/-- as many children as numbers, and some -/
def N.wf1 : N → Prop
  | .branch m kids => kids ≠ [] ∧ kids.length = (bitsOf m).length
  | _ => True

theorem absL_isEmpty (l : List N) : (N.absL l).isEmpty = l.isEmpty := by cases l <;> rfl

theorem lone_abs (l : List N) : X.lone (N.absL l) = (l.length == 1 && !N.anyBranch l) := by
  match l with
  | [] => rfl
  | [k] => cases k <;> rfl
  | k :: k2 :: r => cases k <;> simp [N.absL, X.lone, N.abs]

theorem under_abs (level c : Nat) (n : N) : n.abs.hashes.all (fun h => chunkAt h level == c) = n.under level c := by
  refine N.ind (P := fun n => n.abs.hashes.all (fun h => chunkAt h level == c) = n.under level c) ?_ ?_ ?_ n
  · intro h p; simp [N.abs, X.hashes, N.under]
  · intro h p; simp [N.abs, X.hashes, N.under]
  · intro m kids ih
    simp only [N.abs, X.hashes, N.under, if_true]
    induction kids with
    | nil => rfl
    | cons k r ihr =>
      simp only [N.absL, X.hashesL, N.underL, List.all_append]
      rw [ih k (by simp), ihr (fun k hk => ih k (by simp [hk]))]

mutual
/-- all branches in a node have as many children as numbers -/
def N.wf : N → Prop
  | .leaf .. => True
  | .bucket .. => True
  | .branch m kids => kids ≠ [] ∧ kids.length = (bitsOf m).length ∧ N.wfL kids
def N.wfL : List N → Prop
  | [] => True
  | k :: r => k.wf ∧ N.wfL r
end

theorem N.wfL_iff (l : List N) : N.wfL l ↔ ∀ k ∈ l, k.wf := by
  induction l with
  | nil => simp [N.wfL]
  | cons k r ih => simp [N.wfL, ih]

theorem right_abs (n : N) : ∀ level, level ≤ 13 → n.wf → n.abs.right level = n.right level := by
  refine N.ind (P := fun n => ∀ level, level ≤ 13 → n.wf → n.abs.right level = n.right level) ?_ ?_ ?_ n
  · intro h p level _ _; simp [N.abs, X.right, N.right]
  · intro h p level _ _; simp [N.abs, X.right, N.right]
  · intro m kids ih level hl hw
    simp only [N.wf] at hw
    obtain ⟨hne, hlen, hwl⟩ := hw
    simp only [N.abs, X.right, N.right, if_true, absL_isEmpty, lone_abs]
    have he : kids.isEmpty = false := by cases kids <;> simp_all
    by_cases h13 : level = 13
    · subst h13; simp
    · have hlt : ¬ 12 < level := by omega
      have hb : (level == 13) = false := by simpa using h13
      simp only [he, hlt, hb, decide_false, Bool.false_or, Bool.not_false, Bool.true_and]
      congr 1
      generalize bitsOf m = cs
      clear hlen he hne
      induction kids generalizing cs with
      | nil => rfl
      | cons k r ihr =>
        simp only [N.absL, X.rightL, N.rightL]
        rw [ih k (by simp) (level + 1) (by omega) hwl.1, under_abs, ihr (fun k hk => ih k (by simp [hk])) hwl.2]

end Bw
