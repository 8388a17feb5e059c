/- Nodes as plain data; what the document has for them; when they are right. -/
import Derived.Test.YtkblhilaeecdlaaBwModel
namespace Bw

inductive N where
  | leaf (h : Nat) (p : PV)
  | bucket (h : Nat) (t : T)
  | branch (m : Nat) (kids : List N)

theorem N.ind {P : N → Prop} (hl : ∀ h p, P (.leaf h p)) (hb : ∀ h t, P (.bucket h t)) (hk : ∀ m kids, (∀ k ∈ kids, P k) → P (.branch m kids)) : ∀ n, P n := by
  intro n
  refine N.rec (motive_1 := P) (motive_2 := fun l => ∀ k ∈ l, P k) hl hb (fun m kids h => hk m kids h) ?_ ?_ n
  · intro k hk; cases hk
  · intro k r h1 h2 x hx
    rcases List.mem_cons.1 hx with rfl | hx
    · exact h1
    · exact h2 x hx

/-- a node as the document has it: kind, hash, pairs, numbers, children -/
inductive X where
  | mk (kind hash : Nat) (pairs : List PV) (set : List Nat) (kids : List X)

def X.kind : X → Nat | .mk k _ _ _ _ => k
def X.hash : X → Nat | .mk _ h _ _ _ => h
def X.pairs : X → List PV | .mk _ _ p _ _ => p
def X.set : X → List Nat | .mk _ _ _ s _ => s
def X.kids : X → List X | .mk _ _ _ _ k => k
def X.zero : X := .mk 0 0 [] [] []

theorem X.ind {P : X → Prop} (hk : ∀ k h p s kids, (∀ y ∈ kids, P y) → P (.mk k h p s kids)) : ∀ x, P x := by
  intro x
  refine X.rec (motive_1 := P) (motive_2 := fun l => ∀ y ∈ l, P y) (fun k h p s kids ih => hk k h p s kids ih) ?_ ?_ x
  · intro k hk; cases hk
  · intro k r h1 h2 x hx
    rcases List.mem_cons.1 hx with rfl | hx
    · exact h1
    · exact h2 x hx

/-- the numbers of a set, rising -/
def bitsOf (m : Nat) : List Nat := (List.range 32).filter (m.testBit ·)

mutual
def N.abs : N → X
  | .leaf h p => .mk 1 h [p] [] []
  | .bucket h t => .mk 2 h t.list [] []
  | .branch m kids => .mk 3 0 [] (bitsOf m) (N.absL kids)
def N.absL : List N → List X
  | [] => []
  | k :: r => k.abs :: N.absL r
end

theorem N.absL_eq (l : List N) : N.absL l = l.map N.abs := by
  induction l with
  | nil => simp [N.absL]
  | cons k r ih => simp [N.absL, ih]

def absO : Option N → X
  | none => .zero
  | some n => n.abs

def N.isBranch : N → Bool | .branch .. => true | _ => false

mutual
def N.count : N → Nat
  | .leaf .. => 1
  | .bucket _ t => t.size
  | .branch _ kids => N.countL kids
def N.countL : List N → Nat
  | [] => 0
  | k :: r => k.count + N.countL r
end

def chunkAt (h level : Nat) : Nat := h / 32 ^ level % 32

mutual
/-- have all hashes in it a chunk at a level? -/
def N.under (level c : Nat) : N → Bool
  | .leaf h _ => chunkAt h level == c
  | .bucket h _ => chunkAt h level == c
  | .branch _ kids => N.underL level c kids
def N.underL (level c : Nat) : List N → Bool
  | [] => true
  | k :: r => k.under level c && N.underL level c r
end

mutual
def N.right (level : Nat) : N → Bool
  | .leaf .. => true
  | .bucket .. => true
  | .branch m kids => !(level == 13) && !(kids.length == 1 && !N.anyBranch kids) && N.rightL level (bitsOf m) kids
def N.rightL (level : Nat) (cs : List Nat) : List N → Bool
  | [] => true
  | k :: r => k.right (level + 1) && k.under level (cs.headD 0) && N.rightL level cs.tail r
def N.anyBranch : List N → Bool
  | [] => false
  | k :: r => k.isBranch || N.anyBranch r
end

end Bw
