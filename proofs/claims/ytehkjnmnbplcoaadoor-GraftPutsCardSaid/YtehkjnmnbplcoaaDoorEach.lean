
import Derived.Test.YtehkjnmnbplcoaaDoorWeigh
import Derived.Test.YtehkjnmnbplcoaaDoorOwn
import Derived.Test.YtehkjnmnbplcoaaDoorBwAll
import Derived.Shelf.Abstract
namespace Go.Proofs.YtehkjnmnbplcoaaDoor
open Go.RowKit Go.Bw

/-- the trees in a tree, in order -/
def nodes : Bw.T → List Bw.T
  | .nil => []
  | .node l p r => nodes l ++ .node l p r :: nodes r

set_option maxRecDepth 100000 in
set_option maxHeartbeats 400000 in
theorem each_any {ok : Nat → Prop} {w0 : World} (K : Nat) (hE : ∀ args w, (callFunc K args).run Tryd.prog w = .ok (.enter K args) w) (cap : Value) (Inv : List Bw.T → World → Prop) (hmv : ∀ pre w, Inv pre w → Moves ok ok w0 w ∧ w0.heap.size ≤ w.heap.size)
    (all : List Bw.T) (hy : ∀ pre l p r post b w, all = pre ++ .node l p r :: post → Inv pre w → TreeAt ok w (.pointer (some ⟨b, 0, none⟩)) (.node l p r) →
      Calls Tryd.prog K #[.pointer (some ⟨b, 0, none⟩), cap] w fun e w' => e = .returned (.bool true) ∧ Inv (pre ++ [.node l p r]) w') :
    ∀ (t : Bw.T) (v : Value) (pre post : List Bw.T) (w : World), all = pre ++ nodes t ++ post → Inv pre w → TreeAt ok w0 v t →
      Calls Tryd.prog 82 #[v, .func (Fn.func K) #[] #[cap]] w fun e w' => e = .returned (.bool true) ∧ Inv (pre ++ nodes t) w' := by
  intro t
  induction t with
  | nil =>
    intro v pre post w ha hi ht
    simp only [TreeAt] at ht
    subst ht
    clear hy
    have HI := Lib.hid hi
    clear hi ha hmv
    go_enter Tryd.func82, Tryd.ntmps82
    go_wp2
    go_ret
    exact ⟨rfl, by simpa [nodes] using HI.out⟩
  | node l p r ihl ihr =>
    intro v pre post w ha hi ht
    have HT := Lib.hid ht
    simp only [TreeAt] at ht
    obtain ⟨b, u1, u2, lv, rv, rfl, h0, h1, h2, h3, h4, k1, k2, hl, hr⟩ := ht
    simp only [nodes] at ha
    have CL := Lib.hid (ihl lv pre (.node l p r :: nodes r ++ post) w (by simpa using ha) hi hl)
    have CY := Lib.hid (fun w1 (h : Inv (pre ++ nodes l) w1) => hy (pre ++ nodes l) l p r (nodes r ++ post) b w1 (by simpa using ha) h (TreeAt.move (hmv _ _ h).1 _ _ HT.out))
    have CR := Lib.hid (fun w1 (h : Inv (pre ++ nodes l ++ [.node l p r]) w1) => ihr rv (pre ++ nodes l ++ [.node l p r]) post w1 (by simpa using ha) h hr)
    have HM := Lib.hid hmv
    have HI := Lib.hid hi
    obtain ⟨A1, rfl⟩ := hl.form
    obtain ⟨A2, rfl⟩ := hr.form
    have d2 : w.cell? ⟨b, 2, none⟩ = some (.pointer A1) := (h2.move (hmv _ _ hi).1).2
    have H3 := Lib.hid h3
    clear hy ihl ihr ha hi k1 k2 hl hr hmv h0 h1 h2 h3 h4
    go_enter Tryd.func82, Tryd.ntmps82
    go_wp2_with fail
    refine CL.out.mono ?_
    rintro e w1 ⟨rfl, hi1⟩
    have CY1 := Lib.hid (CY.out w1 hi1)
    clear hi1
    go_wp2_with fail
    go_at_fn K
    refine CY1.out.mono ?_
    rintro e w2 ⟨rfl, hi2⟩
    have CR1 := Lib.hid (CR.out w2 hi2)
    have d3 : w2.cell? ⟨b, 3, none⟩ = some (.pointer A2) := (H3.out.move (HM.out _ _ hi2).1).2
    clear hi2
    go_wp2_with fail
    refine CR1.out.mono ?_
    rintro e w3 ⟨rfl, hi3⟩
    have HI3 := Lib.hid hi3
    clear hi3
    go_wp2
    go_ret
    exact ⟨rfl, by simpa [nodes] using HI3.out⟩
end Go.Proofs.YtehkjnmnbplcoaaDoor
