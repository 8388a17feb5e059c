/- Nodes in memory. tl, tb, tr: the dynamic types of a leaf, a bucket, a branch. Over any program. -/
import Derived.Test.YtkblhilaeecdlaaBwMem
import Derived.Test.YtkblhilaeecdlaaBwBuild
namespace Go.Bw
open Go.RowKit

structure NT where
  tl : Nat
  tb : Nat
  tr : Nat

mutual
def NodeAt (q : NT) (ok : Nat → Prop) (w : World) (v : Value) : Bw.N → Prop
  | .leaf h p => ∃ b u1 u2, v = .iface q.tl (.pointer (some ⟨b, 0, none⟩)) ∧ CellAt ok w b 0 (.int .u64 (h : Nat)) ∧ CellAt ok w b 1 u1 ∧ CellAt ok w b 2 u2 ∧ BytesAt ok w u1 p.1 ∧ BytesAt ok w u2 p.2
  | .bucket h t => ∃ b tv, v = .iface q.tb (.pointer (some ⟨b, 0, none⟩)) ∧ CellAt ok w b 0 (.int .u64 (h : Nat)) ∧ CellAt ok w b 1 tv ∧ TreeAt ok w tv t
  | .branch m kids => ∃ b g o c, v = .iface q.tr (.pointer (some ⟨b, 0, none⟩)) ∧ CellAt ok w b 0 (.int .u32 (m : Nat)) ∧ CellAt ok w b 1 (.slice (some ⟨g, o, none⟩) kids.length c) ∧
      CellAt ok w b 2 (.int .i64 (Bw.N.countL kids : Nat)) ∧ kids.length ≤ c ∧ c ≤ maxLen ∧ KidsAt q ok w g o kids
def KidsAt (q : NT) (ok : Nat → Prop) (w : World) (g o : Nat) : List Bw.N → Prop
  | [] => True
  | k :: r => (∃ v, CellAt ok w g o v ∧ NodeAt q ok w v k) ∧ KidsAt q ok w g (o + 1) r
end

theorem NodeAt.move {q : NT} {ok ok' : Nat → Prop} {w w' : World} (hm : Moves ok ok' w w') (n : Bw.N) : ∀ v, NodeAt q ok w v n → NodeAt q ok' w' v n := by
  refine Bw.N.ind (P := fun n => ∀ v, NodeAt q ok w v n → NodeAt q ok' w' v n) ?_ ?_ ?_ n
  · rintro h p v hv
    simp only [NodeAt] at hv ⊢
    obtain ⟨b, u1, u2, rfl, h0, h1, h2, k1, k2⟩ := hv
    exact ⟨b, u1, u2, rfl, h0.move hm, h1.move hm, h2.move hm, k1.move goodByte hm, k2.move goodByte hm⟩
  · rintro h t v hv
    simp only [NodeAt] at hv ⊢
    obtain ⟨b, tv, rfl, h0, h1, ht⟩ := hv
    exact ⟨b, tv, rfl, h0.move hm, h1.move hm, ht.move hm⟩
  · rintro m kids ih v hv
    simp only [NodeAt] at hv ⊢
    obtain ⟨b, g, o, c, rfl, h0, h1, h2, hl, hc, hk⟩ := hv
    refine ⟨b, g, o, c, rfl, h0.move hm, h1.move hm, h2.move hm, hl, hc, ?_⟩
    clear h0 h1 h2 hl hc
    induction kids generalizing o with
    | nil => simp only [KidsAt]
    | cons k r ihr =>
      simp only [KidsAt] at hk ⊢
      obtain ⟨⟨u, hu, hn⟩, hr⟩ := hk
      exact ⟨⟨u, hu.move hm, ih k (by simp) u hn⟩, ihr (fun k hk => ih k (by simp [hk])) _ hr⟩

theorem NodeAt.form {q : NT} {ok : Nat → Prop} {w : World} {v : Value} {n : Bw.N} (h : NodeAt q ok w v n) : ∃ t b, v = .iface t (.pointer (some ⟨b, 0, none⟩)) := by
  cases n <;> simp only [NodeAt] at h
  · obtain ⟨b, _, _, rfl, _⟩ := h; exact ⟨_, _, rfl⟩
  · obtain ⟨b, _, rfl, _⟩ := h; exact ⟨_, _, rfl⟩
  · obtain ⟨b, _, _, _, rfl, _⟩ := h; exact ⟨_, _, rfl⟩

def ONodeAt (q : NT) (ok : Nat → Prop) (w : World) (v : Value) : Option Bw.N → Prop
  | none => v = .nilIface
  | some n => NodeAt q ok w v n

theorem ONodeAt.move {q : NT} {ok ok' : Nat → Prop} {w w' : World} (hm : Moves ok ok' w w') {v : Value} {n : Option Bw.N} (h : ONodeAt q ok w v n) : ONodeAt q ok' w' v n := by
  cases n with
  | none => exact h
  | some n => exact NodeAt.move hm n v h

/-- a node, or none, as an element of one cell -/
def nodeK (q : NT) : Knd (Option Bw.N) := fun ok w n cs => ∃ v, cs = [v] ∧ ONodeAt q ok w v n

theorem goodNode (q : NT) : Good 1 (nodeK q) where
  len := by rintro ok w x cs ⟨v, rfl, _⟩; rfl
  one := by
    rintro ok w x cs ⟨v, rfl, h⟩ u hu
    simp only [List.mem_singleton] at hu
    subst hu
    cases x with
    | none => cases h; rfl
    | some n => obtain ⟨t, b, rfl⟩ := NodeAt.form h; rfl
  move := by
    rintro ok ok' w w' x cs hm ⟨v, rfl, h⟩
    exact ⟨v, rfl, h.move hm⟩

abbrev NodesAt (q : NT) := RowAt 1 (nodeK q)

theorem kids_of_row {q : NT} {ok : Nat → Prop} {w : World} {g o : Nat} {kids : List Bw.N} (h : ∀ j x, (kids.map some)[j]? = some x → ∃ cs, nodeK q ok w x cs ∧ ∀ i u, cs[i]? = some u → CellAt ok w g (o + (j * 1 + i)) u) : KidsAt q ok w g o kids := by
  induction kids generalizing o with
  | nil => simp only [KidsAt]
  | cons k r ih =>
    simp only [KidsAt]
    refine ⟨?_, ih fun j x hj => ?_⟩
    · obtain ⟨cs, ⟨v, rfl, hv⟩, hc⟩ := h 0 (some k) rfl
      exact ⟨v, by have := hc 0 v rfl; simpa using this, hv⟩
    · obtain ⟨cs, hx, hc⟩ := h (j + 1) x (by simpa using hj)
      refine ⟨cs, hx, fun i u hu => ?_⟩
      have := hc i u hu
      have e : o + ((j + 1) * 1 + i) = o + 1 + (j * 1 + i) := by omega
      rwa [e] at this

theorem row_of_kids {q : NT} {ok : Nat → Prop} {w : World} {g o : Nat} {kids : List Bw.N} (h : KidsAt q ok w g o kids) : ∀ j x, (kids.map some)[j]? = some x → ∃ cs, nodeK q ok w x cs ∧ ∀ i u, cs[i]? = some u → CellAt ok w g (o + (j * 1 + i)) u := by
  induction kids generalizing o with
  | nil => intro j x hj; simp at hj
  | cons k r ih =>
    simp only [KidsAt] at h
    obtain ⟨⟨v, hv, hn⟩, hr⟩ := h
    intro j x hj
    cases j with
    | zero =>
      simp only [List.map_cons, List.getElem?_cons_zero, Option.some.injEq] at hj
      subst hj
      refine ⟨[v], ⟨v, rfl, hn⟩, fun i u hu => ?_⟩
      cases i with
      | zero => simp only [List.getElem?_cons_zero, Option.some.injEq] at hu; subst hu; simpa using hv
      | succ i => simp at hu
    | succ j =>
      obtain ⟨cs, hx, hc⟩ := ih hr j x (by simpa using hj)
      refine ⟨cs, hx, fun i u hu => ?_⟩
      have := hc i u hu
      have e : o + ((j + 1) * 1 + i) = o + 1 + (j * 1 + i) := by omega
      rwa [e]

end Go.Bw
