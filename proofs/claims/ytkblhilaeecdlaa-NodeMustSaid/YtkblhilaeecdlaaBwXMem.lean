/- What the document has for a node, in memory: five cells. Strings, numbers. Plans in memory. Over any program. -/
import Derived.Test.YtkblhilaeecdlaaBwMem2
import Derived.Test.YtkblhilaeecdlaaBwBits
namespace Go.Bw
open Go.RowKit

def str (b : Bw.Bytes) : Value := .string ⟨b.toArray⟩
abbrev strK : Knd Bw.Bytes := immK str
theorem goodStr : _root_.Go.Bw.Good 1 strK := Good.imm (fun _ => rfl)
/-- a pair of two strings -/
abbrev spK : Knd Bw.PV := prK strK strK
theorem goodSp : _root_.Go.Bw.Good 2 spK := goodStr.pr goodStr
abbrev SPairsAt := RowAt 2 spK

theorem spK_open {ok : Nat → Prop} {w : World} {p : Bw.PV} {cs : List Value} (h : spK ok w p cs) : cs = [str p.1, str p.2] := by
  obtain ⟨a, b, rfl, rfl, rfl⟩ := h
  rfl
theorem spK_mk {ok : Nat → Prop} {w : World} {p : Bw.PV} : spK ok w p [str p.1, str p.2] := ⟨[str p.1], [str p.2], rfl, rfl, rfl⟩
theorem sp_get {ok : Nat → Prop} {w : World} {A : Option Addr} {n c j : Nat} {xs : List Bw.PV} {p : Bw.PV} (h : SPairsAt ok w (.slice A n c) xs) (hj : xs[j]? = some p) :
    ∃ b o, A = some ⟨b, o, none⟩ ∧ ok b ∧ w.cell? ⟨b, o + j * 2, none⟩ = some (str p.1) ∧ w.cell? ⟨b, o + j * 2 + 1, none⟩ = some (str p.2) := by
  obtain ⟨b, o, cs, rfl, hx, hc⟩ := h.get hj
  obtain rfl := spK_open hx
  exact ⟨b, o, rfl, (hc 0 _ rfl).1, (hc 0 _ rfl).2, (hc 1 _ rfl).2⟩

def encN (n : Nat) : Value := .int .i64 (n : Nat)
abbrev natK : Knd Nat := immK encN
theorem goodNat : _root_.Go.Bw.Good 1 natK := Good.imm (fun _ => rfl)
abbrev NatsAt := RowAt 1 natK

mutual
def XAt (ok : Nat → Prop) (w : World) (cs : List Value) : Bw.X → Prop
  | .mk k h ps set kids => ∃ vp vs A c, cs = [.int .i64 (k : Nat), .int .u64 (h : Nat), vp, vs, .slice A kids.length c] ∧ SPairsAt ok w vp ps ∧ NatsAt ok w vs set ∧
      kids.length ≤ c ∧ c ≤ maxLen ∧ (A = none → c = 0) ∧ (∀ ad, A = some ad → kids ≠ [] → ad.spot = none) ∧ XKidsAt ok w A 0 kids
def XKidsAt (ok : Nat → Prop) (w : World) (A : Option Addr) (o : Nat) : List Bw.X → Prop
  | [] => True
  | y :: r => (∃ ad cs, A = some ad ∧ XAt ok w cs y ∧ ∀ i u, cs[i]? = some u → CellAt ok w ad.block (ad.off + (o + i)) u) ∧ XKidsAt ok w A (o + 5) r
end

def xK : Knd Bw.X := fun ok w x cs => XAt ok w cs x

theorem xkids_iff {ok : Nat → Prop} {w : World} {A : Option Addr} {kids : List Bw.X} : ∀ o, XKidsAt ok w A o kids ↔ ∀ j x, kids[j]? = some x → ∃ ad cs, A = some ad ∧ xK ok w x cs ∧ ∀ i u, cs[i]? = some u → CellAt ok w ad.block (ad.off + (o + (j * 5 + i))) u := by
  induction kids with
  | nil => intro o; simp [XKidsAt]
  | cons k r ih =>
    intro o
    simp only [XKidsAt]
    constructor
    · rintro ⟨h1, h2⟩ j x hj
      cases j with
      | zero =>
        simp only [List.getElem?_cons_zero, Option.some.injEq] at hj
        subst hj
        obtain ⟨ad, cs, e, hx, hc⟩ := h1
        exact ⟨ad, cs, e, hx, fun i u hu => by simpa using hc i u hu⟩
      | succ j =>
        obtain ⟨ad, cs, e, hx, hc⟩ := (ih (o + 5)).1 h2 j x (by simpa using hj)
        refine ⟨ad, cs, e, hx, fun i u hu => ?_⟩
        have := hc i u hu
        rwa [show o + 5 + (j * 5 + i) = o + ((j + 1) * 5 + i) by omega] at this
    · intro h
      refine ⟨?_, (ih (o + 5)).2 fun j x hj => ?_⟩
      · obtain ⟨ad, cs, e, hx, hc⟩ := h 0 k rfl
        exact ⟨ad, cs, e, hx, fun i u hu => by simpa using hc i u hu⟩
      · obtain ⟨ad, cs, e, hx, hc⟩ := h (j + 1) x (by simpa using hj)
        refine ⟨ad, cs, e, hx, fun i u hu => ?_⟩
        have := hc i u hu
        rwa [show o + ((j + 1) * 5 + i) = o + 5 + (j * 5 + i) by omega] at this

theorem xK_iff {ok : Nat → Prop} {w : World} {k h : Nat} {ps : List Bw.PV} {set : List Nat} {kids : List Bw.X} {cs : List Value} :
    xK ok w (.mk k h ps set kids) cs ↔ ∃ vp vs vk, cs = [.int .i64 (k : Nat), .int .u64 (h : Nat), vp, vs, vk] ∧ SPairsAt ok w vp ps ∧ NatsAt ok w vs set ∧ RowAt 5 xK ok w vk kids := by
  unfold xK
  simp only [XAt]
  constructor
  · rintro ⟨vp, vs, A, c, rfl, h1, h2, h3, h4, h5, h6, h7⟩
    exact ⟨vp, vs, _, rfl, h1, h2, A, c, rfl, h3, h4, h5, h6, fun j x hj => by have := (xkids_iff 0).1 h7 j x hj; simp only [Nat.zero_add] at this; exact this⟩
  · rintro ⟨vp, vs, vk, rfl, h1, h2, A, c, rfl, h3, h4, h5, h6, h7⟩
    exact ⟨vp, vs, A, c, rfl, h1, h2, h3, h4, h5, h6, (xkids_iff 0).2 fun j x hj => by simp only [Nat.zero_add]; exact h7 j x hj⟩

theorem XAt.move {ok ok' : Nat → Prop} {w w' : World} (hm : Moves ok ok' w w') (x : Bw.X) : ∀ cs, xK ok w x cs → xK ok' w' x cs := by
  refine Bw.X.ind (P := fun x => ∀ cs, xK ok w x cs → xK ok' w' x cs) ?_ x
  intro k h p s kids ih cs hc
  rw [xK_iff] at hc ⊢
  obtain ⟨vp, vs, vk, rfl, h1, h2, A, c, rfl, h3, h4, h5, h6, h7⟩ := hc
  refine ⟨vp, vs, _, rfl, h1.move goodSp hm, h2.move goodNat hm, A, c, rfl, h3, h4, h5, h6, fun j x hj => ?_⟩
  obtain ⟨ad, cs, e, hx, hcc⟩ := h7 j x hj
  exact ⟨ad, cs, e, ih x (List.mem_of_getElem? hj) cs hx, fun i u hu => (hcc i u hu).move hm⟩

theorem goodX : _root_.Go.Bw.Good 5 xK where
  len := by
    rintro ok w ⟨k, h, p, s, kids⟩ cs hc
    rw [xK_iff] at hc
    obtain ⟨vp, vs, vk, rfl, _⟩ := hc
    rfl
  one := by
    rintro ok w ⟨k, h, p, s, kids⟩ cs hc u hu
    rw [xK_iff] at hc
    obtain ⟨vp, vs, vk, rfl, h1, h2, h3⟩ := hc
    obtain ⟨_, _, rfl⟩ := h1.form
    obtain ⟨_, _, rfl⟩ := h2.form
    obtain ⟨_, _, rfl⟩ := h3.form
    simp only [List.mem_cons, List.not_mem_nil, or_false] at hu
    rcases hu with rfl | rfl | rfl | rfl | rfl <;> rfl
  move := by
    intro ok ok' w w' x cs hm h
    exact XAt.move hm x cs h

theorem xK_zero {ok : Nat → Prop} {w : World} : xK ok w .zero [.int .i64 0, .int .u64 0, .slice none 0 0, .slice none 0 0, .slice none 0 0] :=
  xK_iff.2 ⟨_, _, _, rfl, RowAt.nil, RowAt.nil, RowAt.nil⟩

/-! ### plans -/
def encI (n : Int) : Value := .int .i64 n
abbrev intK : Knd Int := immK encI
theorem goodInt : _root_.Go.Bw.Good 1 intK := Good.imm (fun _ => rfl)
abbrev IntsAt := RowAt 1 intK

/-- a plan, in five cells -/
def planK : Knd Bw.Plan := fun ok w p cs => ∃ vp vk, cs = [.bool p.branch, .int .u64 (p.hash : Nat), vp, .int .u32 (p.set : Nat), vk] ∧ PairsAt ok w vp p.pairs ∧ IntsAt ok w vk p.kids

theorem goodPlan : _root_.Go.Bw.Good 5 planK where
  len := by rintro ok w p cs ⟨vp, vk, rfl, _⟩; rfl
  one := by
    rintro ok w p cs ⟨vp, vk, rfl, h1, h2⟩ u hu
    obtain ⟨_, _, rfl⟩ := h1.form
    obtain ⟨_, _, rfl⟩ := h2.form
    simp only [List.mem_cons, List.not_mem_nil, or_false] at hu
    rcases hu with rfl | rfl | rfl | rfl | rfl <;> rfl
  move := by
    rintro ok ok' w w' p cs hm ⟨vp, vk, rfl, h1, h2⟩
    exact ⟨vp, vk, rfl, h1.move goodPair hm, h2.move goodInt hm⟩
abbrev PlansAt := RowAt 5 planK

/-- all blocks -/
abbrev AllB : Nat → Prop := fun _ => True

theorem plan_get {ok : Nat → Prop} {w : World} {A : Option Addr} {n c j : Nat} {xs : List Bw.Plan} {p : Bw.Plan} (h : PlansAt ok w (.slice A n c) xs) (hj : xs[j]? = some p) :
    ∃ b o vp vk, A = some ⟨b, o, none⟩ ∧ ok b ∧ w.cell? ⟨b, o + j * 5, none⟩ = some (.bool p.branch) ∧ w.cell? ⟨b, o + j * 5 + 1, none⟩ = some (.int .u64 (p.hash : Nat)) ∧
      w.cell? ⟨b, o + j * 5 + 2, none⟩ = some vp ∧ w.cell? ⟨b, o + j * 5 + 3, none⟩ = some (.int .u32 (p.set : Nat)) ∧ w.cell? ⟨b, o + j * 5 + 4, none⟩ = some vk ∧ PairsAt ok w vp p.pairs ∧ IntsAt ok w vk p.kids := by
  obtain ⟨b, o, cs, rfl, ⟨vp, vk, rfl, h1, h2⟩, hc⟩ := h.get hj
  exact ⟨b, o, vp, vk, rfl, (hc 0 _ rfl).1, (hc 0 _ rfl).2, (hc 1 _ rfl).2, (hc 2 _ rfl).2, (hc 3 _ rfl).2, (hc 4 _ rfl).2, h1, h2⟩

end Go.Bw
