
import Derived.Test.YtkblhilaeecdlaaSameA
import Derived.Deep.Slices
import Derived.Deep.Fields
import Derived.ChangeSame
namespace Go.Proofs.Ytkblhilaeecdlaa
open Go.RowKit Go.Bw Go.ChangeShapes Go.WideShapes Go.Deep

theorem list_of {α : Type} {p : Nat → α → Prop} : ∀ n, (∀ i, i < n → ∃ a, p i a) → ∃ l : List α, l.length = n ∧ ∀ i a, l[i]? = some a → p i a := by
  intro n
  induction n with
  | zero => intro _; exact ⟨[], rfl, fun i a h => by simp at h⟩
  | succ n ih =>
    intro h
    obtain ⟨l, hl, hp⟩ := ih (fun i hi => h i (by omega))
    obtain ⟨a, ha⟩ := h n (by omega)
    refine ⟨l ++ [a], by simp [hl], fun i x hx => ?_⟩
    rcases Nat.lt_or_ge i l.length with hi | hi
    · rw [List.getElem?_append_left hi] at hx; exact hp i x hx
    · rw [List.getElem?_append_right hi] at hx
      have : i = n := by
        have := (List.getElem?_eq_some_iff.1 hx).1
        simp at this; omega
      subst this
      rw [hl, Nat.sub_self] at hx
      simp at hx
      rw [← hx]; exact ha

section
variable {H : Type} {enc : TypeId × Value → H} {P : Program} {w : World} {base : Nat} {spare : Nat → Bool} {held : Bool}

/-- what is read as a datum of a type is an element -/
def Rd (enc : TypeId × Value → H) (P : Program) (w : World) (base : Nat) (spare : Nat → Bool) (held : Bool) {α : Type} (t : TypeId) (d : Knd α) : Prop :=
  ∀ n cs x, DataW.trod enc P w base spare held n t cs = some x → ∃ a : α, d AllB w a cs

theorem rd_slice {α : Type} {t e : TypeId} {sz : Nat} {d : Knd α} (ht : P.underlying t = some (.slice e)) (hC : P.cellsOf e = sz) (hsz : 0 < sz) (he : Rd enc P w base spare held e d) : Rd enc P w base spare held t (slK sz d) := by
  intro n cs x h
  rcases open_slice ht h with ⟨rfl, _⟩ | ⟨a, len, cap, m, n', D, Pl, rfl, hb, hl, hm, hmm, _, hi⟩
  · exact ⟨[], _, rfl, RowAt.nil⟩
  · have hle : len ≤ m := by rw [hmm]; split <;> omega
    rw [hC] at hi
    obtain ⟨l, hll, hp⟩ := list_of (p := fun i (y : α) => ∃ cs', w.cells? base (a.add (i * sz)) sz = some cs' ∧ d AllB w y cs') len (fun i hil => by
      obtain ⟨cs', h1, h2⟩ := hi i (by omega)
      obtain ⟨y, hy⟩ := he _ _ _ h2
      exact ⟨y, cs', h1, hy⟩)
    have hsp : l ≠ [] → a.spot = none := by
      intro hne
      have h0 : 0 < len := by rw [← hll]; exact List.length_pos_iff.2 hne
      obtain ⟨cs', h1, _⟩ := hi 0 (by omega)
      obtain ⟨_, hlen, hat⟩ := World.cells?_some h1
      have h2 := hat 0 hsz
      rw [List.getElem?_eq_getElem (by omega)] at h2
      have := World.cell?_spot h2
      simpa [Addr.add] using this
    refine ⟨l, _, rfl, some a, cap, by rw [hll], by omega, hm, (fun h => by cases h), (fun ad e hne => by cases e; exact hsp hne), fun j y hj => ?_⟩
    obtain ⟨cs', h1, h2⟩ := hp j y hj
    have hnone := hsp (List.ne_nil_of_mem (List.mem_of_getElem? hj))
    obtain ⟨b, o, sp⟩ := a
    cases hnone
    refine ⟨_, cs', rfl, h2, fun i u hu => ⟨trivial, ?_⟩⟩
    obtain ⟨_, hlen, hat⟩ := World.cells?_some h1
    have hil := (List.getElem?_eq_some_iff.1 hu).1
    have h3 := hat i (by omega)
    rw [add_none, add_none, hu] at h3
    rw [← h3]
    congr 2
    show o + (j * sz + i) = o + j * sz + i
    omega

theorem rd_imm {t : TypeId} {k : IntKind} (ht : P.underlying t = some (.int k)) : ∀ n cs x, DataW.trod enc P w base spare held n t cs = some x → ∃ z : Int, cs = [.int k z] ∧ k.min ≤ z ∧ z ≤ k.max := by
  intro n cs x h
  obtain ⟨z, hz, _, hw⟩ := DataW.trod_int ht h
  simp only [Lit.wf, Bool.and_eq_true, decide_eq_true_eq] at hw
  exact ⟨z, hz, hw.1, hw.2⟩

theorem rd_byte {t : TypeId} (ht : P.underlying t = some (.int .u8)) : Rd enc P w base spare held t byteK := by
  intro n cs x h
  obtain ⟨z, rfl, h0, h1⟩ := rd_imm ht n cs x h
  have h0' : 0 ≤ z := h0
  have h1' : z ≤ 255 := h1
  refine ⟨UInt8.ofNat z.toNat, ?_⟩
  show [Value.int .u8 z] = [encB _]
  have : ((UInt8.ofNat z.toNat).toNat : Int) = z := by
    rw [UInt8.toNat_ofNat']
    omega
  simp only [encB, this]

theorem rd_int {t : TypeId} (ht : P.underlying t = some (.int .i64)) : Rd enc P w base spare held t intK := by
  intro n cs x h
  obtain ⟨z, rfl, _, _⟩ := rd_imm ht n cs x h
  exact ⟨z, rfl⟩
end

section
variable {H : Type} {enc : TypeId × Value → H} {w : World} {base : Nat} {spare : Nat → Bool} {held : Bool}

theorem c8 : Try.prog.cellsOf 5 = 1 := by kernel_rfl
theorem cB : Try.prog.cellsOf 52 = 1 := by kernel_rfl
theorem cI : Try.prog.cellsOf 3 = 1 := by kernel_rfl
theorem cIs : Try.prog.cellsOf 29 = 1 := by kernel_rfl
theorem cP : Try.prog.cellsOf 54 = 2 := by kernel_rfl
theorem cPs : Try.prog.cellsOf 44 = 1 := by kernel_rfl
theorem cPl : Try.prog.cellsOf 49 = 5 := by kernel_rfl
theorem cBo : Try.prog.cellsOf 4 = 1 := by kernel_rfl
theorem cU : Try.prog.cellsOf 27 = 1 := by kernel_rfl
theorem cM : Try.prog.cellsOf 47 = 1 := by kernel_rfl

theorem rd_bytes : Rd enc Try.prog w base spare held 52 bytesK := rd_slice Try.underlying52 c8 (by decide) (rd_byte Try.underlying5)

set_option maxRecDepth 100000 in
theorem rd_pair : Rd enc Try.prog w base spare held 54 pairK := by
  intro n cs x h
  obtain ⟨xs, n', _, _, hlen, hxl, hf⟩ := DataW.trod_struct Try.underlying54 h
  rw [cP] at hlen
  match cs, hlen with
  | [c0, c1], _ =>
    have f0 : DataW.trod enc Try.prog w base spare held n' 52 (([c0, c1].drop 0).take (Try.prog.cellsOf 52)) = xs[0]? := hf 0 _ rfl
    have f1 : DataW.trod enc Try.prog w base spare held n' 52 (([c0, c1].drop 1).take (Try.prog.cellsOf 52)) = xs[1]? := hf 1 _ rfl
    rw [cB] at f0 f1
    have hx2 : xs.length = 2 := hxl
    rw [List.getElem?_eq_getElem (by omega)] at f0 f1
    obtain ⟨a, ha⟩ := rd_bytes _ _ _ f0
    obtain ⟨b, hb⟩ := rd_bytes _ _ _ f1
    exact ⟨(a, b), [c0], [c1], rfl, ha, hb⟩

theorem rd_pairs : Rd enc Try.prog w base spare held 44 (slK 2 pairK) := rd_slice Try.underlying44 cP (by decide) rd_pair
theorem rd_ints : Rd enc Try.prog w base spare held 29 (slK 1 intK) := rd_slice Try.underlying29 cI (by decide) (rd_int Try.underlying3)

set_option maxRecDepth 100000 in
theorem rd_plan : Rd enc Try.prog w base spare held 49 (fun ok w p cs => planK ok w p cs ∧ p.set < 4294967296) := by
  intro n cs x h
  obtain ⟨xs, n', _, _, hlen, hxl, hf⟩ := DataW.trod_struct Try.underlying49 h
  rw [cPl] at hlen
  match cs, hlen with
  | [c0, c1, c2, c3, c4], _ =>
    have f0 : DataW.trod enc Try.prog w base spare held n' 4 (([c0, c1, c2, c3, c4].drop 0).take (Try.prog.cellsOf 4)) = xs[0]? := hf 0 _ rfl
    have f1 : DataW.trod enc Try.prog w base spare held n' 27 (([c0, c1, c2, c3, c4].drop 1).take (Try.prog.cellsOf 27)) = xs[1]? := hf 1 _ rfl
    have f2 : DataW.trod enc Try.prog w base spare held n' 44 (([c0, c1, c2, c3, c4].drop 2).take (Try.prog.cellsOf 44)) = xs[2]? := hf 2 _ rfl
    have f3 : DataW.trod enc Try.prog w base spare held n' 47 (([c0, c1, c2, c3, c4].drop 3).take (Try.prog.cellsOf 47)) = xs[3]? := hf 3 _ rfl
    have f4 : DataW.trod enc Try.prog w base spare held n' 29 (([c0, c1, c2, c3, c4].drop 4).take (Try.prog.cellsOf 29)) = xs[4]? := hf 4 _ rfl
    rw [cBo] at f0; rw [cU] at f1; rw [cPs] at f2; rw [cM] at f3; rw [cIs] at f4
    have hx5 : xs.length = 5 := hxl
    rw [List.getElem?_eq_getElem (by omega)] at f0 f1 f2 f3 f4
    obtain ⟨b, e0, _⟩ := DataW.trod_bool Try.underlying4 f0
    obtain ⟨hh, e1, l1, u1⟩ := rd_imm Try.underlying27 _ _ _ f1
    obtain ⟨ps, e2⟩ := rd_pairs _ _ _ f2
    obtain ⟨mm, e3, l3, u3⟩ := rd_imm Try.underlying47 _ _ _ f3
    obtain ⟨ks, e4⟩ := rd_ints _ _ _ f4
    obtain ⟨vp, e2, hp⟩ := e2
    obtain ⟨vk, e4, hk⟩ := e4
    have l1' : 0 ≤ hh := l1
    have l3' : 0 ≤ mm := l3
    have u3' : mm ≤ 4294967295 := u3
    obtain ⟨h1, rfl⟩ := Int.eq_ofNat_of_zero_le l1'
    obtain ⟨m1, rfl⟩ := Int.eq_ofNat_of_zero_le l3'
    refine ⟨⟨b, h1, ps, m1, ks⟩, ⟨vp, vk, ?_, hp, hk⟩, by show m1 < 4294967296; omega⟩
    simp only [List.take, List.drop] at e0 e1 e2 e3 e4
    injection e0 with e0; injection e1 with e1; injection e2 with e2; injection e3 with e3; injection e4 with e4
    rw [e0, e1, e2, e3, e4]

theorem rd_plans : Rd enc Try.prog w base spare held 22 (slK 5 (fun ok w p cs => planK ok w p cs ∧ p.set < 4294967296)) := rd_slice Try.underlying22 cPl (by decide) rd_plan

theorem plans_of {v : Value} {d : DataW H} {ps : List MemPlace} (hv : v.cells.toList = [v]) (h : DataW.Trod enc Try.prog w base spare held 22 v d ps) : ∃ l : List Bw.Plan, PlansAt AllB w v l ∧ ∀ p ∈ l, p.set < 4294967296 := by
  obtain ⟨n, hn⟩ := h
  rw [hv] at hn
  obtain ⟨l, u, hu, A, c, rfl, h2, h3, h4, h5, h6⟩ := rd_plans _ _ _ hn
  injection hu with hu
  subst hu
  refine ⟨l, ⟨A, c, rfl, h2, h3, h4, h5, fun j x hj => ?_⟩, fun p hp => ?_⟩
  · obtain ⟨ad, cs, e, hx, hc⟩ := h6 j x hj
    exact ⟨ad, cs, e, hx.1, hc⟩
  · obtain ⟨j, hj⟩ := List.mem_iff_getElem?.1 hp
    obtain ⟨ad, cs, e, hx, hc⟩ := h6 j p hj
    exact hx.2

end
end Go.Proofs.Ytkblhilaeecdlaa
