
import Derived.Test.YtadaoceidkagfaaGreatDoorComeA
import Derived.Deep.Slices
import Derived.Deep.Fields
import Derived.ChangeSame
namespace Go.Proofs.YtadaoceidkagfaaGreatDoor
open Go.RowKit Go.Bw Go.ChangeShapes Go.WideShapes Go.Deep
theorem list_of {α : Type} {p : Nat -> α -> Prop} : ∀ n, (∀ i, i < n -> ∃ a, p i a) -> ∃ l : List α, l.length = n /\ ∀ i a, l[i]? = some a -> p i a := by
  intro n
  induction n with
  | zero => intro _; exact ⟨[], rfl, fun i a h => by simp at h⟩
  | succ n ih =>
    intro h
    obtain ⟨l, hl, hp⟩ := ih (fun i hi => h i (by omega))
    obtain ⟨a, ha⟩ := h n (by omega)
    refine ⟨l ++ [a], by simp [hl], fun i x hx => ?_⟩
    rcases Nat.lt_or_ge i l.length with hi | hi
    · rw [List.getElem?_append_left hi] at hx; exact hp i x hx
    · rw [List.getElem?_append_right hi] at hx
      have : i = n := by
        have := (List.getElem?_eq_some_iff.1 hx).1
        simp at this; omega
      subst this
      rw [hl, Nat.sub_self] at hx
      simp at hx
      rw [<- hx]; exact ha
section
variable {H : Type} {enc : TypeId × Value -> H} {P : Program} {w : World} {base : Nat} {spare : Nat -> Bool} {held : Bool}
def Rd (enc : TypeId × Value -> H) (P : Program) (w : World) (base : Nat) (spare : Nat -> Bool) (held : Bool) {α : Type} (t : TypeId) (d : Knd α) : Prop :=
  ∀ n cs x, DataW.trod enc P w base spare held n t cs = some x -> ∃ a : α, d AllB w a cs
theorem rd_slice {α : Type} {t e : TypeId} {sz : Nat} {d : Knd α} (ht : P.underlying t = some (.slice e)) (hC : P.cellsOf e = sz) (hsz : 0 < sz) (he : Rd enc P w base spare held e d) : Rd enc P w base spare held t (slK sz d) := by
  intro n cs x h
  rcases open_slice ht h with ⟨rfl, _⟩ | ⟨a, len, cap, m, n', D, Pl, rfl, hb, hl, hm, hmm, _, hi⟩
  · exact ⟨[], _, rfl, RowAt.nil⟩
  · have hle : len <= m := by rw [hmm]; split <;> omega
    rw [hC] at hi
    obtain ⟨l, hll, hp⟩ := list_of (p := fun i (y : α) => ∃ cs', w.cells? base (a.add (i * sz)) sz = some cs' /\ d AllB w y cs') len (fun i hil => by
      obtain ⟨cs', h1, h2⟩ := hi i (by omega)
      obtain ⟨y, hy⟩ := he _ _ _ h2
      exact ⟨y, cs', h1, hy⟩)
    have hsp : l ≠ [] -> a.spot = none := by
      intro hne
      have h0 : 0 < len := by rw [<- hll]; exact List.length_pos_iff.2 hne
      obtain ⟨cs', h1, _⟩ := hi 0 (by omega)
      obtain ⟨_, hlen, hat⟩ := World.cells?_some h1
      have h2 := hat 0 hsz
      rw [List.getElem?_eq_getElem (by omega)] at h2
      have := World.cell?_spot h2
      simpa [Addr.add] using this
    refine ⟨l, _, rfl, some a, cap, by rw [hll], by omega, hm, (fun h => by cases h), (fun ad e hne => by cases e; exact hsp hne), fun j y hj => ?_⟩
    obtain ⟨cs', h1, h2⟩ := hp j y hj
    have hnone := hsp (List.ne_nil_of_mem (List.mem_of_getElem? hj))
    obtain ⟨b, o, sp⟩ := a
    cases hnone
    refine ⟨_, cs', rfl, h2, fun i u hu => ⟨trivial, ?_⟩⟩
    obtain ⟨_, hlen, hat⟩ := World.cells?_some h1
    have hil := (List.getElem?_eq_some_iff.1 hu).1
    have h3 := hat i (by omega)
    rw [add_none, add_none, hu] at h3
    rw [<- h3]
    congr 2
    show o + (j * sz + i) = o + j * sz + i
    omega
theorem rd_imm {t : TypeId} {k : IntKind} (ht : P.underlying t = some (.int k)) : ∀ n cs x, DataW.trod enc P w base spare held n t cs = some x -> ∃ z : Int, cs = [.int k z] /\ k.min <= z /\ z <= k.max := by
  intro n cs x h
  obtain ⟨z, hz, _, hw⟩ := DataW.trod_int ht h
  simp only [Lit.wf, Bool.and_eq_true, decide_eq_true_eq] at hw
  exact ⟨z, hz, hw.1, hw.2⟩
theorem rd_byte {t : TypeId} (ht : P.underlying t = some (.int .u8)) : Rd enc P w base spare held t byteK := by
  intro n cs x h
  obtain ⟨z, rfl, h0, h1⟩ := rd_imm ht n cs x h
  have h0' : 0 <= z := h0
  have h1' : z <= 255 := h1
  refine ⟨UInt8.ofNat z.toNat, ?_⟩
  show [Value.int .u8 z] = [encB _]
  have : ((UInt8.ofNat z.toNat).toNat : Int) = z := by
    rw [UInt8.toNat_ofNat']
    omega
  simp only [encB, this]
theorem rd_int {t : TypeId} (ht : P.underlying t = some (.int .i64)) : Rd enc P w base spare held t intK := by
  intro n cs x h
  obtain ⟨z, rfl, _, _⟩ := rd_imm ht n cs x h
  exact ⟨z, rfl⟩
end
section
variable {H : Type} {enc : TypeId × Value -> H} {w : World} {base : Nat} {spare : Nat -> Bool} {held : Bool}
theorem c8 : Tryz.prog.cellsOf 5 = 1 := by kernel_rfl
theorem cB : Tryz.prog.cellsOf 33 = 1 := by kernel_rfl
theorem rd_bytes : Rd enc Tryz.prog w base spare held 33 bytesK := rd_slice Tryz.underlying33 c8 (by decide) (rd_byte Tryz.underlying5)
end
end Go.Proofs.YtadaoceidkagfaaGreatDoor
