
import Derived.Test.YtadaoceidkagfaaDoorComeA
import Derived.Deep.Slices
import Derived.Deep.Fields
import Derived.ChangeSame
namespace Go.Proofs.YtadaoceidkagfaaDoor
open Go.RowKit Go.Bw Go.ChangeShapes Go.WideShapes Go.Deep

theorem list_of {α : Type} {p : Nat → α → Prop} : ∀ n, (∀ i, i < n → ∃ a, p i a) → ∃ l : List α, l.length = n ∧ ∀ i a, l[i]? = some a → p i a := by
  intro n
  induction n with
  | zero => intro _; exact ⟨[], rfl, fun i a h => by simp at h⟩
  | succ n ih =>
    intro h
    obtain ⟨l, hl, hp⟩ := ih (fun i hi => h i (by omega))
    obtain ⟨a, ha⟩ := h n (by omega)
    refine ⟨l ++ [a], by simp [hl], fun i x hx => ?_⟩
    rcases Nat.lt_or_ge i l.length with hi | hi
    · rw [List.getElem?_append_left hi] at hx; exact hp i x hx
    · rw [List.getElem?_append_right hi] at hx
      have : i = n := by
        have := (List.getElem?_eq_some_iff.1 hx).1
        simp at this; omega
      subst this
      rw [hl, Nat.sub_self] at hx
      simp at hx
      rw [← hx]; exact ha

section
variable {H : Type} {enc : TypeId × Value → H} {P : Program} {w : World} {base : Nat} {spare : Nat → Bool} {held : Bool}

/-- what is read as a datum of a type is an element -/
def Rd (enc : TypeId × Value → H) (P : Program) (w : World) (base : Nat) (spare : Nat → Bool) (held : Bool) {α : Type} (t : TypeId) (d : Knd α) : Prop :=
  ∀ n cs x, DataW.trod enc P w base spare held n t cs = some x → ∃ a : α, d AllB w a cs

theorem rd_slice {α : Type} {t e : TypeId} {sz : Nat} {d : Knd α} (ht : P.underlying t = some (.slice e)) (hC : P.cellsOf e = sz) (hsz : 0 < sz) (he : Rd enc P w base spare held e d) : Rd enc P w base spare held t (slK sz d) := by
  intro n cs x h
  rcases open_slice ht h with ⟨rfl, _⟩ | ⟨a, len, cap, m, n', D, Pl, rfl, hb, hl, hm, hmm, _, hi⟩
  · exact ⟨[], _, rfl, RowAt.nil⟩
  · have hle : len ≤ m := by rw [hmm]; split <;> omega
    rw [hC] at hi
    obtain ⟨l, hll, hp⟩ := list_of (p := fun i (y : α) => ∃ cs', w.cells? base (a.add (i * sz)) sz = some cs' ∧ d AllB w y cs') len (fun i hil => by
      obtain ⟨cs', h1, h2⟩ := hi i (by omega)
      obtain ⟨y, hy⟩ := he _ _ _ h2
      exact ⟨y, cs', h1, hy⟩)
    have hsp : l ≠ [] → a.spot = none := by
      intro hne
      have h0 : 0 < len := by rw [← hll]; exact List.length_pos_iff.2 hne
      obtain ⟨cs', h1, _⟩ := hi 0 (by omega)
      obtain ⟨_, hlen, hat⟩ := World.cells?_some h1
      have h2 := hat 0 hsz
      rw [List.getElem?_eq_getElem (by omega)] at h2
      have := World.cell?_spot h2
      simpa [Addr.add] using this
    refine ⟨l, _, rfl, some a, cap, by rw [hll], by omega, hm, (fun h => by cases h), (fun ad e hne => by cases e; exact hsp hne), fun j y hj => ?_⟩
    obtain ⟨cs', h1, h2⟩ := hp j y hj
    have hnone := hsp (List.ne_nil_of_mem (List.mem_of_getElem? hj))
    obtain ⟨b, o, sp⟩ := a
    cases hnone
    refine ⟨_, cs', rfl, h2, fun i u hu => ⟨trivial, ?_⟩⟩
    obtain ⟨_, hlen, hat⟩ := World.cells?_some h1
    have hil := (List.getElem?_eq_some_iff.1 hu).1
    have h3 := hat i (by omega)
    rw [add_none, add_none, hu] at h3
    rw [← h3]
    congr 2
    show o + (j * sz + i) = o + j * sz + i
    omega

theorem rd_imm {t : TypeId} {k : IntKind} (ht : P.underlying t = some (.int k)) : ∀ n cs x, DataW.trod enc P w base spare held n t cs = some x → ∃ z : Int, cs = [.int k z] ∧ k.min ≤ z ∧ z ≤ k.max := by
  intro n cs x h
  obtain ⟨z, hz, _, hw⟩ := DataW.trod_int ht h
  simp only [Lit.wf, Bool.and_eq_true, decide_eq_true_eq] at hw
  exact ⟨z, hz, hw.1, hw.2⟩

theorem rd_byte {t : TypeId} (ht : P.underlying t = some (.int .u8)) : Rd enc P w base spare held t byteK := by
  intro n cs x h
  obtain ⟨z, rfl, h0, h1⟩ := rd_imm ht n cs x h
  have h0' : 0 ≤ z := h0
  have h1' : z ≤ 255 := h1
  refine ⟨UInt8.ofNat z.toNat, ?_⟩
  show [Value.int .u8 z] = [encB _]
  have : ((UInt8.ofNat z.toNat).toNat : Int) = z := by
    rw [UInt8.toNat_ofNat']
    omega
  simp only [encB, this]

theorem rd_int {t : TypeId} (ht : P.underlying t = some (.int .i64)) : Rd enc P w base spare held t intK := by
  intro n cs x h
  obtain ⟨z, rfl, _, _⟩ := rd_imm ht n cs x h
  exact ⟨z, rfl⟩
end

section
variable {H : Type} {enc : TypeId × Value → H} {w : World} {base : Nat} {spare : Nat → Bool} {held : Bool}

theorem c8 : Tryd.prog.cellsOf 5 = 1 := by kernel_rfl
theorem cB : Tryd.prog.cellsOf 33 = 1 := by kernel_rfl
theorem cP : Tryd.prog.cellsOf 47 = 2 := by kernel_rfl
theorem cU : Tryd.prog.cellsOf 63 = 1 := by kernel_rfl

theorem rd_bytes : Rd enc Tryd.prog w base spare held 33 bytesK := rd_slice Tryd.underlying33 c8 (by decide) (rd_byte Tryd.underlying5)

set_option maxRecDepth 100000 in
theorem rd_pair : Rd enc Tryd.prog w base spare held 47 pairK := by
  intro n cs x h
  obtain ⟨xs, n', _, _, hlen, hxl, hf⟩ := DataW.trod_struct Tryd.underlying47 h
  rw [cP] at hlen
  match cs, hlen with
  | [c0, c1], _ =>
    have f0 : DataW.trod enc Tryd.prog w base spare held n' 33 (([c0, c1].drop 0).take (Tryd.prog.cellsOf 33)) = xs[0]? := hf 0 _ rfl
    have f1 : DataW.trod enc Tryd.prog w base spare held n' 33 (([c0, c1].drop 1).take (Tryd.prog.cellsOf 33)) = xs[1]? := hf 1 _ rfl
    rw [cB] at f0 f1
    have hx2 : xs.length = 2 := hxl
    rw [List.getElem?_eq_getElem (by omega)] at f0 f1
    obtain ⟨a, ha⟩ := rd_bytes _ _ _ f0
    obtain ⟨b, hb⟩ := rd_bytes _ _ _ f1
    exact ⟨(a, b), [c0], [c1], rfl, ha, hb⟩

theorem rd_pairs : Rd enc Tryd.prog w base spare held 94 (slK 2 pairK) := rd_slice Tryd.underlying94 cP (by decide) rd_pair

theorem rd_u64 : Rd enc Tryd.prog w base spare held 63 (fun ok w n cs => natK64 ok w n cs ∧ n < 18446744073709551616) := by
  intro n cs x h
  obtain ⟨z, rfl, h0, h1⟩ := rd_imm Tryd.underlying63 n cs x h
  have h0' : 0 ≤ z := h0
  have h1' : z ≤ 18446744073709551615 := h1
  obtain ⟨m, rfl⟩ := Int.eq_ofNat_of_zero_le h0'
  exact ⟨m, rfl, by omega⟩

theorem pairs_of {v : Value} {d : DataW H} {ps : List MemPlace} (hv : v.cells.toList = [v]) (h : DataW.Trod enc Tryd.prog w base spare held 94 v d ps) : ∃ l : List Bw.PV, PairsAt AllB w v l := by
  obtain ⟨n, hn⟩ := h
  rw [hv] at hn
  obtain ⟨l, u, hu, hr⟩ := rd_pairs _ _ _ hn
  injection hu with hu
  subst hu
  exact ⟨l, hr⟩

theorem bytes_of {v : Value} {d : DataW H} {ps : List MemPlace} (hv : v.cells.toList = [v]) (h : DataW.Trod enc Tryd.prog w base spare held 33 v d ps) : ∃ l : Bw.Bytes, BytesAt AllB w v l := by
  obtain ⟨n, hn⟩ := h
  rw [hv] at hn
  obtain ⟨l, u, hu, hr⟩ := rd_bytes _ _ _ hn
  injection hu with hu
  subst hu
  exact ⟨l, hr⟩

end
end Go.Proofs.YtadaoceidkagfaaDoor
