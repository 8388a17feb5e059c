
import Derived.Test.YtehkjnmnbplcoaaGreatDoorAw18
import Derived.Test.YtehkjnmnbplcoaaGreatDoorComeA
namespace Go.Proofs.YtehkjnmnbplcoaaGreatDoor
open Go.RowKit Go.Bw

theorem smallE_bounds {l : List Bw.En} {most : Nat} (h : smallE l most = true) : l.length ≤ most ∧ ∀ e ∈ l, e.2.1.length ≤ 60 ∧ e.2.2.length ≤ 60 := by
  unfold smallE at h
  rw [Bool.and_eq_true] at h
  refine ⟨of_decide_eq_true h.1, fun e he => ?_⟩
  have := List.all_eq_true.1 h.2 e he
  unfold entOk at this
  rw [Bool.and_eq_true] at this
  exact ⟨of_decide_eq_true this.1, of_decide_eq_true this.2⟩

theorem smallE_ok {l : List Bw.En} {most : Nat} (hm : most ≤ 1000) (h : smallE l most = true) (hh : ∀ e ∈ l, e.1 < 18446744073709551616) : EnsOk l where
  len := Nat.le_trans (smallE_bounds h).1 hm
  bytes := fun e he => ⟨Nat.le_trans ((smallE_bounds h).2 e he).1 (by decide), Nat.le_trans ((smallE_bounds h).2 e he).2 (by decide)⟩
  hash := hh

theorem _root_.Bw.unlike_eq {l : List Bw.En} (hu : Bw.Unlike l) {a b : Bw.En} (ha : a ∈ l) (hb : b ∈ l) (h : a.2.1 = b.2.1) : a = b := by
  induction l with
  | nil => cases ha
  | cons x r ih =>
    obtain ⟨h1, h2⟩ := List.pairwise_cons.1 hu
    rcases List.mem_cons.1 ha with rfl | ha' <;> rcases List.mem_cons.1 hb with rfl | hb'
    · rfl
    · exact absurd h (h1 b hb')
    · exact absurd h.symm (h1 a ha')
    · exact ih h2 ha' hb'

theorem ofO_look {l : List Bw.En} (hl : EnsOk l) {h : Nat} {k v : Bw.Bytes} : Bw.lookEnd (Bw.wayO 13 (Bw.ofO l) h 0).1 h k = some v ↔ (h, (k, v)) ∈ Bw.lasts l :=
  Bw.look_lays 13 0 (Bw.ofO l) (Bw.lasts l) rfl hl.lays hl.lay.res hl.lay.hash

theorem ofO_look_other {l : List Bw.En} (hl : EnsOk l) {h h' : Nat} {k v : Bw.Bytes} (hm : (h', (k, v)) ∈ Bw.lasts l) (hne : h ≠ h') : Bw.lookEnd (Bw.wayO 13 (Bw.ofO l) h 0).1 h k = none := by
  cases hr : Bw.lookEnd (Bw.wayO 13 (Bw.ofO l) h 0).1 h k with
  | none => rfl
  | some v' =>
    have h1 := (ofO_look hl).1 hr
    have := Bw.unlike_eq hl.lay.unlike h1 hm rfl
    exact absurd (congrArg Prod.fst this) hne

def FaRel (m : List Bw.En) (w3 : World) (i : Value) (wr : World) : Prop := ∃ k : Nat, k ≤ m.length ∧ i = .int .i64 k ∧ Below w3.heap.size w3 wr

end Go.Proofs.YtehkjnmnbplcoaaGreatDoor
