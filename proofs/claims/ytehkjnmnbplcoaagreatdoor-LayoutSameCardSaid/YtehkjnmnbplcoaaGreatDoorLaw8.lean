
import Derived.Test.YtehkjnmnbplcoaaGreatDoorEnd
import Derived.Test.YtehkjnmnbplcoaaGreatDoorLaw7
import Derived.Test.YtehkjnmnbplcoaaGreatDoorComeA
namespace Go.Proofs.YtehkjnmnbplcoaaGreatDoor
open Go.RowKit Go.Bw

theorem _root_.Bw.get_mem {k v : Bw.Bytes} : ∀ {m : List Bw.PV}, Bw.Rises m → (Bw.get m k = some v ↔ (k, v) ∈ m)
  | [], _ => by simp [Bw.get]
  | q :: r, h => by
    obtain ⟨h1, h2⟩ := List.pairwise_cons.1 h
    simp only [Bw.get, List.mem_cons]
    split
    · rename_i e
      constructor
      · intro hs
        injection hs with hs
        exact .inl (Prod.ext e.symm hs.symm)
      · rintro (hm | hm)
        · rw [← hm]
        · exact absurd e (Bw.lt_ne (h1 _ hm))
    · rename_i e
      rw [Bw.get_mem h2]
      constructor
      · exact fun hm => .inr hm
      · rintro (hm | hm)
        · exact absurd (by rw [← hm]) e
        · exact hm

/-- what is told at the way's end is what the document's pairs there have -/
theorem lookEnd_get {x : Option Bw.N} (hf : ∀ n, x = some n → n.fit) (hb : ∀ m kids, x ≠ some (.branch m kids)) (h : Nat) (key : Bw.Bytes) :
    ((Bw.absO x).kind ≠ 0 → (Bw.absO x).hash = h → Bw.lookEnd x h key = Bw.get (Bw.absO x).pairs key) ∧ ((Bw.absO x).kind = 0 ∨ (Bw.absO x).hash ≠ h → Bw.lookEnd x h key = none) := by
  match x, hf, hb with
  | none, _, _ => exact ⟨fun h => absurd rfl h, fun _ => rfl⟩
  | some (.leaf g q), _, _ =>
    refine ⟨fun _ (h1 : g = h) => ?_, fun hx => ?_⟩
    · show (if g = h ∧ key = q.1 then some q.2 else none) = if q.1 = key then some q.2 else none
      by_cases h2 : key = q.1
      · rw [if_pos ⟨h1, h2⟩, if_pos h2.symm]
      · rw [if_neg (fun e => h2 e.2), if_neg (fun e => h2 e.symm)]
    · have hne : g ≠ h := hx.resolve_left (fun e : (1 : Nat) = 0 => by cases e)
      show (if g = h ∧ key = q.1 then some q.2 else none) = none
      rw [if_neg (fun e => hne e.1)]
  | some (.bucket g t), hf, _ =>
    have hfit := hf _ rfl
    simp only [Bw.N.fit] at hfit
    refine ⟨fun _ (h1 : g = h) => ?_, fun hx => ?_⟩
    · show (if g = h then t.look key else none) = Bw.get t.list key
      rw [if_pos h1]
      cases hg : Bw.get t.list key with
      | some v => exact (Bw.T.look_mem key v t hfit.2.1).2 ((Bw.get_mem hfit.2.1).1 hg)
      | none =>
        cases hl : t.look key with
        | none => rfl
        | some v =>
          have := (Bw.get_mem hfit.2.1).2 ((Bw.T.look_mem key v t hfit.2.1).1 hl)
          rw [hg] at this
          cases this
    · have hne : g ≠ h := hx.resolve_left (fun e : (2 : Nat) = 0 => by cases e)
      show (if g = h then t.look key else none) = none
      rw [if_neg hne]
  | some (.branch m kids), _, hb => exact absurd rfl (hb m kids)

theorem ofO_abs {l : List Bw.En} (hl : EnsOk l) : Bw.layX 13 0 (Bw.lasts l) = Bw.absO (Bw.ofO l) := by
  have hO := hl.lays
  cases ho : Bw.ofO l with
  | none =>
    rw [ho] at hO
    rw [show Bw.lasts l = [] from hO]
    rfl
  | some n =>
    rw [ho] at hO
    exact Bw.lays_abs hO 13 (Bw.lasts l) rfl hl.lay.unlike (fun _ => Iff.rfl) hl.lay.res hl.lay.hash

end Go.Proofs.YtehkjnmnbplcoaaGreatDoor
