
import Derived.Test.YtadaoceidkagfaaGreatDoorGA
import Derived.Test.YtadaoceidkagfaaGreatDoorLSameA
import Derived.Lib.ConvBytes
import Derived.Deep.DeepCutAuto
import Derived.Deep.RegionHeldLaw
namespace Go.Proofs.YtadaoceidkagfaaGreatDoor
open Go.RowKit Go.Bw
/-! ### []byte(s): a row of its own -/
theorem run_unconv (w : World) (l : Bw.Bytes) (hl : l.length ≤ maxLen) : ∃ v' w', (convert 9 33 (.string ⟨l.toArray⟩)).run Tryz.prog w = .ok v' w' ∧ BytesAt (fun k => w.heap.size ≤ k) w' v' l ∧ Below w.heap.size w w' := by
  have hsz : (⟨l.toArray⟩ : ByteArray).size = l.length := by simp [ByteArray.size]
  refine ⟨_, _, Lib.run_convert_string_bytes w 9 33 5 ⟨l.toArray⟩ Tryz.underlying9 Tryz.underlying33 Tryz.underlying5, ?_, ⟨rfl, rfl, rfl, by rw [Lib.bytesWorld_size]; omega, fun k hk => Lib.bytesWorld_at_old w _ _ k hk⟩⟩
  rw [hsz]
  refine ⟨_, _, rfl, grownCap_ge _ _ _ _, grownCap_le_maxLen _ _ _ _ hl, (fun e => by cases e), (fun ad e _ => by cases e; rfl), fun j x hj => ⟨_, [encB x], rfl, rfl, fun i u hu => ⟨Nat.le_refl _, ?_⟩⟩⟩
  cases i with
  | succ i => simp at hu
  | zero =>
    simp only [List.getElem?_cons_zero, Option.some.injEq] at hu
    subst hu
    have hjl := (List.getElem?_eq_some_iff.1 hj).1
    have := Lib.bytesWorld_cell w 5 ⟨l.toArray⟩ j (by rw [hsz]; exact hjl)
    simp only [Nat.mul_one, Nat.add_zero, Nat.zero_add]
    rw [this]
    simp [encB, hj]
theorem fit_thin (n : Bw.N) : n.fit → n.thin := by
  refine Bw.N.ind (P := fun n => n.fit → n.thin) ?_ ?_ ?_ n
  · intro h p _; trivial
  · intro h t _; trivial
  · intro m kids ih hf
    simp only [Bw.N.fit, Bw.N.fitL_iff] at hf
    simp only [Bw.N.thin, Bw.N.thinL_iff]
    exact ⟨hf.1, fun k hk => ih k hk (hf.2.2 k hk)⟩
end Go.Proofs.YtadaoceidkagfaaGreatDoor
