
import Derived.Test.YtadaoceidkagfaaGreatDoorOf
import Derived.Test.YtadaoceidkagfaaGreatDoorFind
import Derived.Laws.StructEq
import Derived.KernelRfl
import Derived.Test.YtadaoceidkagfaaGreatDoorComeA
import Derived.Test.YtadaoceidkagfaaGreatDoorLayAll
namespace Go.Proofs.YtadaoceidkagfaaGreatDoor
open Go.RowKit Go.Bw
open Go.RowKit Go.Bw
open Go.RowKit Go.Bw
end Go.Proofs.YtadaoceidkagfaaGreatDoor
/- brushwoodref18.End. -/
namespace Go.Proofs.YtadaoceidkagfaaGreatDoor
open Go.RowKit Go.Bw
open Go.RowKit Go.Bw
theorem _root_.Bw.get_mem {k v : Bw.Bytes} : ∀ {m : List Bw.PV}, Bw.Rises m -> (Bw.get m k = some v ↔ (k, v) ∈ m)
  | [], _ => by simp [Bw.get]
  | q :: r, h => by
    obtain ⟨h1, h2⟩ := List.pairwise_cons.1 h
    simp only [Bw.get, List.mem_cons]
    split
    · rename_i e
      constructor
      · intro hs
        injection hs with hs
        exact .inl (Prod.ext e.symm hs.symm)
      · rintro (hm | hm)
        · rw [<- hm]
        · exact absurd e (Bw.lt_ne (h1 _ hm))
    · rename_i e
      rw [Bw.get_mem h2]
      constructor
      · exact fun hm => .inr hm
      · rintro (hm | hm)
        · exact absurd (by rw [<- hm]) e
        · exact hm
end Go.Proofs.YtadaoceidkagfaaGreatDoor
/- How high an even tree is; how many pairs there are at a way's end; what a look costs there. -/
namespace Go.Proofs.YtadaoceidkagfaaGreatDoor
open Go.RowKit Go.Bw
theorem high_pow {s N L : Nat} (h : 4 ^ s <= 3 ^ s * N) (hL : N ^ 6 < 2 ^ L) : s < L := by
  have h1 : (4 ^ s) ^ 6 <= (3 ^ s * N) ^ 6 := Nat.pow_le_pow_left h 6
  rw [Nat.mul_pow] at h1
  have h2 : (3 ^ s) ^ 6 * 2 ^ s <= (4 ^ s) ^ 6 := by
    rw [<- Nat.pow_mul, <- Nat.pow_mul, Nat.mul_comm s 6, Nat.pow_mul, Nat.pow_mul, <- Nat.mul_pow]
    exact Nat.pow_le_pow_left (by decide) s
  have h3 : 2 ^ s <= N ^ 6 := Nat.le_of_mul_le_mul_left (Nat.le_trans h2 h1) (Nat.pow_pos (Nat.pow_pos (by decide)))
  exact (Nat.pow_lt_pow_iff_right (by decide)).1 (Nat.lt_of_le_of_lt h3 hL)
theorem count_mem {x : Bw.N} : ∀ {kids : List Bw.N}, x ∈ kids -> x.count <= Bw.N.countL kids
  | k :: r, h => by
    simp only [Bw.N.countL]
    rcases List.mem_cons.1 h with rfl | h
    · omega
    · have := count_mem h; omega
def manyO : Option Bw.N -> Nat
  | none => 0
  | some n => n.count
end Go.Proofs.YtadaoceidkagfaaGreatDoor
