
import Derived.Test.YtkblhilaeecdlaaListA
import Derived.Test.YtkblhilaeecdlaaBwAll
namespace Go.Proofs.Ytkblhilaeecdlaa
open Go.RowKit Go.Bw Go.Sort Go.Shelf Go.Proofs

def insRen : Go.Shelf.Ren := ⟨fun | 20 => 67 | n => n, fun | 24 => 54 | 22 => 44 | 3 => 3 | 25 => 82 | 4 => 4 | 0 => 0 | n => n, fun n => n⟩

theorem insLaid : SlLaysF0.n20 Try.prog insRen := {
  mixed := by kernel_rfl
  f20 := ⟨Try.f67.name, by decide, Try.func67.trans (congrArg some (by kernel_rfl))⟩
  t0 := Try.underlying0, a0 := Try.isAgg0, z0 := Try.sizeOf0, v0 := Try.zeroValue0
  t3 := Try.underlying3, a3 := Try.isAgg3, z3 := Try.sizeOf3, v3 := Try.zeroValue3
  t4 := Try.underlying4, a4 := Try.isAgg4, z4 := Try.sizeOf4, v4 := Try.zeroValue4
  t22 := Try.underlying44, a22 := Try.isAgg44, z22 := Try.sizeOf44, v22 := Try.zeroValue44
  t25 := Try.underlying82, a25 := Try.isAgg82, z25 := Try.sizeOf82, v25 := Try.zeroValue82 }

theorem cmpLaysCome {ok : Nat → Prop} {w : World} {g size : Nat} (hlt : g < w.heap.size) : CmpLays Try.prog 45 #[] (El.enc (ok := fun k => ok k ∧ some k ≠ some g) (w := w)) 2 El.cf g 0 size w := by
  intro m os dk _ x y
  have hgr : w.grownBy (sortWorldK El.enc 2 w g 0 m dk os) (some g) := grown_sortWorld hlt m dk os
  have mv : Moves (fun k => ok k ∧ some k ≠ some g) (fun k => ok k ∧ some k ≠ some g) w (sortWorldK El.enc 2 w g 0 m dk os) := fun k hk hl => ⟨hk, hgr.block k hl hk.2⟩
  refine (comec_any _ (x.hu.move goodByte mv) (y.hu.move goodByte mv)).mono ?_
  rintro e w' ⟨rfl, rfl⟩
  exact ⟨rfl, 0, _, by rw [alloc_eq_grow, alloc_eq_grow, grow_grow]; rfl⟩

theorem ins_any {ok : Nat → Prop} {w : World} {base g n cap : Nat} {xs : List Bw.PV} (hown : OwnAt 54 2 pairK ok w base (.slice (some ⟨g, 0, none⟩) n cap) xs) (hn : xs.length ≤ 1048576) :
    Calls Try.prog 67 #[.slice (some ⟨g, 0, none⟩) n cap, .int .i64 0, .int .i64 n, .func (.func 45) #[] #[]] w fun e w' =>
      e = .returned (.tuple #[]) ∧ OwnAt 54 2 pairK ok w' base (.slice (some ⟨g, 0, none⟩) n cap) (Bw.sortS xs) ∧ w.grownBy w' (some g) := by
  have hown' := hown
  obtain ⟨_, inner, ho, hr0⟩ := hown'
  have hr : Reps (pairK (fun k => ok k ∧ some k ≠ some g) w) 2 xs inner := hr0
  clear hr0
  have hlt := (ho.lt g rfl).2
  obtain ⟨ds, hds, hel⟩ := els_of_reps hr
  have hlen : ds.length = xs.length := by rw [← hds, List.length_map]
  rw [← hlen] at ho
  have hH := holds_of_own (ok' := ok) ho hel
  have eg : ∀ args w, (callFunc 45 args).run Try.prog w = .ok (.enter 45 args) w := enters_of Try.func45 (by kernel_rfl) rfl
  have hnn : n = ds.toArray.size := by
    rcases ho.2 with ⟨h, _⟩ | ⟨g', cap', cur, he, _⟩
    · cases h
    · injection he
  have hcon := AnyQ.insertionSortCmpFunc insLaid 2 Try.isAgg54 Try.sizeOf54 El.enc El.enc_len El.enc_one El.cf 45 #[] g 0 cap 0 ds.toArray.size ds.toArray w eg (cmpLaysCome hlt) hH hlt (Nat.zero_le _) (Nat.le_refl _) (by simp [hlen]; omega)
  rw [← hnn] at hcon
  refine Calls.mono hcon ?_
  rintro e w' ⟨rfl, m, os, rfl⟩
  have hsz : (Sort.insertionSort (ltOf El.cf) ds.toArray 0 ds.toArray.size).size = ds.toArray.size := by
    have := congrArg List.length (Bw.insertionSort_toList El.p (ltOf El.cf) el_less ds.toArray)
    simp only [List.length_map, Array.length_toList] at this
    rw [this]
    simp [Bw.length_sortS]
  have hfin := own_of_sorted hown (d := Sort.insertionSort (ltOf El.cf) ds.toArray 0 ds.toArray.size) (m := m) (by rw [hsz]; simp [hlen]) os
  rw [Bw.insertionSort_toList El.p (ltOf El.cf) el_less] at hfin
  rw [hnn]
  rw [hnn, List.toList_toArray, hds] at hfin
  exact ⟨rfl, hfin⟩
end Go.Proofs.Ytkblhilaeecdlaa
