/- Between my rows of the call's own and the library's words for a row that is sorted ('HoldsK', 'sortWorldK'). Over any program. -/
import Derived.Test.YtkblhilaeecdlaaBwMem
import Derived.Shelf.SlSortCmp.InsertionK
namespace Go.Bw
open Go.RowKit Go.Sort Go.Proofs

/-- A pair with the two values that lie for it in memory. -/
structure El (ok : Nat → Prop) (w : World) where
  u : Value
  v : Value
  p : Bw.PV
  hu : BytesAt ok w u p.1
  hv : BytesAt ok w v p.2

instance (ok : Nat → Prop) (w : World) : Inhabited (El ok w) := ⟨⟨.slice none 0 0, .slice none 0 0, ([], []), RowAt.nil, RowAt.nil⟩⟩

def El.enc {ok : Nat → Prop} {w : World} (x : El ok w) : List Value := [x.u, x.v]
def El.cf {ok : Nat → Prop} {w : World} (x y : El ok w) : Int := Lib.compareBytes x.p.1 y.p.1

theorem El.enc_len {ok : Nat → Prop} {w : World} (x : El ok w) : x.enc.length = 2 := rfl
theorem El.enc_one {ok : Nat → Prop} {w : World} (x : El ok w) : ∀ v ∈ x.enc, v.oneCell' = true := by
  intro v hv
  simp only [El.enc, List.mem_cons, List.not_mem_nil, or_false] at hv
  rcases hv with rfl | rfl
  · obtain ⟨A, c, h⟩ := x.hu.form; rw [h]; rfl
  · obtain ⟨A, c, h⟩ := x.hv.form; rw [h]; rfl

/-- The elements of a row of pairs of the call's own. -/
theorem els_of_reps {ok : Nat → Prop} {w : World} {xs : List Bw.PV} {inner : List Value} (h : Reps (pairK ok w) 2 xs inner) :
    ∃ ds : List (El ok w), ds.map El.p = xs ∧ ∀ j x, ds[j]? = some x → (inner.drop (j * 2)).take 2 = x.enc := by
  have key : ∀ j : Fin xs.length, ∃ x : El ok w, x.p = xs[j] ∧ (inner.drop (j * 2)).take 2 = x.enc := by
    intro j
    obtain ⟨u, v, hc, hu, hv⟩ := pairK_open (h.2 j xs[j] (List.getElem?_eq_getElem j.isLt))
    exact ⟨⟨u, v, xs[j], hu, hv⟩, rfl, hc⟩
  refine ⟨List.ofFn fun j => Classical.choose (key j), ?_, fun j x hj => ?_⟩
  · apply List.ext_getElem
    · simp
    · intro i h1 h2
      simp only [List.getElem_map, List.getElem_ofFn]
      exact (Classical.choose_spec (key ⟨i, h2⟩)).1
  · have hl : j < xs.length := by
      have := (List.getElem?_eq_some_iff.1 hj).1
      simpa using this
    obtain ⟨_, hx⟩ := List.getElem?_eq_some_iff.1 hj
    simp only [List.getElem_ofFn] at hx
    rw [← hx]
    exact (Classical.choose_spec (key ⟨j, hl⟩)).2

theorem holds_of_own {ok ok' : Nat → Prop} {w w0 : World} {base e g n cap : Nat} {inner : List Value} {ds : List (El ok w0)}
    (ho : w.ownsRow base e 2 (.slice (some ⟨g, 0, none⟩) n cap) ds.length inner) (hd : ∀ j x, ds[j]? = some x → (inner.drop (j * 2)).take 2 = x.enc) : HoldsK El.enc 2 w g 0 ds.toArray := by
  have _ := ok'
  intro t ht
  rw [size_flatK] at ht
  simp only [List.size_toArray] at ht
  have hj : t / 2 < ds.length := by omega
  have hx := hd (t / 2) ds[t / 2] (List.getElem?_eq_getElem hj)
  have hcell := World.ownsRow.cells ho (g := g) rfl t ((ds[t / 2].enc)[t % 2]!) (by
    have h2 : t % 2 < 2 := Nat.mod_lt _ (by omega)
    have hin : t < inner.length := by rw [ho.1]; exact ht
    have : ((inner.drop (t / 2 * 2)).take 2)[t % 2]? = inner[t]? := by
      rw [List.getElem?_take, if_pos h2, List.getElem?_drop]
      congr 1; omega
    rw [← this, hx]
    have hl : t % 2 < (ds[t / 2].enc).length := by rw [El.enc_len]; exact h2
    rw [List.getElem?_eq_getElem hl]
    simp [hl])
  rw [add_none] at hcell
  refine ⟨?_, ?_⟩
  · rw [get_flatK _ _ _ _ (by simpa using ht)]
    have hg : ds.toArray[t / 2]! = ds[t / 2] := by simp [hj]
    rw [hg]
    exact hcell
  · rcases ho.2 with ⟨h, _⟩ | ⟨g', cap', cur, he, _, hh, _⟩
    · cases h
    · cases he
      simp [World.frozen?, hh]

theorem grown_sortWorld {α : Type} [Inhabited α] {enc : α → List Value} {w : World} {g : Nat} (hlt : g < w.heap.size) (m : Nat) (d : Array α) (os : Array Obj) : w.grownBy (sortWorldK enc 2 w g 0 m d os) (some g) := by
  have _ := hlt
  refine ⟨rfl, rfl, rfl, ?_, fun k hk hne => ?_⟩
  · simp [sortWorldK, grow, putRowK, putRow, mapBlock]
  · have hkg : g ≠ k := fun e => hne (by rw [e])
    show (((w.heap.modify g _) ++ os)[k]?) = _
    rw [Array.getElem?_append_left (by rw [Array.size_modify]; exact hk), Array.getElem?_modify, if_neg hkg]

theorem el_less {ok : Nat → Prop} {w : World} (x y : El ok w) : ltOf El.cf x y = true ↔ Bw.lt x.p.1 y.p.1 := by
  unfold ltOf El.cf Bw.lt
  rcases Bw.cmp_range x.p.1 y.p.1 with h | h | h <;> simp [h]

/-- What the sort leaves: the row, its elements in another order; all else as it was. -/
theorem own_of_sorted {ok : Nat → Prop} {w : World} {base e g n cap m : Nat} {xs : List Bw.PV} (hown : OwnAt e 2 pairK ok w base (.slice (some ⟨g, 0, none⟩) n cap) xs)
    {d : Array (El (fun k => ok k ∧ some k ≠ some g) w)} (hs : d.size = xs.length) (os : Array Obj) :
    OwnAt e 2 pairK ok (sortWorldK El.enc 2 w g 0 m d os) base (.slice (some ⟨g, 0, none⟩) n cap) (d.toList.map El.p) ∧ w.grownBy (sortWorldK El.enc 2 w g 0 m d os) (some g) := by
  obtain ⟨hok, inner, ho, hr⟩ := hown
  have hlt := (ho.lt g rfl).2
  have hgr : w.grownBy (sortWorldK El.enc 2 w g 0 m d os) (some g) := by
    refine ⟨rfl, rfl, rfl, ?_, fun k hk hne => ?_⟩
    · simp [sortWorldK, grow, putRowK, putRow, mapBlock]
    · have hkg : g ≠ k := fun e => hne (by rw [e])
      show (((w.heap.modify g _) ++ os)[k]?) = _
      rw [Array.getElem?_append_left (by rw [Array.size_modify]; exact hk), Array.getElem?_modify, if_neg hkg]
  rcases ho.2 with ⟨h, _⟩ | ⟨g', cap', cur, he, hbg, hh, hnc, hcm, hcs, ht⟩
  · cases h
  · cases he
    refine ⟨⟨hok, (flatK El.enc 2 d).toList, ⟨?_, .inr ⟨g, cap, putCells id 0 (flatK El.enc 2 d) cur, ?_, hbg, ?_, ?_, hcm, ?_, ?_⟩⟩, ?_, ?_⟩, hgr⟩
    · simp
    · simp [hs]
    · show (((w.heap.modify g (onCells (putCells id 0 (flatK El.enc 2 d)))) ++ os)[g]?) = _
      rw [Array.getElem?_append_left (by rw [Array.size_modify]; exact hlt), Array.getElem?_modify, if_pos rfl, hh]
      rfl
    · simp [hs]; exact hnc
    · simp [putCells, hcs]
    · have hsz : (flatK El.enc 2 d).size = d.size * 2 := size_flatK _ _ _
      have hle : d.size * 2 ≤ cur.size := by rw [hcs, hs]; exact Nat.mul_le_mul_right _ hnc
      apply List.ext_getElem
      · simp [putCells]; omega
      · intro i h1 h2
        have hi : i < d.size * 2 := by simpa using h2
        simp only [List.getElem_take, Array.getElem_toList, putCells, Array.getElem_mapIdx, Nat.zero_add, Nat.sub_zero]
        rw [if_pos ⟨Nat.zero_le _, by rw [hsz]; exact hi⟩]
        simp [hi]
    · simp
    · intro j x hj
      rw [List.getElem?_map, Option.map_eq_some_iff] at hj
      obtain ⟨y, hy, rfl⟩ := hj
      obtain ⟨hjl, hy'⟩ := List.getElem?_eq_some_iff.1 hy
      have hjd : j < d.size := by simpa using hjl
      have hc : ((flatK El.enc 2 d).toList.drop (j * 2)).take 2 = y.enc := by
        apply List.ext_getElem
        · simp [El.enc]; omega
        · intro i h1 h2
          have hi2 : i < 2 := by simpa [El.enc] using h2
          have ht : j * 2 + i < d.size * 2 := by omega
          simp only [List.getElem_take, List.getElem_drop, Array.getElem_toList]
          have e1 : (flatK El.enc 2 d)[j * 2 + i]'(by rw [size_flatK]; exact ht) = (flatK El.enc 2 d)[j * 2 + i]! := by simp [ht]
          rw [e1, get_flatK _ _ _ _ ht]
          have e2 : (j * 2 + i) / 2 = j := by omega
          have e3 : (j * 2 + i) % 2 = i := by omega
          have e4 : d[j]! = y := by rw [← hy']; simp [hjd]
          rw [e2, e3, e4]
          simp [h2]
      rw [hc]
      have mv : Moves (fun k => ok k ∧ some k ≠ some g) (fun k => ok k ∧ some k ≠ (Value.slice (some ⟨g, 0, none⟩) xs.length cap).ownBlock) w (sortWorldK El.enc 2 w g 0 m d os) :=
        fun k hk hl => ⟨hk, hgr.block k hl hk.2⟩
      exact pairK_mk (y.hu.move goodByte mv) (y.hv.move goodByte mv)

end Go.Bw
