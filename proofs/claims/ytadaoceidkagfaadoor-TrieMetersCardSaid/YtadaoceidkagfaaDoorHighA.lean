
import Derived.Test.YtadaoceidkagfaaDoorOf
import Derived.Test.YtadaoceidkagfaaDoorFind
import Derived.Laws.StructEq
import Derived.KernelRfl
import Derived.Test.YtadaoceidkagfaaDoorComeA
import Derived.Test.YtadaoceidkagfaaDoorLayAll
namespace Go.Proofs.YtadaoceidkagfaaDoor
open Go.RowKit Go.Bw

/-- a row of two elements, in one block -/
theorem row_two {α : Type} {sz g : Nat} {d : Knd α} {ok : Nat → Prop} {W : World} {x0 x1 : α} {c0 c1 : List Value} {t : TypeId} {fr : Nat × Nat} (h0 : d ok W x0 c0) (h1 : d ok W x1 c1) (l0 : c0.length = sz) (hb : ok g) (hh : W.heap[g]? = some (.cells (c0 ++ c1).toArray t fr)) :
    RowAt sz d ok W (.slice (some ⟨g, 0, none⟩) 2 2) [x0, x1] := by
  have hcell : ∀ i, W.cell? ⟨g, i, none⟩ = (c0 ++ c1)[i]? := fun i => by simp [World.cell?, hh]
  refine ⟨_, _, rfl, Nat.le_refl _, by decide, (fun h => by cases h), (fun ad h _ => by cases h; rfl), fun j x hj => ?_⟩
  match j, hj with
  | 0, hj =>
    cases hj
    refine ⟨_, c0, rfl, h0, fun i u hu => ⟨hb, ?_⟩⟩
    show W.cell? ⟨g, 0 + (0 * sz + i), none⟩ = some u
    rw [hcell, Nat.zero_mul, Nat.zero_add, Nat.zero_add, List.getElem?_append_left (List.getElem?_eq_some_iff.1 hu).1]
    exact hu
  | 1, hj =>
    cases hj
    refine ⟨_, c1, rfl, h1, fun i u hu => ⟨hb, ?_⟩⟩
    show W.cell? ⟨g, 0 + (1 * sz + i), none⟩ = some u
    rw [hcell, Nat.one_mul, Nat.zero_add, ← l0, List.getElem?_append_right (by omega), Nat.add_sub_cancel_left]
    exact hu
  | j + 2, hj => simp at hj

def exA : List Bw.En := [(1, ([97], [])), (33, ([98], []))]
def exN : Bw.N := .branch 2 [.branch 3 [.leaf 1 ([97], []), .leaf 33 ([98], [])]]
def exS : List Bw.Spot := [(0, 3, 0, 2, 2), (1, 3, 0, 3, 2), (2, 1, 1, 0, 1), (2, 1, 33, 0, 1)]

theorem bucketO_one (h : Nat) (p : Bw.PV) : Bw.bucketO h (Bw.T.from (Bw.come [p])) = some (.leaf h p) := by
  have : Bw.come [p] = [p] := rfl
  rw [this]
  simp [Bw.bucketO, Bw.T.size, Bw.T.from, Bw.T.root]

theorem exA_of : Bw.ofO exA = some exN := by
  have hla : Bw.lasts exA = exA := by decide
  have h1 : Bw.layO 11 2 (Bw.partOf 1 0 exA) = some (.leaf 1 ([97], [])) := by
    rw [show Bw.partOf 1 0 exA = [(1, ([97], []))] by decide, Bw.layO_same (g := 1) (by decide) rfl (by decide)]
    exact bucketO_one 1 _
  have h2 : Bw.layO 11 2 (Bw.partOf 1 1 exA) = some (.leaf 33 ([98], [])) := by
    rw [show Bw.partOf 1 1 exA = [(33, ([98], []))] by decide, Bw.layO_same (g := 33) (by decide) rfl (by decide)]
    exact bucketO_one 33 _
  have h3 : Bw.layO 12 1 exA = some (.branch 3 [.leaf 1 ([97], []), .leaf 33 ([98], [])]) := by
    rw [Bw.layO_split (g := 1) (by decide) rfl (by decide), show Bw.mapOf 1 exA = 3 by decide, show Bw.bitsOf 3 = [0, 1] by decide]
    simp only [List.map_cons, List.map_nil, h1, h2]
    rfl
  unfold Bw.ofO
  rw [hla, Bw.layO_split (g := 1) (by decide) rfl (by decide), show Bw.mapOf 0 exA = 2 by decide, show Bw.bitsOf 2 = [1] by decide]
  simp only [List.map_cons, List.map_nil, show Bw.partOf 0 1 exA = exA by decide, h3]
  rfl

theorem exA_ok : EnsOk exA where
  len := by decide
  bytes := by intro e he; simp only [exA, List.mem_cons, List.not_mem_nil, or_false] at he; rcases he with rfl | rfl <;> decide
  hash := by intro e he; simp only [exA, List.mem_cons, List.not_mem_nil, or_false] at he; rcases he with rfl | rfl <;> decide

theorem exN_spots : Bw.spotsOf (Bw.visitsO 0 (some exN)) = exS := by
  simp [exN, exS, Bw.visitsO, Bw.N.visits, Bw.N.visitsL, Bw.spotsOf, Bw.N.spot, Bw.N.countL, Bw.N.count]

end Go.Proofs.YtadaoceidkagfaaDoor

namespace Go.Proofs.YtadaoceidkagfaaDoor
open Go.RowKit Go.Bw

theorem stoodMeter : Tryd.prog.stoodInHeld 37 = false := by kernel_rfl
theorem fieldsMeter : Tryd.prog.underlying 37 = some (.struct (Tryd.prog.fieldsOf 37)) := by kernel_rfl

set_option maxRecDepth 100000 in
/-- a meter is itself -/
theorem eqMeter (a b : Int) (w : World) : (Op.equalIn 10000 37 (.agg #[.int .i64 a, .int .i64 b]) (.agg #[.int .i64 a, .int .i64 b])).run Tryd.prog w = .ok true w := by
  have u3 := Tryd.underlying3
  have a3' := Tryd.isAgg3
  have z3 := Tryd.sizeOf3
  rw [show (10000 : Nat) = 9999 + 1 from rfl, run_equalIn_agg w 9999 37 _ _ fieldsMeter stoodMeter]
  simp only [Program.fieldsOf, Tryd.underlying37]
  go_simp

def exB : List Bw.En := [(5, ([107], [118]))]
theorem exB_of : Bw.ofO exB = some (.leaf 5 ([107], [118])) := by
  unfold Bw.ofO
  rw [show Bw.lasts exB = exB by decide, Bw.layO_same (g := 5) (by decide) rfl (by decide)]
  exact bucketO_one 5 _
theorem exB_ok : EnsOk exB where
  len := by decide
  bytes := by intro e he; simp only [exB, List.mem_singleton] at he; subst he; decide
  hash := by intro e he; simp only [exB, List.mem_singleton] at he; subst he; decide

end Go.Proofs.YtadaoceidkagfaaDoor

namespace Go.Proofs.YtadaoceidkagfaaDoor
open Go.RowKit Go.Bw

theorem smallE_bounds {l : List Bw.En} {most : Nat} (h : smallE l most = true) : l.length ≤ most ∧ ∀ e ∈ l, e.2.1.length ≤ 60 ∧ e.2.2.length ≤ 60 := by
  unfold smallE at h
  rw [Bool.and_eq_true] at h
  refine ⟨of_decide_eq_true h.1, fun e he => ?_⟩
  have := List.all_eq_true.1 h.2 e he
  unfold entOk at this
  rw [Bool.and_eq_true] at this
  exact ⟨of_decide_eq_true this.1, of_decide_eq_true this.2⟩

theorem smallE_ok {l : List Bw.En} {most : Nat} (hm : most ≤ 1000) (h : smallE l most = true) (hh : ∀ e ∈ l, e.1 < 18446744073709551616) : EnsOk l where
  len := Nat.le_trans (smallE_bounds h).1 hm
  bytes := fun e he => ⟨Nat.le_trans ((smallE_bounds h).2 e he).1 (by decide), Nat.le_trans ((smallE_bounds h).2 e he).2 (by decide)⟩
  hash := hh

theorem _root_.Bw.unlike_eq {l : List Bw.En} (hu : Bw.Unlike l) {a b : Bw.En} (ha : a ∈ l) (hb : b ∈ l) (h : a.2.1 = b.2.1) : a = b := by
  induction l with
  | nil => cases ha
  | cons x r ih =>
    obtain ⟨h1, h2⟩ := List.pairwise_cons.1 hu
    rcases List.mem_cons.1 ha with rfl | ha' <;> rcases List.mem_cons.1 hb with rfl | hb'
    · rfl
    · exact absurd h (h1 b hb')
    · exact absurd h.symm (h1 a ha')
    · exact ih h2 ha' hb'

theorem ofO_look {l : List Bw.En} (hl : EnsOk l) {h : Nat} {k v : Bw.Bytes} : Bw.lookEnd (Bw.wayO 13 (Bw.ofO l) h 0).1 h k = some v ↔ (h, (k, v)) ∈ Bw.lasts l :=
  Bw.look_lays 13 0 (Bw.ofO l) (Bw.lasts l) rfl hl.lays hl.lay.res hl.lay.hash

theorem ofO_look_other {l : List Bw.En} (hl : EnsOk l) {h h' : Nat} {k v : Bw.Bytes} (hm : (h', (k, v)) ∈ Bw.lasts l) (hne : h ≠ h') : Bw.lookEnd (Bw.wayO 13 (Bw.ofO l) h 0).1 h k = none := by
  cases hr : Bw.lookEnd (Bw.wayO 13 (Bw.ofO l) h 0).1 h k with
  | none => rfl
  | some v' =>
    have h1 := (ofO_look hl).1 hr
    have := Bw.unlike_eq hl.lay.unlike h1 hm rfl
    exact absurd (congrArg Prod.fst this) hne

def FaRel (m : List Bw.En) (w3 : World) (i : Value) (wr : World) : Prop := ∃ k : Nat, k ≤ m.length ∧ i = .int .i64 k ∧ Below w3.heap.size w3 wr

end Go.Proofs.YtadaoceidkagfaaDoor

/- brushwoodref18.End. -/
namespace Go.Proofs.YtadaoceidkagfaaDoor
open Go.RowKit Go.Bw

theorem cell_two (w : World) (o : Obj) (cs : Array Value) (t : TypeId) (i : Nat) (v : Value) (h : cs[i]? = some v) : ((w.alloc o).alloc (.cells cs t)).cell? ⟨w.heap.size + 1, i, none⟩ = some v := by
  have := heap_alloc_new (w.alloc o) (.cells cs t)
  rw [World.size_alloc] at this
  simp only [World.cell?, this]
  exact h

/-- a result's block, its five cells stored -/
theorem heap9 {W : World} {b : Nat} {t : TypeId} {c0 c1 c2 c3 c4 : Value} (h : W.heap[b]? = some (.cells #[c0, c1, c2, c3, c4] t (0, 0))) (a0 a1 a2 a3 a4 : Value) :
    (((((W.setCell ⟨b, 0, none⟩ a0).setCell ⟨b, 1, none⟩ a1).setCell ⟨b, 2, none⟩ a2).setCell ⟨b, 3, none⟩ a3).setCell ⟨b, 4, none⟩ a4).heap[b]? = some (.cells #[a0, a1, a2, a3, a4] t (0, 0)) := by
  have := Joins.block_setCell (Joins.block_setCell (Joins.block_setCell (Joins.block_setCell (Joins.block_setCell h (i := 0) a0) (i := 1) a1) (i := 2) a2) (i := 3) a3) (i := 4) a4
  simpa using this

theorem set5 {n b : Nat} {w W : World} (h : Below n w W) (hb : n ≤ b) (a0 a1 a2 a3 a4 : Value) : Below n w (((((W.setCell ⟨b, 0, none⟩ a0).setCell ⟨b, 1, none⟩ a1).setCell ⟨b, 2, none⟩ a2).setCell ⟨b, 3, none⟩ a3).setCell ⟨b, 4, none⟩ a4) :=
  ((((h.setCell (p := ⟨b, 0, none⟩) hb _).setCell (p := ⟨b, 1, none⟩) hb _).setCell (p := ⟨b, 2, none⟩) hb _).setCell (p := ⟨b, 3, none⟩) hb _).setCell (p := ⟨b, 4, none⟩) hb _
theorem blk9 {W : World} {b : Nat} {o x : Obj} (h : W.heap[b]? = some x) : (W.alloc o).heap[b]? = some x := (Below.heap_alloc W o b (Array.getElem?_eq_some_iff.1 h).1).trans h

/-- what was made after a block's making lies as it lay, where that block's cells are stored -/
theorem keepX {ok : Nat → Prop} {n0 n : Nat} {w6 W : World} {x : Bw.X} {cs : List Value} (hn : n0 ≤ n) (hx : xK (fun k => ok k ∧ k < n0) w6 x cs) (hb : Below w6.heap.size w6 W) (a0 a1 a2 a3 a4 : Value) :
    xK ok (((((W.setCell ⟨n, 0, none⟩ a0).setCell ⟨n, 1, none⟩ a1).setCell ⟨n, 2, none⟩ a2).setCell ⟨n, 3, none⟩ a3).setCell ⟨n, 4, none⟩ a4) x cs :=
  goodX.move (fun k hk hl => ⟨hk.1, by
    have hne : k ≠ n := by have := hk.2; omega
    rw [Below.heap_setCell _ ⟨n, 4, none⟩ _ k hne, Below.heap_setCell _ ⟨n, 3, none⟩ _ k hne, Below.heap_setCell _ ⟨n, 2, none⟩ _ k hne, Below.heap_setCell _ ⟨n, 1, none⟩ _ k hne, Below.heap_setCell _ ⟨n, 0, none⟩ _ k hne]
    exact hb.block k hl⟩) hx

theorem five_of {α : Type} {l : List α} (h : l.length = 5) : ∃ a b c d e, l = [a, b, c, d, e] := by
  match l, h with
  | [a, b, c, d, e], _ => exact ⟨a, b, c, d, e, rfl⟩

def EndRel (m cc : Nat) (W2 : World) (i : Value) (wr : World) : Prop := ∃ k : Nat, k ≤ (Bw.bitsOf m).length ∧ i = .int .i64 k ∧ (∀ (j : Nat) (c : Nat), j < k → (Bw.bitsOf m)[j]? = some c → c ≠ cc) ∧ Below W2.heap.size W2 wr

end Go.Proofs.YtadaoceidkagfaaDoor

namespace Go.Proofs.YtadaoceidkagfaaDoor
open Go.RowKit Go.Bw

theorem _root_.Bw.get_mem {k v : Bw.Bytes} : ∀ {m : List Bw.PV}, Bw.Rises m → (Bw.get m k = some v ↔ (k, v) ∈ m)
  | [], _ => by simp [Bw.get]
  | q :: r, h => by
    obtain ⟨h1, h2⟩ := List.pairwise_cons.1 h
    simp only [Bw.get, List.mem_cons]
    split
    · rename_i e
      constructor
      · intro hs
        injection hs with hs
        exact .inl (Prod.ext e.symm hs.symm)
      · rintro (hm | hm)
        · rw [← hm]
        · exact absurd e (Bw.lt_ne (h1 _ hm))
    · rename_i e
      rw [Bw.get_mem h2]
      constructor
      · exact fun hm => .inr hm
      · rintro (hm | hm)
        · exact absurd (by rw [← hm]) e
        · exact hm

/-- what is told at the way's end is what the document's pairs there have -/
theorem lookEnd_get {x : Option Bw.N} (hf : ∀ n, x = some n → n.fit) (hb : ∀ m kids, x ≠ some (.branch m kids)) (h : Nat) (key : Bw.Bytes) :
    ((Bw.absO x).kind ≠ 0 → (Bw.absO x).hash = h → Bw.lookEnd x h key = Bw.get (Bw.absO x).pairs key) ∧ ((Bw.absO x).kind = 0 ∨ (Bw.absO x).hash ≠ h → Bw.lookEnd x h key = none) := by
  match x, hf, hb with
  | none, _, _ => exact ⟨fun h => absurd rfl h, fun _ => rfl⟩
  | some (.leaf g q), _, _ =>
    refine ⟨fun _ (h1 : g = h) => ?_, fun hx => ?_⟩
    · show (if g = h ∧ key = q.1 then some q.2 else none) = if q.1 = key then some q.2 else none
      by_cases h2 : key = q.1
      · rw [if_pos ⟨h1, h2⟩, if_pos h2.symm]
      · rw [if_neg (fun e => h2 e.2), if_neg (fun e => h2 e.symm)]
    · have hne : g ≠ h := hx.resolve_left (fun e : (1 : Nat) = 0 => by cases e)
      show (if g = h ∧ key = q.1 then some q.2 else none) = none
      rw [if_neg (fun e => hne e.1)]
  | some (.bucket g t), hf, _ =>
    have hfit := hf _ rfl
    simp only [Bw.N.fit] at hfit
    refine ⟨fun _ (h1 : g = h) => ?_, fun hx => ?_⟩
    · show (if g = h then t.look key else none) = Bw.get t.list key
      rw [if_pos h1]
      cases hg : Bw.get t.list key with
      | some v => exact (Bw.T.look_mem key v t hfit.2.1).2 ((Bw.get_mem hfit.2.1).1 hg)
      | none =>
        cases hl : t.look key with
        | none => rfl
        | some v =>
          have := (Bw.get_mem hfit.2.1).2 ((Bw.T.look_mem key v t hfit.2.1).1 hl)
          rw [hg] at this
          cases this
    · have hne : g ≠ h := hx.resolve_left (fun e : (2 : Nat) = 0 => by cases e)
      show (if g = h then t.look key else none) = none
      rw [if_neg hne]
  | some (.branch m kids), _, hb => exact absurd rfl (hb m kids)

theorem ofO_abs {l : List Bw.En} (hl : EnsOk l) : Bw.layX 13 0 (Bw.lasts l) = Bw.absO (Bw.ofO l) := by
  have hO := hl.lays
  cases ho : Bw.ofO l with
  | none =>
    rw [ho] at hO
    rw [show Bw.lasts l = [] from hO]
    rfl
  | some n =>
    rw [ho] at hO
    exact Bw.lays_abs hO 13 (Bw.lasts l) rfl hl.lay.unlike (fun _ => Iff.rfl) hl.lay.res hl.lay.hash

end Go.Proofs.YtadaoceidkagfaaDoor

/- How high an even tree is; how many pairs there are at a way's end; what a look costs there. -/
namespace Go.Proofs.YtadaoceidkagfaaDoor
open Go.RowKit Go.Bw

theorem steps_high (k : Bw.Bytes) : ∀ t : Bw.T, t.even → 4 ^ t.steps k ≤ 3 ^ t.steps k * (t.size + 1)
  | .nil, _ => by simp [Bw.T.steps, Bw.T.size]
  | .node l q r, h => by
    obtain ⟨hl, hr, h1, h2⟩ := h
    have il := steps_high k l hl
    have ir := steps_high k r hr
    simp only [Bw.T.steps, Bw.T.size]
    split
    · rw [Nat.pow_one, Nat.pow_one]; clear il ir; omega
    · split
      · rw [Nat.pow_succ, Nat.pow_succ, Nat.mul_assoc]
        refine Nat.le_trans (Nat.mul_le_mul_right 4 ir) ?_
        rw [Nat.mul_assoc]
        clear il ir
        exact Nat.mul_le_mul_left _ (by omega)
      · rw [Nat.pow_succ, Nat.pow_succ, Nat.mul_assoc]
        refine Nat.le_trans (Nat.mul_le_mul_right 4 il) ?_
        rw [Nat.mul_assoc]
        clear il ir
        exact Nat.mul_le_mul_left _ (by omega)

theorem high_pow {s N L : Nat} (h : 4 ^ s ≤ 3 ^ s * N) (hL : N ^ 6 < 2 ^ L) : s < L := by
  have h1 : (4 ^ s) ^ 6 ≤ (3 ^ s * N) ^ 6 := Nat.pow_le_pow_left h 6
  rw [Nat.mul_pow] at h1
  have h2 : (3 ^ s) ^ 6 * 2 ^ s ≤ (4 ^ s) ^ 6 := by
    rw [← Nat.pow_mul, ← Nat.pow_mul, Nat.mul_comm s 6, Nat.pow_mul, Nat.pow_mul, ← Nat.mul_pow]
    exact Nat.pow_le_pow_left (by decide) s
  have h3 : 2 ^ s ≤ N ^ 6 := Nat.le_of_mul_le_mul_left (Nat.le_trans h2 h1) (Nat.pow_pos (Nat.pow_pos (by decide)))
  exact (Nat.pow_lt_pow_iff_right (by decide)).1 (Nat.lt_of_le_of_lt h3 hL)

theorem steps_lt {k : Bw.Bytes} {t : Bw.T} {n L : Nat} (he : t.even) (hn : t.size ≤ n) (hL : (n + 1) ^ 6 < 2 ^ L) : t.steps k < L :=
  high_pow (Nat.le_trans (steps_high k t he) (Nat.mul_le_mul_left _ (Nat.succ_le_succ hn))) hL

theorem count_mem {x : Bw.N} : ∀ {kids : List Bw.N}, x ∈ kids → x.count ≤ Bw.N.countL kids
  | k :: r, h => by
    simp only [Bw.N.countL]
    rcases List.mem_cons.1 h with rfl | h
    · omega
    · have := count_mem h; omega

def manyO : Option Bw.N → Nat
  | none => 0
  | some n => n.count

theorem way_count (h : Nat) : ∀ (f level : Nat) (o : Option Bw.N), manyO (Bw.wayO f o h level).1 ≤ manyO o
  | f, level, none => by rw [Bw.wayO_none]; exact Nat.le_refl _
  | f, level, some (.leaf g q) => by rw [Bw.wayO_leaf]; exact Nat.le_refl _
  | f, level, some (.bucket g t) => by rw [Bw.wayO_bucket]; exact Nat.le_refl _
  | 0, level, some (.branch m kids) => Nat.zero_le _
  | f + 1, level, some (.branch m kids) => by
    simp only [Bw.wayO]
    refine Nat.le_trans (way_count h f (level + 1) _) ?_
    unfold Bw.kidO
    split
    · cases hk : kids[Bw.ones (Bw.chunkAt h level) m]? with
      | none => exact Nat.zero_le _
      | some x => exact count_mem (List.mem_of_getElem? hk)
    · exact Nat.zero_le _

theorem ofO_count {l : List Bw.En} (hl : EnsOk l) : manyO (Bw.ofO l) = (Bw.lasts l).length := by
  have hO := hl.lays
  cases ho : Bw.ofO l with
  | none =>
    rw [ho] at hO
    rw [show Bw.lasts l = [] from hO]
    rfl
  | some n =>
    rw [ho] at hO
    exact Bw.lays_count hO (Bw.lasts l) hl.lay.unlike fun _ => Iff.rfl

/-- what a look costs at a way's end, from what the document has there -/
structure EndCost (k g : Nat) (h : Nat) (c : Nat × Nat) : Prop where
  kind : k = 0 ∨ k = 1 ∨ k = 2
  leaf : k = 1 → c = (1, if g = h then 1 else 0)
  none : k ≠ 1 → (k = 0 ∨ g ≠ h) → c = (0, 0)
  bucket : k = 2 → g = h → 0 < c.1
  less : c.2 ≤ c.1

theorem costEnd_is {x : Option Bw.N} {d : Nat} {l : List Bw.En} (hO : Bw.OLays d x l) (hb : ∀ m kids, x ≠ some (.branch m kids)) (h : Nat) (key : Bw.Bytes) :
    EndCost (Bw.absO x).kind (Bw.absO x).hash h (Bw.costEnd x h key) := by
  match x, hO, hb with
  | none, _, _ => exact ⟨.inl rfl, fun h => (by cases h), fun _ _ => rfl, fun h => (by cases h), Nat.le_refl _⟩
  | some (.leaf g q), _, _ => exact ⟨.inr (.inl rfl), fun _ => rfl, fun h => absurd rfl h, fun h => (by cases h), by show (if g = h then 1 else 0) ≤ 1; split <;> decide⟩
  | some (.bucket g t), hO, _ =>
    have h2s : 2 ≤ t.size := by
      cases hO with
      | bucket he hrs h2 hs => rw [← Bw.T.length_list]; exact h2
    refine ⟨.inr (.inr rfl), fun h => (by cases h), fun _ hx => ?_, fun _ hg => ?_, ?_⟩
    · have hne : g ≠ h := hx.resolve_left (fun e : (2 : Nat) = 0 => by cases e)
      show (if g = h then (t.steps key, t.steps key) else (0, 0)) = (0, 0)
      rw [if_neg hne]
    · show 0 < (if g = h then (t.steps key, t.steps key) else (0, 0)).1
      rw [if_pos (show g = h from hg)]
      cases t with
      | nil => exact absurd h2s (by simp [Bw.T.size])
      | node a b c =>
        simp only [Bw.T.steps]
        split
        · exact Nat.one_pos
        · split <;> exact Nat.succ_pos _
    · show (if g = h then (t.steps key, t.steps key) else (0, 0)).2 ≤ (if g = h then (t.steps key, t.steps key) else (0, 0)).1
      split <;> exact Nat.le_refl _
  | some (.branch m kids), _, hb => exact absurd rfl (hb m kids)

theorem costEnd_bound {x : Option Bw.N} (hf : ∀ n, x = some n → n.fit) (h : Nat) (key : Bw.Bytes) {n L : Nat} (hn : manyO x ≤ n) (hL : (n + 1) ^ 6 < 2 ^ L) : (Bw.costEnd x h key).1 ≤ L := by
  have hL1 : 1 ≤ L := by
    rcases Nat.eq_zero_or_pos L with rfl | h
    · have : 1 ≤ (n + 1) ^ 6 := Nat.pow_pos (Nat.succ_pos n)
      rw [Nat.pow_zero] at hL
      exact absurd hL (by clear hL; omega)
    · exact h
  match x, hf, hn with
  | none, _, _ => exact Nat.zero_le _
  | some (.leaf g q), _, _ => exact hL1
  | some (.bucket g t), hf, hn =>
    have hfit := hf _ rfl
    simp only [Bw.N.fit] at hfit
    show (if g = h then (t.steps key, t.steps key) else (0, 0)).1 ≤ L
    split
    · exact Nat.le_of_lt (steps_lt hfit.1 hn hL)
    · exact Nat.zero_le _
  | some (.branch m kids), _, _ => exact Nat.zero_le _
end Go.Proofs.YtadaoceidkagfaaDoor
