
import Derived.Test.YtehkjnmnbplcoaaGreatDoorBwAll
import Derived.Test.YtehkjnmnbplcoaaGreatDoorRef19
import Derived.Shelf.SlicesQ.Reverse
import Derived.Shelf.SlSortCmp.WholeK
import Derived.Maps.Own
import Derived.Maps.OwnOps
import Derived.Maps.Views
import Derived.Test.YtehkjnmnbplcoaaGreatDoorPairs
import Derived.Deep.RegionLaw
import Derived.Deep.QuietTactic
import Derived.BigQuiet
namespace Go.Proofs.YtehkjnmnbplcoaaGreatDoor
open Go.RowKit Go.Bw Go.Shelf Go.Lib Go.Sort Go.Proofs

/-! ### an entry of a layout: a hash, and a pair of bytes -/
abbrev entK : Knd Bw.En := prK natK64 pairK
theorem goodEnt : _root_.Go.Bw.Good 3 entK := goodNat64.pr goodPair
abbrev EntsAt := RowAt 3 entK
theorem entK_open {ok : Nat → Prop} {w : World} {e : Bw.En} {cs : List Value} (h : entK ok w e cs) : ∃ u v, cs = [.int .u64 (e.1 : Nat), u, v] ∧ BytesAt ok w u e.2.1 ∧ BytesAt ok w v e.2.2 := by
  obtain ⟨a, b, rfl, rfl, h2⟩ := h
  obtain ⟨u, v, rfl, hu, hv⟩ := pairK_open h2
  exact ⟨u, v, rfl, hu, hv⟩
theorem entK_mk {ok : Nat → Prop} {w : World} {e : Bw.En} {u v : Value} (hu : BytesAt ok w u e.2.1) (hv : BytesAt ok w v e.2.2) : entK ok w e [.int .u64 (e.1 : Nat), u, v] :=
  ⟨[.int .u64 (e.1 : Nat)], [u, v], rfl, rfl, pairK_mk hu hv⟩
theorem ent_get {ok : Nat → Prop} {w : World} {A : Option Addr} {n c j : Nat} {xs : List Bw.En} {e : Bw.En} (h : EntsAt ok w (.slice A n c) xs) (hj : xs[j]? = some e) :
    ∃ b o u v, A = some ⟨b, o, none⟩ ∧ ok b ∧ w.cell? ⟨b, o + j * 3, none⟩ = some (.int .u64 (e.1 : Nat)) ∧ w.cell? ⟨b, o + j * 3 + 1, none⟩ = some u ∧ w.cell? ⟨b, o + j * 3 + 2, none⟩ = some v ∧ BytesAt ok w u e.2.1 ∧ BytesAt ok w v e.2.2 := by
  obtain ⟨b, o, cs, rfl, hx, hc⟩ := h.get hj
  obtain ⟨u, v, rfl, hu, hv⟩ := entK_open hx
  exact ⟨b, o, u, v, rfl, (hc 0 _ rfl).1, (hc 0 _ rfl).2, (hc 1 _ rfl).2, (hc 2 _ rfl).2, hu, hv⟩

/-! ### slices.Reverse over a row of the call's own -/
structure Ge {α : Type} (d : Knd α) (ok : Nat → Prop) (w : World) where
  x : α
  cs : List Value
  h : d ok w x cs

theorem ges_of_reps {α : Type} {d : Knd α} {sz : Nat} {ok : Nat → Prop} {w : World} {xs : List α} {inner : List Value} (h : Reps (d ok w) sz xs inner) :
    ∃ ds : List (Ge d ok w), ds.map Ge.x = xs ∧ ∀ j x, ds[j]? = some x → (inner.drop (j * sz)).take sz = x.cs := by
  have key : ∀ j : Fin xs.length, ∃ y : Ge d ok w, y.x = xs[j] ∧ (inner.drop (j * sz)).take sz = y.cs := by
    intro j
    have hc := h.2 j xs[j] (List.getElem?_eq_getElem j.isLt)
    exact ⟨⟨xs[j], _, hc⟩, rfl, rfl⟩
  refine ⟨List.ofFn fun j => Classical.choose (key j), ?_, fun j x hj => ?_⟩
  · apply List.ext_getElem
    · simp
    · intro i h1 h2
      simp only [List.getElem_map, List.getElem_ofFn]
      exact (Classical.choose_spec (key ⟨i, h2⟩)).1
  · have hl : j < xs.length := by
      have := (List.getElem?_eq_some_iff.1 hj).1
      simpa using this
    obtain ⟨_, hx⟩ := List.getElem?_eq_some_iff.1 hj
    simp only [List.getElem_ofFn] at hx
    rw [← hx]
    exact (Classical.choose_spec (key ⟨j, hl⟩)).2

theorem holds_ges {α : Type} {d : Knd α} {sz : Nat} (hd0 : _root_.Go.Bw.Good sz d) (hsz : 0 < sz) {ok : Nat → Prop} {w w0 : World} [Inhabited (Ge d ok w0)] {base e g n cap : Nat} {inner : List Value} {ds : List (Ge d ok w0)}
    (ho : w.ownsRow base e sz (.slice (some ⟨g, 0, none⟩) n cap) ds.length inner) (hd : ∀ j x, ds[j]? = some x → (inner.drop (j * sz)).take sz = x.cs) : HoldsK Ge.cs sz w g 0 ds.toArray := by
  intro t ht
  rw [size_flatK] at ht
  simp only [List.size_toArray] at ht
  have hj : t / sz < ds.length := Nat.div_lt_of_lt_mul (by rw [Nat.mul_comm]; exact ht)
  have hx := hd (t / sz) ds[t / sz] (List.getElem?_eq_getElem hj)
  have h2 : t % sz < sz := Nat.mod_lt _ hsz
  have htd : t / sz * sz + t % sz = t := by rw [Nat.mul_comm]; exact Nat.div_add_mod t sz
  have hl : t % sz < (ds[t / sz].cs).length := by rw [hd0.len ds[t / sz].h]; exact h2
  have hcell := World.ownsRow.cells ho (g := g) rfl t ((ds[t / sz].cs)[t % sz]!) (by
    have : ((inner.drop (t / sz * sz)).take sz)[t % sz]? = inner[t]? := by
      rw [List.getElem?_take, if_pos h2, List.getElem?_drop, htd]
    rw [← this, hx, List.getElem?_eq_getElem hl]
    simp [hl])
  rw [add_none] at hcell
  refine ⟨?_, ?_⟩
  · rw [get_flatK _ _ _ _ (by simpa using ht)]
    have hg : ds.toArray[t / sz]! = ds[t / sz] := by simp [hj]
    rw [hg]
    exact hcell
  · rcases ho.2 with ⟨h, _⟩ | ⟨g', cap', cur, he, _, hh, _⟩
    · cases h
    · cases he
      simp [World.frozen?, hh]

theorem own_of_put {α : Type} {d : Knd α} {sz : Nat} (hd0 : _root_.Go.Bw.Good sz d) (hsz : 0 < sz) {ok : Nat → Prop} {w : World} {base e g n cap m : Nat} {xs : List α} [Inhabited (Ge d (fun k => ok k ∧ some k ≠ some g) w)]
    (hown : OwnAt e sz d ok w base (.slice (some ⟨g, 0, none⟩) n cap) xs)
    {ds : Array (Ge d (fun k => ok k ∧ some k ≠ some g) w)} (hs : ds.size = xs.length) :
    OwnAt e sz d ok (putRowK Ge.cs sz (Sort.ahead w m) g 0 ds) base (.slice (some ⟨g, 0, none⟩) n cap) (ds.toList.map Ge.x) ∧ w.grownBy (putRowK Ge.cs sz (Sort.ahead w m) g 0 ds) (some g) := by
  obtain ⟨hok, inner, ho, hr⟩ := hown
  have hlt := (ho.lt g rfl).2
  have hgr : w.grownBy (putRowK Ge.cs sz (Sort.ahead w m) g 0 ds) (some g) := by
    refine ⟨rfl, rfl, rfl, ?_, fun k hk hne => ?_⟩
    · simp [putRowK, putRow, mapBlock]
    · have hkg : g ≠ k := fun e => hne (by rw [e])
      show ((w.heap.modify g _)[k]?) = _
      rw [Array.getElem?_modify, if_neg hkg]
  rcases ho.2 with ⟨h, _⟩ | ⟨g', cap', cur, he, hbg, hh, hnc, hcm, hcs, ht⟩
  · cases h
  · cases he
    refine ⟨⟨hok, (flatK Ge.cs sz ds).toList, ⟨?_, .inr ⟨g, cap, putCells id 0 (flatK Ge.cs sz ds) cur, ?_, hbg, ?_, ?_, hcm, ?_, ?_⟩⟩, ?_, ?_⟩, hgr⟩
    · simp
    · simp [hs]
    · show ((w.heap.modify g (onCells (putCells id 0 (flatK Ge.cs sz ds))))[g]?) = _
      rw [Array.getElem?_modify, if_pos rfl, hh]
      rfl
    · simp [hs]; exact hnc
    · simp [putCells, hcs]
    · have hsf : (flatK Ge.cs sz ds).size = ds.size * sz := size_flatK _ _ _
      have hle : ds.size * sz ≤ cur.size := by rw [hcs, hs]; exact Nat.mul_le_mul_right _ hnc
      apply List.ext_getElem
      · simp [putCells]; omega
      · intro i h1 h2
        have hi : i < ds.size * sz := by simpa using h2
        simp only [List.getElem_take, Array.getElem_toList, putCells, Array.getElem_mapIdx, Nat.zero_add, Nat.sub_zero]
        rw [if_pos ⟨Nat.zero_le _, by rw [hsf]; exact hi⟩]
        simp [hi]
    · simp
    · intro j x hj
      rw [List.getElem?_map, Option.map_eq_some_iff] at hj
      obtain ⟨y, hy, rfl⟩ := hj
      obtain ⟨hjl, hy'⟩ := List.getElem?_eq_some_iff.1 hy
      have hjd : j < ds.size := by simpa using hjl
      have hyl : y.cs.length = sz := hd0.len y.h
      have hms : (j + 1) * sz ≤ ds.size * sz := Nat.mul_le_mul_right _ hjd
      rw [Nat.add_mul, Nat.one_mul] at hms
      have hc : ((flatK Ge.cs sz ds).toList.drop (j * sz)).take sz = y.cs := by
        apply List.ext_getElem
        · simp [hyl]; omega
        · intro i h1 h2
          have hi2 : i < sz := by rw [hyl] at h2; exact h2
          have ht : j * sz + i < ds.size * sz := by omega
          simp only [List.getElem_take, List.getElem_drop, Array.getElem_toList]
          have e1 : (flatK Ge.cs sz ds)[j * sz + i]'(by rw [size_flatK]; exact ht) = (flatK Ge.cs sz ds)[j * sz + i]! := by simp [ht]
          rw [e1, get_flatK _ _ _ _ ht]
          have e2 : (j * sz + i) / sz = j := by rw [Nat.mul_comm, Nat.mul_add_div hsz, Nat.div_eq_of_lt hi2, Nat.add_zero]
          have e3 : (j * sz + i) % sz = i := by rw [Nat.mul_comm, Nat.mul_add_mod, Nat.mod_eq_of_lt hi2]
          have e4 : ds[j]! = y := by rw [← hy']; simp [hjd]
          rw [e2, e3, e4]
          simp [h2]
      rw [hc]
      have mv : Moves (fun k => ok k ∧ some k ≠ some g) (fun k => ok k ∧ some k ≠ (Value.slice (some ⟨g, 0, none⟩) xs.length cap).ownBlock) w (putRowK Ge.cs sz (Sort.ahead w m) g 0 ds) :=
        fun k hk hl => ⟨hk, hgr.block k hl hk.2⟩
      exact hd0.move mv y.h

def revERen : Go.Shelf.Ren := ⟨fun | 35 => 66 | n => n, fun | 22 => 54 | 23 => 83 | 3 => 3 | 4 => 4 | 0 => 0 | n => n, fun | n => n⟩
theorem revE : Go.Proofs.SlLaysE0.n35 Tryz.prog revERen := {
  mixed := by kernel_rfl
  f35 := ⟨Tryz.f66.name, by decide, Tryz.func66.trans (congrArg some (by kernel_rfl))⟩
  t0 := Tryz.underlying0
  a0 := Tryz.isAgg0
  z0 := Tryz.sizeOf0
  v0 := Tryz.zeroValue0
  t3 := Tryz.underlying3
  a3 := Tryz.isAgg3
  z3 := Tryz.sizeOf3
  v3 := Tryz.zeroValue3
  t4 := Tryz.underlying4
  a4 := Tryz.isAgg4
  z4 := Tryz.sizeOf4
  v4 := Tryz.zeroValue4
  t22 := Tryz.underlying54
  a22 := Tryz.isAgg54
  z22 := Tryz.sizeOf54
  v22 := Tryz.zeroValue54 }

instance (ok : Nat → Prop) (w : World) : Inhabited (Ge entK ok w) := ⟨⟨(0, [], []), _, entK_mk (e := (0, [], [])) (RowAt.nil) (RowAt.nil)⟩⟩

theorem reverseD_any {d : Knd Bw.En} (hd : _root_.Go.Bw.Good 3 d) [hI : ∀ (ok : Nat → Prop) (w : World), Inhabited (Ge d ok w)] {ok : Nat → Prop} {w : World} {base : Nat} {v : Value} {xs : List Bw.En} (hown : OwnAt 83 3 d ok w base v xs) (hn : xs.length ≤ 1048576) :
    Calls Tryz.prog 66 #[v] w fun e w' =>
      e = .returned (.tuple #[]) ∧ OwnAt 83 3 d ok w' base v xs.reverse ∧ w.grownBy w' v.ownBlock := by
  by_cases hx : xs = []
  · subst hx
    obtain ⟨A, c, rfl⟩ := (hown.row hd).form
    refine Calls.mono (AnyQ.slices_Reverse_empty revE A c w) ?_
    rintro e w' ⟨rfl, rfl⟩
    exact ⟨rfl, hown, rfl, rfl, rfl, Nat.le_refl _, fun _ _ _ => rfl⟩
  · obtain ⟨g, cap, rfl⟩ := hown.block hx
    have hown' := hown
    obtain ⟨_, inner, ho, hr0⟩ := hown'
    have hr : Reps (d (fun k => ok k ∧ some k ≠ some g) w) 3 xs inner := hr0
    clear hr0
    obtain ⟨ds, hds, hel⟩ := ges_of_reps hr
    have hlen : ds.length = xs.length := by rw [← hds, List.length_map]
    rw [← hlen] at ho
    have hH := holds_ges hd (by decide) ho hel
    have hcon := AnyQ.slices_Reverse revE 3 Tryz.isAgg83 Tryz.sizeOf83 Ge.cs (fun x => hd.len x.h) (fun x => hd.one x.h) g 0 cap ds.toArray w hH (by simp [hlen]; omega)
    simp only [List.size_toArray, hlen] at hcon
    refine Calls.mono hcon ?_
    rintro e w' ⟨rfl, m, rfl⟩
    have hfin := own_of_put hd (by decide) hown (ds := ds.toArray.reverse) (m := m) (by simp [hlen])
    have h3 : ds.toArray.reverse.toList.map Ge.x = xs.reverse := by simp [hds]
    rw [h3] at hfin
    exact ⟨rfl, hfin⟩


theorem reverse_any {ok : Nat → Prop} {w : World} {base : Nat} {v : Value} {xs : List Bw.En} (hown : OwnAt 83 3 entK ok w base v xs) (hn : xs.length ≤ 1048576) :
    Calls Tryz.prog 66 #[v] w fun e w' =>
      e = .returned (.tuple #[]) ∧ OwnAt 83 3 entK ok w' base v xs.reverse ∧ w.grownBy w' v.ownBlock := reverseD_any goodEnt hown hn

/-! ### an entry whose bytes lie in rows that a call has made -/
abbrev entO : Knd Bw.En := prK natK64 pairO
theorem goodEntO : _root_.Go.Bw.Good 3 entO := goodNat64.pr goodPairO
theorem entO_mk {ok : Nat → Prop} {w : World} {e : Bw.En} {u v : Value} {b b' : Nat} (hu : OwnAt 5 1 byteK ok w b u e.2.1) (hv : OwnAt 5 1 byteK ok w b' v e.2.2) : entO ok w e [.int .u64 (e.1 : Nat), u, v] :=
  ⟨[.int .u64 (e.1 : Nat)], [u, v], rfl, rfl, pairO_mk hu hv⟩
theorem entO_open {ok : Nat → Prop} {w : World} {e : Bw.En} {cs : List Value} (h : entO ok w e cs) : ∃ u v b b', cs = [.int .u64 (e.1 : Nat), u, v] ∧ OwnAt 5 1 byteK ok w b u e.2.1 ∧ OwnAt 5 1 byteK ok w b' v e.2.2 := by
  obtain ⟨a, b, rfl, rfl, h2⟩ := h
  obtain ⟨u, v, b, b', rfl, hu, hv⟩ := pairO_open h2
  exact ⟨u, v, b, b', rfl, hu, hv⟩
theorem entO_plain {ok : Nat → Prop} {w : World} {e : Bw.En} {cs : List Value} (h : entO ok w e cs) : entK ok w e cs := by
  obtain ⟨u, v, b, b', rfl, hu, hv⟩ := entO_open h
  exact entK_mk (hu.row goodByte) (hv.row goodByte)
instance (ok : Nat → Prop) (w : World) : Inhabited (Ge entO ok w) := ⟨⟨(0, [], []), _, entO_mk (e := (0, [], [])) (b := 0) (b' := 0) OwnAt.nil OwnAt.nil⟩⟩
end Go.Proofs.YtehkjnmnbplcoaaGreatDoor

namespace Go.Proofs.YtehkjnmnbplcoaaGreatDoor
open Go.RowKit Go.Bw Go.Maps

theorem zeroInt (w : World) : (zeroValue 3).run Tryz.prog w = .ok (.int .i64 0) w := by kernel_rfl
theorem keyedStr : Keyed Tryz.prog 9 := string_keyed Tryz.underlying9
theorem keyStr {s : Bw.Bytes} (hs : s.length ≤ maxLen) : keyOf Tryz.prog 9 (.string ⟨s.toArray⟩) = some (.string s) := Go.WideMaps.keyOf_string_mk Tryz.underlying9 hs

/-- a map of the call's own that counts keys -/
def SeenAt (w : World) (b n : Nat) (l : List Bw.Bytes) : Prop :=
  ∃ D : DataW Unit, w.ownsMap Tryz.prog 9 (plainElem Tryz.prog 3) b n D ∧ IsMap D ∧ ∀ s : Bw.Bytes, D.atKey (.string s) (.lit (.int .i64 0)) = .lit (.int .i64 (l.count s : Nat))

theorem SeenAt.made (w : World) : SeenAt (w.alloc (.map #[] 0)) w.heap.size 0 [] :=
  ⟨.map [], World.ownsMap_made _ _ _ _, isMap_empty, fun s => by simp [DataW.atKey]⟩

theorem SeenAt.kept {w w' : World} {b n : Nat} {l : List Bw.Bytes} {row : Option Nat} (h : SeenAt w b n l) (hg : w.grownBy w' row) (hne : some b ≠ row) : SeenAt w' b n l := by
  obtain ⟨D, h1, h2, h3⟩ := h
  exact ⟨D, h1.kept hg hne, h2, h3⟩

theorem SeenAt.lt {w : World} {b n : Nat} {l : List Bw.Bytes} (h : SeenAt w b n l) : b < w.heap.size := by
  obtain ⟨D, h1, _, _⟩ := h
  exact h1.lt

theorem SeenAt.look {w : World} {b n : Nat} {l : List Bw.Bytes} {s : Bw.Bytes} (h : SeenAt w b n l) (hs : s.length ≤ maxLen) :
    (Instr.lookup 120 (.map (some b)) (.string ⟨s.toArray⟩) false).run Tryz.prog w = .ok (.int .i64 (l.count s : Nat)) w := by
  obtain ⟨D, h1, h2, h3⟩ := h
  obtain ⟨c, hrun, hat, _⟩ := h1.lookup_int keyedStr Tryz.underlying120 Tryz.underlying3 (zeroInt _) (keyStr hs)
  rw [h3 s] at hat
  simp only [DataW.lit.injEq, Lit.int.injEq, true_and] at hat
  rw [hat]
  exact hrun

theorem wp_seen {ops : Array Oper} {rest : List Oper} {o : Oper} {a : Act} {Q : Exit → Act → World → Prop} (w : World)
    (hg : o.guard = none) (m x v : Operand) (hop : o.op = Op.mapUpdate 120 m x v) {b n : Nat} {l : List Bw.Bytes} {s : Bw.Bytes}
    (hm : a.eval m = .map (some b)) (hS : SeenAt w b n l) (hn : n < maxLen) (hs : s.length ≤ maxLen) (hx : a.eval x = .string ⟨s.toArray⟩) (hv : a.eval v = .int .i64 ((l.count s + 1 : Nat) : Int)) (hc : l.count s ≤ 1048576)
    (hK : ∀ w', SeenAt w' b (n + 1) (s :: l) → w.grownBy w' (some b) → wpList Tryz.prog ops Q rest (a.put o.dst undef) w') : wpList Tryz.prog ops Q (o :: rest) a w := by
  obtain ⟨D, h1, h2, h3⟩ := hS
  refine wpList_mapUpdate_own w hg m x v 120 hop 9 3 keyedStr Tryz.underlying120 (plainElem Tryz.prog 3) b n D hm h1 hn _ _ (.string s) hx hv (keyStr hs)
    (.lit (.int .i64 ((l.count s + 1 : Nat) : Int))) [] (plainElem_int Tryz.underlying3 (WalkArith.wf_i64 (by omega))) ?_
  intro w' hown hgr
  refine hK w' ⟨_, hown, h2.put _ _, fun k => ?_⟩ hgr
  by_cases hk : k = s
  · subst hk
    rw [atKey_put_same h2 (show WideAt.IsKeyLit (.string k) from trivial), List.count_cons_self]
  · rw [atKey_put_other (by intro e; injection e with e; exact hk e), h3 k, List.count_cons_of_ne (fun e => hk e.symm)]
end Go.Proofs.YtehkjnmnbplcoaaGreatDoor

namespace Go.Proofs.YtehkjnmnbplcoaaGreatDoor
open Go.RowKit Go.Bw

/-- those whose keys stand in none behind them -/
def _root_.Bw.lasts : List Bw.En → List Bw.En
  | [] => []
  | e :: r => if (r.map (·.2.1)).count e.2.1 = 0 then e :: Bw.lasts r else Bw.lasts r

theorem infoLE : (Tryz.prog.info? 83).map (fun i => (i.zero, i.size, i.bytes)) = some (some (.agg #[.int .u64 0, .slice none 0 0, .slice none 0 0]), 3, 56) := by kernel_rfl

theorem lasts_len (l : List Bw.En) : (Bw.lasts l).length ≤ l.length := by
  induction l with
  | nil => simp [Bw.lasts]
  | cons e r ih => simp only [Bw.lasts]; split <;> simp <;> omega

theorem own1O_any {px py : Bw.Bytes} {u v : Value} {W : World} {n : Nat} (hpx : px.length ≤ 1048576) (hpy : py.length ≤ 1048576) (hu : BytesAt AllB W u px) (hv : BytesAt AllB W v py) (hh : W.heap[n]? = some (.cells #[u, v] 31)) :
    Calls Tryz.prog 65 #[.slice (some ⟨n, 0, none⟩) 1 1] W (Gives W fun q w' => ∃ g cap U cu V cv, q = .slice (some ⟨g, 0, none⟩) 1 cap ∧ w'.cell? ⟨g, 0, none⟩ = some (.slice U px.length cu) ∧ w'.cell? ⟨g, 1, none⟩ = some (.slice V py.length cv) ∧
      ∃ p p', OwnAt 5 1 byteK (fun k => n + 1 ≤ k) w' p (.slice U px.length cu) px ∧ OwnAt 5 1 byteK (fun k => n + 1 ≤ k) w' p' (.slice V py.length cv) py) := by
  have hn : n < W.heap.size := (Array.getElem?_eq_some_iff.1 hh).1
  refine (pownO_any (l := [(px, py)]) (by simp) (fun p hp => by rw [List.mem_singleton] at hp; subst hp; exact ⟨hpx, hpy⟩) (RowAt.single (ok := AllB) goodPair (cs := #[u, v]) (pairK_mk hu hv) trivial hh)).mono ?_
  rintro e w' ⟨q, rfl, ⟨g, cap, rfl, hown⟩, hb⟩
  obtain ⟨b, o, cs, e1, hx, hc⟩ := (hown.row goodPairO).get (j := 0) rfl
  obtain ⟨u1, u2, p, p', rfl, h1, h2⟩ := pairO_open hx
  cases e1
  have c0 := (hc 0 _ rfl).2; have c1 := (hc 1 _ rfl).2
  obtain ⟨U, cu, rfl⟩ := (h1.row goodByte).form
  obtain ⟨V, cv, rfl⟩ := (h2.row goodByte).form
  exact ⟨_, rfl, ⟨g, cap, U, cu, V, cv, rfl, c0, c1, p, p', h1.move goodByte (Moves.weaken fun k hk _ => Nat.lt_of_lt_of_le hn hk), h2.move goodByte (Moves.weaken fun k hk _ => Nat.lt_of_lt_of_le hn hk)⟩, hb⟩

theorem SeenAt.below {w w' : World} {b n : Nat} {l : List Bw.Bytes} (h : SeenAt w b n l) (hw : Below w.heap.size w w') : SeenAt w' b n l :=
  h.kept (row := none) ⟨hw.os, hw.tape, hw.output, hw.size, fun k hk _ => hw.block k hk⟩ (by simp)

def LcRel (l : List Bw.En) (w : World) (v i : Value) (wr : World) : Prop :=
  ∃ j : Nat, j ≤ l.length ∧ i = .int .i64 ((j : Int) - 1) ∧ SeenAt wr w.heap.size (l.length - j) ((l.drop j).map (·.2.1)) ∧
    OwnAt 83 3 entO (fun k => w.heap.size < k) wr (w.heap.size + 1) v (Bw.lasts (l.drop j)).reverse ∧ Below w.heap.size w wr

set_option maxRecDepth 100000 in
set_option maxHeartbeats 1000000 in
theorem lcomeO_any {ok : Nat → Prop} {l : List Bw.En} {v : Value} {w : World} (hl : l.length ≤ 1048576) (hp : ∀ e ∈ l, e.2.1.length ≤ 1048576 ∧ e.2.2.length ≤ 1048576) (hr : EntsAt ok w v l) :
    Calls Tryz.prog 32 #[v] w (Gives w fun q w' => OwnAt 83 3 entO (fun k => w.heap.size ≤ k) w' w.heap.size q (Bw.lasts l)) := by
  obtain ⟨A, c, rfl⟩ := hr.form
  obtain ⟨i0, hi, hz0, hz1, hz2⟩ := info_parts infoLE
  have hmm := @run_makeMap Tryz.prog
  have H0 : Hid (LcRel l w (.slice none 0 0) (.int .i64 ((l.length : Int) - 1)) (w.alloc (.map #[] 0))) :=
    Lib.hid ⟨l.length, Nat.le_refl _, rfl, by rw [Nat.sub_self, List.drop_length]; exact SeenAt.made w, by rw [List.drop_length]; exact OwnAt.nil, (Below.refl _ _).alloc (Nat.le_refl _) _⟩
  have hw0 : wrap64 ((l.length : Int) - 1) = (l.length : Int) - 1 := by unfold wrap64; omega
  have HR := Lib.hid hr; have HL := Lib.hid hl; have HP := Lib.hid hp
  have HI := Lib.hid hi; have HZ0 := Lib.hid hz0; have HZ1 := Lib.hid hz1; have HZ2 := Lib.hid hz2
  clear hr hl hp hi hz0 hz1 hz2
  go_enter Tryz.func32, Tryz.ntmps32
  go_wp2_with fail
  go_loopw [4, 5] (LcRel l w) (fun _ i _ => (intOf i + 1).toNat)
  case atStart => rw [hw0]; exact H0.out
  case round =>
    obtain ⟨j, hj, rfl, hS, hown, hB⟩ := hrel
    cases j with
    | zero =>
      have hi0 : (((0 : Nat) : Int) - 1) = -1 := rfl
      rw [hi0]
      have HOWN := Lib.hid hown
      have HB := Lib.hid hB
      have CR := Lib.hid (reverseD_any goodEntO hown (by rw [List.length_reverse]; exact Nat.le_trans (lasts_len _) (by rw [List.drop_zero]; exact HL.out)))
      clear hS hown hB
      go_wp2_with fail
      refine CR.out.mono ?_
      rintro e w2 ⟨rfl, hown2, hg2⟩
      rw [List.reverse_reverse, List.drop_zero] at hown2
      go_wp2
      go_ret
      exact ⟨_, rfl, own_rebase (hown2.move goodEntO (Moves.weaken fun k hk _ => Nat.le_of_lt hk)) (Nat.le_succ _), HB.out.grown hg2 HB.out.size (fun k e => Nat.le_of_lt (HOWN.out.lt k e).1)⟩
    | succ m =>
      have hlt : m < l.length := hj
      have hi1 : (((m + 1 : Nat) : Int) - 1) = (m : Int) := by omega
      rw [hi1]
      obtain ⟨b, o, u1, u2, rfl, hob, c0, c1, c2, hu, hv⟩ := ent_get HR.out (List.getElem?_eq_getElem hlt)
      obtain ⟨U1, cu1, rfl⟩ := hu.form
      obtain ⟨U2, cu2, rfl⟩ := hv.form
      have hbl := World.block_lt_of_cell? w _ c0
      dsimp only at hbl
      have hbl2 : b < wr.heap.size := Nat.lt_of_lt_of_le hbl hB.size
      have hbne : b ≠ w.heap.size := Nat.ne_of_lt hbl
      have h0 : (0 : Int) ≤ (m : Int) := by omega
      have h1 : (m : Int) < (l.length : Int) := by omega
      have HC : Hid (∀ W, Below w.heap.size w W → W.cell? ⟨b, o + m * 3, none⟩ = some (.int .u64 ((l[m]).1 : Nat)) ∧ W.cell? ⟨b, o + m * 3 + 1, none⟩ = some (.slice U1 (l[m]).2.1.length cu1) ∧ W.cell? ⟨b, o + m * 3 + 2, none⟩ = some (.slice U2 (l[m]).2.2.length cu2)) :=
        Lib.hid fun W hW => ⟨(hW.cell (p := ⟨b, o + m * 3, none⟩) hbl).trans c0, (hW.cell (p := ⟨b, o + m * 3 + 1, none⟩) hbl).trans c1, (hW.cell (p := ⟨b, o + m * 3 + 2, none⟩) hbl).trans c2⟩
      obtain ⟨d0, d1, d2⟩ := HC.out wr hB
      have hdr : l.drop m = l[m] :: l.drop (m + 1) := List.drop_eq_getElem_cons hlt
      have hla : Bw.lasts (l.drop m) = if ((l.drop (m + 1)).map (·.2.1)).count (l[m]).2.1 = 0 then l[m] :: Bw.lasts (l.drop (m + 1)) else Bw.lasts (l.drop (m + 1)) := by rw [hdr, Bw.lasts]
      have hkeys : (l.drop m).map (·.2.1) = (l[m]).2.1 :: (l.drop (m + 1)).map (·.2.1) := by rw [hdr, List.map_cons]
      have hcl : ((l.drop (m + 1)).map (·.2.1)).count (l[m]).2.1 ≤ 1048576 := Nat.le_trans List.count_le_length (by rw [List.length_map, List.length_drop]; have := HL.out; omega)
      have hpp := HP.out l[m] (List.getElem_mem hlt)
      have hlen : (Bw.lasts (l.drop (m + 1))).reverse.length ≤ 1048576 := by rw [List.length_reverse]; exact Nat.le_trans (lasts_len _) (by rw [List.length_drop]; have := HL.out; omega)
      have hml : maxLen = maxLen := rfl
      have hks : (l[m]).2.1.length ≤ maxLen := by have := hpp.1; unfold maxLen; omega
      have hkn : l.length - (m + 1) < maxLen := by have := HL.out; unfold maxLen; omega
      have hsub : l.length - m = l.length - (m + 1) + 1 := by omega
      have hsubI : wrap64 ((m : Int) - 1) = (m : Int) - 1 := by unfold wrap64; have := HL.out; omega
      have HMES : Hid (((m : Int) - 1 + 1).toNat < ((m : Int) + 1).toNat) := Lib.hid (by omega)
      have HLA := Lib.hid hla; have HKEYS := Lib.hid hkeys; have HSUB := Lib.hid hsub; have HLEN := Lib.hid hlen
      have CQ := run_conv (P := Tryz.prog) 29 9 5 Tryz.underlying29 Tryz.underlying5 Tryz.underlying9 (hu.move (ok' := ok) goodByte (Moves.below hB))
      have HLK := hS.look hks
      have HU := Lib.hid hu; have HV := Lib.hid hv; have HB := Lib.hid hB; have HS := Lib.hid hS; have HOWN := Lib.hid hown; have HPP := Lib.hid hpp; have HKS := Lib.hid hks
      have HLT := Lib.hid hlt; have HKN := Lib.hid hkn
      clear hdr hla hkeys hpp hlen hml hsub c0 c1 c2 hu hv hB hS hown hmm hw0 hj H0 HR HP
      generalize l[m] = e at *
      obtain ⟨eh, px, py⟩ := e
      generalize (l.drop (m + 1)).map (·.2.1) = keys at *
      generalize Bw.lasts (l.drop (m + 1)) = xs at *
      generalize l.length - (m + 1) = kn at *
      dsimp only at d0 d1 d2 HLA HKEYS HLK CQ hcl HPP HKS hks HC HU HV
      generalize hct : List.count px keys = ct at *
      have HCT := Lib.hid hct
      have HCL := Lib.hid hcl
      have hw1 : wrap64 ((ct : Int) + 1) = (ct : Int) + 1 := by unfold wrap64; omega
      clear hks hkn hct hcl hlt hbl
      by_cases hz : ct = 0
      · have he : ((ct : Int) + 1 == 1) = true := by rw [beq_iff_eq]; omega
        have HZ := Lib.hid hz
        clear hz
        go_wp2_with (at_mapUpdate; refine wp_seen (b := w.heap.size) (n := kn) (l := keys) (s := px) _ rfl _ _ _ rfl rfl HS.out HKN.out HKS.out rfl (by rw [HCT.out]; show Value.int .i64 (wrap64 ((ct : Int) + 1)) = _; rw [hw1]; rfl) (by rw [HCT.out]; exact HCL.out) ?_; intro w1 hS1 hg1; have hlk1 := hS1.look HKS.out; rw [List.count_cons_self, HCT.out] at hlk1; have hB1 : Below w.heap.size w w1 := HB.out.grown hg1 HB.out.size (fun k e => by cases e; exact Nat.le_refl _); obtain ⟨x0, x1, x2⟩ := HC.out w1 hB1; have HS1 := Lib.hid hS1; have HB1 := Lib.hid hB1; have HG1 := Lib.hid hg1; have HOWN1 := Lib.hid (HOWN.out.move (ok' := fun k => w.heap.size < k) goodEntO (fun k hk hl => ⟨hk, hg1.block k hl (fun e => by cases e; exact Nat.lt_irrefl _ hk)⟩)); clear hS1 hB1 hg1)
        have CO := Lib.hid (fun W (hW : Below w1.heap.size w1 W) (hh : W.heap[w1.heap.size]? = some (.cells #[.slice U1 px.length cu1, .slice U2 py.length cu2] 31)) => own1O_any HPP.out.1 HPP.out.2
          ((HU.out.move (ok' := ok) goodByte (Moves.below (HB1.out.trans (hW.mono HB1.out.size)))).move (ok' := AllB) goodByte (Moves.weaken fun _ _ _ => trivial)) ((HV.out.move (ok' := ok) goodByte (Moves.below (HB1.out.trans (hW.mono HB1.out.size)))).move (ok' := AllB) goodByte (Moves.weaken fun _ _ _ => trivial)) hh)
        have hs1 : w.heap.size < w1.heap.size := HS1.out.lt
        have hbl3 : b < w1.heap.size := Nat.lt_of_lt_of_le hbl2 HG1.out.size
        have hh1 : ((w1.alloc (.cells #[.slice U1 px.length cu1, .slice U2 py.length cu2] 31)).drew).heap[w1.heap.size]? = some (.cells #[.slice U1 px.length cu1, .slice U2 py.length cu2] 31) := heap_alloc_new w1 _
        have hq1 : Below w1.heap.size w1 ((w1.alloc (.cells #[.slice U1 px.length cu1, .slice U2 py.length cu2] 31)).drew) := by (repeat (first | exact Below.refl _ _ | with_reducible assumption | refine Below.drew ?_ | refine b_drewN ?_ _ | (refine Below.alloc ?_ (by first | omega | (simp <;> omega)) _)))
        go_region_law
          ((first
            | (go_simp; go_at_call 65; (with_reducible refine (CO.out _ hq1 hh1).mono ?_); rintro e w2 ⟨q2, rfl, ⟨g2, cp2, Y1, e1, Y2, e2, rfl, n0, n1, b1, b2, hy1, hy2⟩, hb2⟩; have hw2 : Below w1.heap.size w1 w2 := Below.trans hq1 (hb2.mono (by simp)); obtain ⟨y0, y1, y2⟩ := HC.out w2 (HB1.out.trans (hw2.mono HB1.out.size)))
            | (go_loud (refine st_app1 goodEntO rfl (.tmp 30) (.tmp 46) 54 rfl (w.heap.size + 1) 83 i0 _ 56 Tryz.underlying54 HI.out HZ0.out HZ1.out HZ2.out rfl (by decide) u4 xs.reverse rfl (HOWN1.out.move goodEntO (Moves.below hw2)) (eh, (px, py)) #[.int .u64 (eh : Nat), .slice Y1 px.length e1, .slice Y2 py.length e2] 83 (by go_simp) (entO_mk (hy1.move goodByte (HOWN1.out.aside (n := w1.heap.size + 1) (Nat.le_succ _) (fun k hk => by omega) (Below.refl _ _))) (hy2.move goodByte (HOWN1.out.aside (n := w1.heap.size + 1) (Nat.le_succ _) (fun k hk => by omega) (Below.refl _ _)))) (fun k hk => by have := hw2.size; omega) (by have := HLEN.out; omega) (by decide) (by have := hw2.size; omega) ?_; intro v3 w3 hown3 hb3 hat3 hg3))
            | (trace_state; fail "x")))
        all_goals go_wp2
        all_goals exact ⟨⟨m, Nat.le_of_lt HLT.out, by rw [hsubI], by rw [HSUB.out, HKEYS.out]; exact (HS1.out.below hw2).kept hg3 (fun e => by have := (HOWN1.out.lt _ e.symm).1; omega), by rw [HLA.out, if_pos HZ.out, List.reverse_cons]; exact hown3, (HB1.out.trans (hw2.mono HB1.out.size)).trans (hb3.mono (Nat.le_succ _))⟩, by rw [hsubI]; exact HMES.out⟩
      · have he : ((ct : Int) + 1 == 1) = false := by rw [beq_eq_false_iff_ne]; omega
        have HZ := Lib.hid hz
        clear hz
        go_wp2_with (at_mapUpdate; refine wp_seen (b := w.heap.size) (n := kn) (l := keys) (s := px) _ rfl _ _ _ rfl rfl HS.out HKN.out HKS.out rfl (by rw [HCT.out]; show Value.int .i64 (wrap64 ((ct : Int) + 1)) = _; rw [hw1]; rfl) (by rw [HCT.out]; exact HCL.out) ?_; intro w1 hS1 hg1; have hlk1 := hS1.look HKS.out; rw [List.count_cons_self, HCT.out] at hlk1; have hB1 : Below w.heap.size w w1 := HB.out.grown hg1 HB.out.size (fun k e => by cases e; exact Nat.le_refl _); obtain ⟨x0, x1, x2⟩ := HC.out w1 hB1; have HS1 := Lib.hid hS1; have HB1 := Lib.hid hB1; have HG1 := Lib.hid hg1; have HOWN1 := Lib.hid (HOWN.out.move (ok' := fun k => w.heap.size < k) goodEntO (fun k hk hl => ⟨hk, hg1.block k hl (fun e => by cases e; exact Nat.lt_irrefl _ hk)⟩)); clear hS1 hB1 hg1)
        exact ⟨⟨m, Nat.le_of_lt HLT.out, by rw [hsubI], by rw [HSUB.out, HKEYS.out]; exact HS1.out, by rw [HLA.out, if_neg HZ.out]; exact HOWN1.out, HB1.out⟩, by rw [hsubI]; exact HMES.out⟩

theorem lcome_any {ok : Nat → Prop} {l : List Bw.En} {v : Value} {w : World} (hl : l.length ≤ 1048576) (hp : ∀ e ∈ l, e.2.1.length ≤ 1048576 ∧ e.2.2.length ≤ 1048576) (hr : EntsAt ok w v l) :
    Calls Tryz.prog 32 #[v] w (Gives w fun q w' => OwnAt 83 3 entK (fun k => w.heap.size ≤ k) w' w.heap.size q (Bw.lasts l)) :=
  (lcomeO_any hl hp hr).mono fun _ _ ⟨q, he, hown, hb⟩ => ⟨q, he, hown.kind fun _ _ _ _ => entO_plain, hb⟩
end Go.Proofs.YtehkjnmnbplcoaaGreatDoor

namespace Go.Proofs.YtehkjnmnbplcoaaGreatDoor
open Go.RowKit Go.Bw

def OutRel (l : List Bw.En) (w : World) (v i : Value) (wr : World) : Prop :=
  ∃ (k : Nat) (xs : List Bw.En), k ≤ l.length ∧ i = .int .i64 k ∧ OwnAt 66 3 senK AllB wr w.heap.size v xs ∧ xs ++ Bw.lasts (l.drop k) = Bw.lasts l ∧ Below w.heap.size w wr
def InRel (keys : List Bw.Bytes) (key : Bw.Bytes) (i : Nat) (w0 : World) (v j : Value) (wr : World) : Prop :=
  ∃ d n : Nat, d ≤ keys.length ∧ j = .int .i64 ((i + 1 + d : Nat) : Int) ∧ v = .bool (decide ((keys.take d).count key = 0)) ∧ wr = w0.drewN n

set_option maxRecDepth 100000 in
set_option maxHeartbeats 1000000 in
theorem rcomeE_any {ok : Nat → Prop} {l : List Bw.En} {v : Value} {w : World} (hl : l.length ≤ 1048576) (hr : SensAt ok w v l) :
    Calls Tryz.prog 17 #[v] w (Gives w fun q w' => SensAt AllB w' q (Bw.lasts l)) := by
  obtain ⟨A, c, rfl⟩ := hr.form
  obtain ⟨i0, hi, hz0, hz1, hz2⟩ := info_parts infoE
  have H0 : Hid (OutRel l w (.slice none 0 0) (.int .i64 0) w) := Lib.hid ⟨0, [], Nat.zero_le _, rfl, OwnAt.nil, rfl, Below.refl _ _⟩
  have HR := Lib.hid hr; have HL := Lib.hid hl
  have HI := Lib.hid hi; have HZ0 := Lib.hid hz0; have HZ1 := Lib.hid hz1; have HZ2 := Lib.hid hz2
  clear hr hl hi hz0 hz1 hz2
  go_enter Tryz.func17, Tryz.ntmps17
  go_wp2_with fail
  go_loopw [3, 4] (OutRel l w) (fun _ i _ => l.length - (intOf i).toNat)
  case atStart => exact H0.out
  case round =>
    obtain ⟨k, xs, hk, rfl, hown, hxs, hB⟩ := hrel
    by_cases hlt : k < l.length
    · obtain ⟨b, o, rfl, hob, c0, c1, c2⟩ := sen_get HR.out (List.getElem?_eq_getElem hlt)
      have hbl := World.block_lt_of_cell? w _ c0
      dsimp only at hbl
      have d0 := (hB.cell (p := ⟨b, o + k * 3, none⟩) hbl).trans c0
      have d1 := (hB.cell (p := ⟨b, o + k * 3 + 1, none⟩) hbl).trans c1
      have d2 := (hB.cell (p := ⟨b, o + k * 3 + 2, none⟩) hbl).trans c2
      have hbl2 : b < wr.heap.size := Nat.lt_of_lt_of_le hbl hB.size
      have h0 : (0 : Int) ≤ (k : Int) := by omega
      have h1 : (k : Int) < (l.length : Int) := by omega
      have hdr : l.drop k = l[k] :: l.drop (k + 1) := List.drop_eq_getElem_cons hlt
      have hla : xs ++ (if ((l.drop (k + 1)).map (·.2.1)).count (l[k]).2.1 = 0 then l[k] :: Bw.lasts (l.drop (k + 1)) else Bw.lasts (l.drop (k + 1))) = Bw.lasts l := by rw [← hxs, hdr, Bw.lasts]
      have hkd : ∀ d, d < ((l.drop (k + 1)).map (·.2.1)).length → ∃ e : Bw.En, l[k + 1 + d]? = some e ∧ ((l.drop (k + 1)).map (·.2.1))[d]? = some e.2.1 := by
        intro d hd
        rw [List.length_map, List.length_drop] at hd
        refine ⟨l[k + 1 + d]'(by omega), List.getElem?_eq_getElem (by omega), ?_⟩
        rw [List.getElem?_map, List.getElem?_drop, List.getElem?_eq_getElem (by omega)]
        rfl
      have hkl : ((l.drop (k + 1)).map (·.2.1)).length + (k + 1) = l.length := by rw [List.length_map, List.length_drop]; omega
      have hxl : xs.length ≤ 1048576 := by
        have h1 := lasts_len l
        rw [← hxs, List.length_append] at h1
        have := HL.out; omega
      have hw1 : wrap64 ((k : Int) + 1) = (k : Int) + 1 := by unfold wrap64; have := HL.out; omega
      have HLA := Lib.hid hla; have HKD := Lib.hid hkd; have HKL := Lib.hid hkl; have HXL := Lib.hid hxl; have HOWN := Lib.hid hown; have HB := Lib.hid hB; have HLT := Lib.hid hlt
      clear hdr hla hkd hkl hxl c0 c1 c2 hown hxs H0
      generalize l[k] = e at *
      obtain ⟨eh, ex, ey⟩ := e
      generalize (l.drop (k + 1)).map (·.2.1) = keys at *
      simp only [str] at d0 d1 d2
      have HI0 : Hid (InRel keys ex k wr (.bool true) (.int .i64 ((k : Int) + 1)) wr) := Lib.hid ⟨0, 0, Nat.zero_le _, by simp, by simp, rfl⟩
      go_wp2_with fail
      go_loopw [5, 6] (InRel keys ex k wr) (fun _ i _ => l.length - (intOf i).toNat)
      case atStart => exact HI0.out
      case round =>
        obtain ⟨d, n, hd, rfl, rfl, rfl⟩ := hrel
        by_cases hdl : d < keys.length
        · obtain ⟨e2, he2, hk2⟩ := HKD.out d hdl
          obtain ⟨b2, o2, e3, hob2, p0, p1, p2⟩ := sen_get HR.out he2
          cases e3
          have z1 := (HB.out.cell (p := ⟨b, o + (k + 1 + d) * 3 + 1, none⟩) hbl).trans p1
          have hkl := HKL.out
          have hst : (keys.take (d + 1)).count ex = (keys.take d).count ex + [e2.2.1].count ex := by rw [List.take_add_one, hk2, List.count_append]; rfl
          obtain ⟨jj, hjj⟩ : ∃ jj, jj = k + 1 + d := ⟨_, rfl⟩
          have hjs : k + 1 + (d + 1) = jj + 1 := by omega
          rw [← hjj] at z1 ⊢
          have g0 : (0 : Int) ≤ (jj : Int) := by omega
          have g1 : (jj : Int) < (l.length : Int) := by omega
          have hwd : wrap64 ((jj : Int) + 1) = ((k + 1 + (d + 1) : Nat) : Int) := by rw [hjs]; unfold wrap64; have := HL.out; omega
          have HWD := Lib.hid hwd
          have HME : Hid (l.length - (k + 1 + (d + 1)) < l.length - jj) := Lib.hid (by omega)
          obtain ⟨eh2, kx, ky⟩ := e2
          simp only [str] at z1
          have HST := Lib.hid hst; have HDL := Lib.hid hdl
          clear p0 p1 p2 he2 hk2 hkl hst hwd hdl hd hjs hjj HI0 hw1
          by_cases hz : (keys.take d).count ex = 0
          · rw [decide_eq_true hz]
            have HZ := Lib.hid hz
            clear hz
            by_cases hx : kx = ex
            · subst hx
              go_wp2_with fail
              go_quiet (fail)
              go_wp2
              exact ⟨⟨d + 1, _, HDL.out, by rw [HWD.out], by rw [HST.out]; simp, rfl⟩, by rw [HWD.out]; exact HME.out⟩
            · have hxb : (kx == ex) = false := beq_eq_false_iff_ne.2 hx
              have HX := Lib.hid hx
              clear hx
              go_wp2_with fail
              go_quiet (fail)
              go_wp2
              exact ⟨⟨d + 1, _, HDL.out, by rw [HWD.out], by rw [HST.out, HZ.out]; simp [HX.out], rfl⟩, by rw [HWD.out]; exact HME.out⟩
          · rw [decide_eq_false hz]
            have HZ := Lib.hid hz
            clear hz
            go_wp2_with fail
            go_quiet (fail)
            go_wp2
            exact ⟨⟨d + 1, _, HDL.out, by rw [HWD.out], by rw [HST.out]; have := HZ.out; simp; omega, rfl⟩, by rw [HWD.out]; exact HME.out⟩
        · have hkl := HKL.out
          obtain rfl : d = keys.length := by omega
          have hle : k + 1 + keys.length = l.length := by omega
          rw [hle, List.take_length]
          clear hdl hd hkl hle HI0
          by_cases hz : keys.count ex = 0
          · rw [decide_eq_true hz]
            have HZ := Lib.hid hz
            clear hz
            go_wp2_with (at_builtin; refine wp_app1 goodSen rfl (.tmp 38) (.tmp 43) 41 rfl w.heap.size 66 i0 _ 40 Tryz.underlying41 HI.out HZ0.out HZ1.out HZ2.out rfl (by decide) _ xs rfl (HOWN.out.move goodSen (Moves.drewN _ _)) (eh, (ex, ey)) #[.int .u64 (eh : Nat), .string ⟨ex.toArray⟩, .string ⟨ey.toArray⟩] 66 (by go_simp) senK_mk (fun _ _ => trivial) (by have := HXL.out; omega) (by decide) HB.out.size ?_; intro v8 w8 hown8 hb8 hat8 hg8)
            have hla := HLA.out
            rw [if_pos HZ.out] at hla
            exact ⟨⟨k + 1, xs ++ [(eh, (ex, ey))], HLT.out, by (first | exact int_succ HLT.out HL.out | rw [hw1]; rfl), hown8, by rw [List.append_assoc]; exact hla, (b_drewN HB.out _).trans hb8⟩, by (first | exact less_succ HLT.out HL.out | (rw [hw1]; simp only [intOf]; have := HLT.out; omega))⟩
          · rw [decide_eq_false hz]
            have HZ := Lib.hid hz
            clear hz
            go_wp2
            have hla := HLA.out
            rw [if_neg HZ.out] at hla
            exact ⟨⟨k + 1, xs, HLT.out, by (first | exact int_succ HLT.out HL.out | rw [hw1]; rfl), HOWN.out.move goodSen (Moves.drewN _ _), hla, b_drewN HB.out _⟩, by (first | exact less_succ HLT.out HL.out | (rw [hw1]; simp only [intOf]; have := HLT.out; omega))⟩
    · obtain rfl : k = l.length := by omega
      have HXS : Hid (xs = Bw.lasts l) := Lib.hid (by rw [← hxs, List.drop_length]; simp [Bw.lasts])
      have HOWN := Lib.hid hown; have HB := Lib.hid hB
      clear hlt hown hxs hB
      go_wp2
      go_ret
      exact ⟨_, rfl, by rw [← HXS.out]; exact HOWN.out.row goodSen, HB.out⟩
end Go.Proofs.YtehkjnmnbplcoaaGreatDoor

namespace Go.Proofs.YtehkjnmnbplcoaaGreatDoor
open Go.RowKit Go.Bw

def entOk (e : Bw.En) : Bool := decide (e.2.1.length ≤ 60) && decide (e.2.2.length ≤ 60)
def smallE (l : List Bw.En) (most : Nat) : Bool := decide (l.length ≤ most) && l.all entOk

def SmERel (l : List Bw.En) (w : World) (i : Value) (wr : World) : Prop :=
  ∃ k : Nat, k ≤ l.length ∧ i = .int .i64 k ∧ (l.take k).all entOk = true ∧ Below w.heap.size w wr

set_option maxRecDepth 100000 in
set_option maxHeartbeats 400000 in
theorem small17_any {ok : Nat → Prop} {l : List Bw.En} {v : Value} {w : World} (most : Nat) (hmost : most ≤ 1048576) (hr : EntsAt ok w v l) :
    Calls Tryz.prog 15 #[v, .int .i64 (most : Nat)] w fun e w' => e = .returned (.bool (smallE l most)) ∧ Below w.heap.size w w' := by
  obtain ⟨A, c, rfl⟩ := hr.form
  by_cases hl : l.length ≤ most
  · have hg : ¬ ((most : Int) < (l.length : Int)) := by omega
    have HL : Hid (l.length ≤ 1048576) := Lib.hid (by omega)
    have HM := Lib.hid hl
    have HR := Lib.hid hr
    have H0 : Hid (SmERel l w (.int .i64 0) w) := Lib.hid ⟨0, Nat.zero_le _, rfl, rfl, Below.refl _ _⟩
    clear hl hr hmost
    go_enter Tryz.func15, Tryz.ntmps15
    go_wp2_with fail
    go_loopw [13] (SmERel l w) (fun i _ => l.length - (intOf i).toNat)
    case atStart => exact H0.out
    case round =>
      obtain ⟨k, hk, rfl, hall, hB⟩ := hrel
      by_cases hlt : k < l.length
      · obtain ⟨b, o, u1, u2, rfl, hob, c0, c1, c2, hu, hv⟩ := ent_get HR.out (List.getElem?_eq_getElem hlt)
        obtain ⟨U1, cu1, rfl⟩ := hu.form
        obtain ⟨U2, cu2, rfl⟩ := hv.form
        have hbl := World.block_lt_of_cell? w _ c0
        dsimp only at hbl
        have d0 := (hB.cell (p := ⟨b, o + k * 3, none⟩) hbl).trans c0
        have d1 := (hB.cell (p := ⟨b, o + k * 3 + 1, none⟩) hbl).trans c1
        have d2 := (hB.cell (p := ⟨b, o + k * 3 + 2, none⟩) hbl).trans c2
        have hbl2 : b < wr.heap.size := Nat.lt_of_lt_of_le hbl hB.size
        have h0 : (0 : Int) ≤ (k : Int) := by omega
        have h1 : (k : Int) < (l.length : Int) := by omega
        have hs : l.take (k + 1) = l.take k ++ [l[k]] := take_succ_snoc hlt
        have hmem : l[k] ∈ l := List.getElem_mem hlt
        generalize l[k] = q at *
        obtain ⟨qh, qx, qy⟩ := q
        have hB2 : Below w.heap.size w (wr.alloc (.cells #[.int .u64 (qh : Nat), .slice U1 qx.length cu1, .slice U2 qy.length cu2] 83)) := hB.trans (Below.mono (by (repeat (first | exact Below.refl _ _ | with_reducible assumption | refine Below.drew ?_ | refine b_drewN ?_ _ | (refine Below.alloc ?_ (by simp) _) | (refine Below.alloc ?_ (by simp; omega) _)))) hB.size)
        have HB := Lib.hid hB2
        have HALL := Lib.hid hall
        have HS := Lib.hid hs
        clear hu hv c0 c1 c2 hs hall hB hB2
        dsimp only at *
        by_cases hx : qx.length ≤ 60
        · have hx1 : ¬ (60 : Int) < (qx.length : Int) := by omega
          by_cases hy : qy.length ≤ 60
          · have hy1 : ¬ (60 : Int) < (qy.length : Int) := by omega
            have hq : entOk (qh, qx, qy) = true := by simp [entOk, hx, hy]
            have HA2 : Hid ((l.take (k + 1)).all entOk = true) := Lib.hid (by rw [HS.out, List.all_append, HALL.out]; simp [hq])
            clear hx hy hq
            go_wp2
            exact ⟨⟨k + 1, hlt, int_succ hlt HL.out, HA2.out, HB.out⟩, less_succ hlt HL.out⟩
          · have hy1 : (60 : Int) < (qy.length : Int) := by omega
            have hf : Hid (smallE l most = false) := Lib.hid (by
              unfold smallE
              rw [Bool.and_eq_false_iff]; right
              rw [List.all_eq_false]
              exact ⟨_, hmem, by simp [entOk, hy]⟩)
            clear hx hy hmem
            go_wp2
            go_ret
            exact ⟨by rw [hf.out]; rfl, HB.out⟩
        · have hx1 : (60 : Int) < (qx.length : Int) := by omega
          have hf : Hid (smallE l most = false) := Lib.hid (by
            unfold smallE
            rw [Bool.and_eq_false_iff]; right
            rw [List.all_eq_false]
            exact ⟨_, hmem, by simp [entOk, hx]⟩)
          clear hx hmem
          go_wp2
          go_ret
          exact ⟨by rw [hf.out]; rfl, HB.out⟩
      · obtain rfl : k = l.length := by omega
        rw [List.take_length] at hall
        have hf : Hid (smallE l most = true) := Lib.hid (by simp only [smallE, hall, HM.out]; simp)
        clear hlt hall
        go_wp2
        go_ret
        exact ⟨by rw [hf.out]; rfl, hB⟩
  · have hg : (most : Int) < (l.length : Int) := by omega
    have hf : Hid (smallE l most = false) := Lib.hid (by simp [smallE, hl])
    clear hl hr hmost
    go_enter Tryz.func15, Tryz.ntmps15
    go_wp2
    go_ret
    exact ⟨by rw [hf.out]; rfl, Below.refl _ _⟩

def RefRel (l : List Bw.En) (w : World) (v i : Value) (wr : World) : Prop :=
  ∃ k : Nat, k ≤ l.length ∧ i = .int .i64 k ∧ OwnAt 66 3 senK AllB wr w.heap.size v (l.take k) ∧ Below w.heap.size w wr

set_option maxRecDepth 100000 in
set_option maxHeartbeats 400000 in
theorem ref17_any {ok : Nat → Prop} {l : List Bw.En} {v : Value} {w : World} (hl : l.length ≤ 1048576) (hr : EntsAt ok w v l) :
    Calls Tryz.prog 18 #[v] w (Gives w fun q w' => SensAt AllB w' q l) := by
  obtain ⟨A, c, rfl⟩ := hr.form
  obtain ⟨i0, hi, hz0, hz1, hz2⟩ := info_parts infoE
  have H0 : Hid (RefRel l w (.slice none 0 0) (.int .i64 0) w) := Lib.hid ⟨0, Nat.zero_le _, rfl, OwnAt.nil, Below.refl _ _⟩
  have HR := Lib.hid hr; have HL := Lib.hid hl
  have HI := Lib.hid hi; have HZ0 := Lib.hid hz0; have HZ1 := Lib.hid hz1; have HZ2 := Lib.hid hz2
  clear hr hl hi hz0 hz1 hz2
  go_enter Tryz.func18, Tryz.ntmps18
  go_wp2_with fail
  go_loopw [3, 8] (RefRel l w) (fun _ i _ => l.length - (intOf i).toNat)
  case atStart => exact H0.out
  case round =>
    obtain ⟨k, hk, rfl, hown, hB⟩ := hrel
    by_cases hlt : k < l.length
    · obtain ⟨b, o, u1, u2, rfl, hob, c0, c1, c2, hu, hv⟩ := ent_get HR.out (List.getElem?_eq_getElem hlt)
      obtain ⟨U1, cu1, rfl⟩ := hu.form
      obtain ⟨U2, cu2, rfl⟩ := hv.form
      have hbl := World.block_lt_of_cell? w _ c0
      dsimp only at hbl
      have d0 := (hB.cell (p := ⟨b, o + k * 3, none⟩) hbl).trans c0
      have d1 := (hB.cell (p := ⟨b, o + k * 3 + 1, none⟩) hbl).trans c1
      have d2 := (hB.cell (p := ⟨b, o + k * 3 + 2, none⟩) hbl).trans c2
      have hbl2 : b < wr.heap.size := Nat.lt_of_lt_of_le hbl hB.size
      have h0 : (0 : Int) ≤ (k : Int) := by omega
      have h1 : (k : Int) < (l.length : Int) := by omega
      have hs : l.take (k + 1) = l.take k ++ [l[k]] := take_succ_snoc hlt
      have hln : (l.take k).length ≤ 1048576 := by rw [List.length_take]; have := HL.out; omega
      generalize l[k] = q at *
      obtain ⟨qh, qx, qy⟩ := q
      obtain ⟨WX, hWX⟩ : ∃ WX, wr.alloc (.cells #[.int .u64 (qh : Nat), .slice U1 qx.length cu1, .slice U2 qy.length cu2] 83) = WX := ⟨_, rfl⟩
      have hwx : Below wr.heap.size wr WX := by rw [← hWX]; (repeat (first | exact Below.refl _ _ | with_reducible assumption | refine Below.drew ?_ | refine b_drewN ?_ _ | (refine Below.alloc ?_ (by first | omega | (simp <;> omega)) _)))
      have m0 : WX.cell? ⟨wr.heap.size, 0, none⟩ = some (.int .u64 (qh : Nat)) := by subst hWX; go_simp
      have m1 : WX.cell? ⟨wr.heap.size, 1, none⟩ = some (.slice U1 qx.length cu1) := by subst hWX; go_simp
      have m2 : WX.cell? ⟨wr.heap.size, 2, none⟩ = some (.slice U2 qy.length cu2) := by subst hWX; go_simp
      have q1 := run_conv (P := Tryz.prog) 29 9 5 Tryz.underlying29 Tryz.underlying5 Tryz.underlying9 (hu.move (ok' := ok) goodByte (Moves.below (hB.trans (hwx.mono hB.size))))
      have q2 := run_conv (P := Tryz.prog) 29 9 5 Tryz.underlying29 Tryz.underlying5 Tryz.underlying9 (hv.move (ok' := ok) goodByte (Moves.below (hB.trans (hwx.mono hB.size))))
      have HOWN := Lib.hid (hown.move (ok' := AllB) goodSen (Moves.below hwx))
      have HB := Lib.hid (hB.trans (hwx.mono hB.size))
      have HS := Lib.hid hs; have HLN := Lib.hid hln; have HLT := Lib.hid hlt; have HWX := Lib.hid hWX
      dsimp only at q1 q2
      have q0 : (convert 29 9 (.slice U1 qx.length cu1)).run Tryz.prog (wr.alloc (.cells #[.int .u64 (qh : Nat), .slice U1 qx.length cu1, .slice U2 qy.length cu2] 83)) = .ok (.string ⟨qx.toArray⟩) WX := by rw [HWX.out]; exact q1
      clear q1
      clear hu hv c0 c1 c2 hs hln hown hB hwx hWX H0
      generalize l.take k = xs at *
      go_wp2_with (at_builtin; refine wp_app1 goodSen rfl (.tmp 12) (.tmp 25) 41 rfl w.heap.size 66 i0 _ 40 Tryz.underlying41 HI.out HZ0.out HZ1.out HZ2.out rfl (by decide) _ xs rfl HOWN.out (qh, (qx, qy)) #[.int .u64 (qh : Nat), .string ⟨qx.toArray⟩, .string ⟨qy.toArray⟩] 66 (by go_simp) senK_mk (fun _ _ => trivial) (by have := HLN.out; omega) (by decide) HB.out.size ?_; intro v8 w8 hown8 hb8 hat8 hg8)
      exact ⟨⟨k + 1, HLT.out, int_succ HLT.out HL.out, by rw [HS.out]; exact hown8, HB.out.trans hb8⟩, less_succ HLT.out HL.out⟩
    · obtain rfl : k = l.length := by omega
      rw [List.take_length] at hown
      have HOWN := Lib.hid hown; have HB := Lib.hid hB
      clear hlt hown hB
      go_wp2
      go_ret
      exact ⟨_, rfl, HOWN.out.row goodSen, HB.out⟩
end Go.Proofs.YtehkjnmnbplcoaaGreatDoor
