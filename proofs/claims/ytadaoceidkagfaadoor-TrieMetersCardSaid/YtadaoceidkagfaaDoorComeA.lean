
import Derived.Test.YtadaoceidkagfaaDoorBwAll
import Derived.Test.YtadaoceidkagfaaDoorRef19
import Derived.Shelf.SlicesQ.Reverse
import Derived.Shelf.SlSortCmp.WholeK
import Derived.Maps.Own
import Derived.Maps.OwnOps
import Derived.Maps.Views
import Derived.Test.YtadaoceidkagfaaDoorLSameA
import Derived.Deep.RegionLaw
import Derived.Deep.QuietTactic
import Derived.BigQuiet
namespace Go.Proofs.YtadaoceidkagfaaDoor
open Go.RowKit Go.Bw Go.Shelf Go.Lib Go.Sort Go.Proofs

/-! ### an entry of a layout: a hash, and a pair of bytes -/
abbrev entK : Knd Bw.En := prK natK64 pairK
theorem goodEnt : _root_.Go.Bw.Good 3 entK := goodNat64.pr goodPair
abbrev EntsAt := RowAt 3 entK
theorem entK_open {ok : Nat → Prop} {w : World} {e : Bw.En} {cs : List Value} (h : entK ok w e cs) : ∃ u v, cs = [.int .u64 (e.1 : Nat), u, v] ∧ BytesAt ok w u e.2.1 ∧ BytesAt ok w v e.2.2 := by
  obtain ⟨a, b, rfl, rfl, h2⟩ := h
  obtain ⟨u, v, rfl, hu, hv⟩ := pairK_open h2
  exact ⟨u, v, rfl, hu, hv⟩
theorem entK_mk {ok : Nat → Prop} {w : World} {e : Bw.En} {u v : Value} (hu : BytesAt ok w u e.2.1) (hv : BytesAt ok w v e.2.2) : entK ok w e [.int .u64 (e.1 : Nat), u, v] :=
  ⟨[.int .u64 (e.1 : Nat)], [u, v], rfl, rfl, pairK_mk hu hv⟩
theorem ent_get {ok : Nat → Prop} {w : World} {A : Option Addr} {n c j : Nat} {xs : List Bw.En} {e : Bw.En} (h : EntsAt ok w (.slice A n c) xs) (hj : xs[j]? = some e) :
    ∃ b o u v, A = some ⟨b, o, none⟩ ∧ ok b ∧ w.cell? ⟨b, o + j * 3, none⟩ = some (.int .u64 (e.1 : Nat)) ∧ w.cell? ⟨b, o + j * 3 + 1, none⟩ = some u ∧ w.cell? ⟨b, o + j * 3 + 2, none⟩ = some v ∧ BytesAt ok w u e.2.1 ∧ BytesAt ok w v e.2.2 := by
  obtain ⟨b, o, cs, rfl, hx, hc⟩ := h.get hj
  obtain ⟨u, v, rfl, hu, hv⟩ := entK_open hx
  exact ⟨b, o, u, v, rfl, (hc 0 _ rfl).1, (hc 0 _ rfl).2, (hc 1 _ rfl).2, (hc 2 _ rfl).2, hu, hv⟩

/-! ### slices.Reverse over a row of the call's own -/
structure Ge {α : Type} (d : Knd α) (ok : Nat → Prop) (w : World) where
  x : α
  cs : List Value
  h : d ok w x cs

theorem ges_of_reps {α : Type} {d : Knd α} {sz : Nat} {ok : Nat → Prop} {w : World} {xs : List α} {inner : List Value} (h : Reps (d ok w) sz xs inner) :
    ∃ ds : List (Ge d ok w), ds.map Ge.x = xs ∧ ∀ j x, ds[j]? = some x → (inner.drop (j * sz)).take sz = x.cs := by
  have key : ∀ j : Fin xs.length, ∃ y : Ge d ok w, y.x = xs[j] ∧ (inner.drop (j * sz)).take sz = y.cs := by
    intro j
    have hc := h.2 j xs[j] (List.getElem?_eq_getElem j.isLt)
    exact ⟨⟨xs[j], _, hc⟩, rfl, rfl⟩
  refine ⟨List.ofFn fun j => Classical.choose (key j), ?_, fun j x hj => ?_⟩
  · apply List.ext_getElem
    · simp
    · intro i h1 h2
      simp only [List.getElem_map, List.getElem_ofFn]
      exact (Classical.choose_spec (key ⟨i, h2⟩)).1
  · have hl : j < xs.length := by
      have := (List.getElem?_eq_some_iff.1 hj).1
      simpa using this
    obtain ⟨_, hx⟩ := List.getElem?_eq_some_iff.1 hj
    simp only [List.getElem_ofFn] at hx
    rw [← hx]
    exact (Classical.choose_spec (key ⟨j, hl⟩)).2

theorem holds_ges {α : Type} {d : Knd α} {sz : Nat} (hd0 : _root_.Go.Bw.Good sz d) (hsz : 0 < sz) {ok : Nat → Prop} {w w0 : World} [Inhabited (Ge d ok w0)] {base e g n cap : Nat} {inner : List Value} {ds : List (Ge d ok w0)}
    (ho : w.ownsRow base e sz (.slice (some ⟨g, 0, none⟩) n cap) ds.length inner) (hd : ∀ j x, ds[j]? = some x → (inner.drop (j * sz)).take sz = x.cs) : HoldsK Ge.cs sz w g 0 ds.toArray := by
  intro t ht
  rw [size_flatK] at ht
  simp only [List.size_toArray] at ht
  have hj : t / sz < ds.length := Nat.div_lt_of_lt_mul (by rw [Nat.mul_comm]; exact ht)
  have hx := hd (t / sz) ds[t / sz] (List.getElem?_eq_getElem hj)
  have h2 : t % sz < sz := Nat.mod_lt _ hsz
  have htd : t / sz * sz + t % sz = t := by rw [Nat.mul_comm]; exact Nat.div_add_mod t sz
  have hl : t % sz < (ds[t / sz].cs).length := by rw [hd0.len ds[t / sz].h]; exact h2
  have hcell := World.ownsRow.cells ho (g := g) rfl t ((ds[t / sz].cs)[t % sz]!) (by
    have : ((inner.drop (t / sz * sz)).take sz)[t % sz]? = inner[t]? := by
      rw [List.getElem?_take, if_pos h2, List.getElem?_drop, htd]
    rw [← this, hx, List.getElem?_eq_getElem hl]
    simp [hl])
  rw [add_none] at hcell
  refine ⟨?_, ?_⟩
  · rw [get_flatK _ _ _ _ (by simpa using ht)]
    have hg : ds.toArray[t / sz]! = ds[t / sz] := by simp [hj]
    rw [hg]
    exact hcell
  · rcases ho.2 with ⟨h, _⟩ | ⟨g', cap', cur, he, _, hh, _⟩
    · cases h
    · cases he
      simp [World.frozen?, hh]

theorem own_of_put {α : Type} {d : Knd α} {sz : Nat} (hd0 : _root_.Go.Bw.Good sz d) (hsz : 0 < sz) {ok : Nat → Prop} {w : World} {base e g n cap m : Nat} {xs : List α} [Inhabited (Ge d (fun k => ok k ∧ some k ≠ some g) w)]
    (hown : OwnAt e sz d ok w base (.slice (some ⟨g, 0, none⟩) n cap) xs)
    {ds : Array (Ge d (fun k => ok k ∧ some k ≠ some g) w)} (hs : ds.size = xs.length) :
    OwnAt e sz d ok (putRowK Ge.cs sz (Sort.ahead w m) g 0 ds) base (.slice (some ⟨g, 0, none⟩) n cap) (ds.toList.map Ge.x) ∧ w.grownBy (putRowK Ge.cs sz (Sort.ahead w m) g 0 ds) (some g) := by
  obtain ⟨hok, inner, ho, hr⟩ := hown
  have hlt := (ho.lt g rfl).2
  have hgr : w.grownBy (putRowK Ge.cs sz (Sort.ahead w m) g 0 ds) (some g) := by
    refine ⟨rfl, rfl, rfl, ?_, fun k hk hne => ?_⟩
    · simp [putRowK, putRow, mapBlock]
    · have hkg : g ≠ k := fun e => hne (by rw [e])
      show ((w.heap.modify g _)[k]?) = _
      rw [Array.getElem?_modify, if_neg hkg]
  rcases ho.2 with ⟨h, _⟩ | ⟨g', cap', cur, he, hbg, hh, hnc, hcm, hcs, ht⟩
  · cases h
  · cases he
    refine ⟨⟨hok, (flatK Ge.cs sz ds).toList, ⟨?_, .inr ⟨g, cap, putCells id 0 (flatK Ge.cs sz ds) cur, ?_, hbg, ?_, ?_, hcm, ?_, ?_⟩⟩, ?_, ?_⟩, hgr⟩
    · simp
    · simp [hs]
    · show ((w.heap.modify g (onCells (putCells id 0 (flatK Ge.cs sz ds))))[g]?) = _
      rw [Array.getElem?_modify, if_pos rfl, hh]
      rfl
    · simp [hs]; exact hnc
    · simp [putCells, hcs]
    · have hsf : (flatK Ge.cs sz ds).size = ds.size * sz := size_flatK _ _ _
      have hle : ds.size * sz ≤ cur.size := by rw [hcs, hs]; exact Nat.mul_le_mul_right _ hnc
      apply List.ext_getElem
      · simp [putCells]; omega
      · intro i h1 h2
        have hi : i < ds.size * sz := by simpa using h2
        simp only [List.getElem_take, Array.getElem_toList, putCells, Array.getElem_mapIdx, Nat.zero_add, Nat.sub_zero]
        rw [if_pos ⟨Nat.zero_le _, by rw [hsf]; exact hi⟩]
        simp [hi]
    · simp
    · intro j x hj
      rw [List.getElem?_map, Option.map_eq_some_iff] at hj
      obtain ⟨y, hy, rfl⟩ := hj
      obtain ⟨hjl, hy'⟩ := List.getElem?_eq_some_iff.1 hy
      have hjd : j < ds.size := by simpa using hjl
      have hyl : y.cs.length = sz := hd0.len y.h
      have hms : (j + 1) * sz ≤ ds.size * sz := Nat.mul_le_mul_right _ hjd
      rw [Nat.add_mul, Nat.one_mul] at hms
      have hc : ((flatK Ge.cs sz ds).toList.drop (j * sz)).take sz = y.cs := by
        apply List.ext_getElem
        · simp [hyl]; omega
        · intro i h1 h2
          have hi2 : i < sz := by rw [hyl] at h2; exact h2
          have ht : j * sz + i < ds.size * sz := by omega
          simp only [List.getElem_take, List.getElem_drop, Array.getElem_toList]
          have e1 : (flatK Ge.cs sz ds)[j * sz + i]'(by rw [size_flatK]; exact ht) = (flatK Ge.cs sz ds)[j * sz + i]! := by simp [ht]
          rw [e1, get_flatK _ _ _ _ ht]
          have e2 : (j * sz + i) / sz = j := by rw [Nat.mul_comm, Nat.mul_add_div hsz, Nat.div_eq_of_lt hi2, Nat.add_zero]
          have e3 : (j * sz + i) % sz = i := by rw [Nat.mul_comm, Nat.mul_add_mod, Nat.mod_eq_of_lt hi2]
          have e4 : ds[j]! = y := by rw [← hy']; simp [hjd]
          rw [e2, e3, e4]
          simp [h2]
      rw [hc]
      have mv : Moves (fun k => ok k ∧ some k ≠ some g) (fun k => ok k ∧ some k ≠ (Value.slice (some ⟨g, 0, none⟩) xs.length cap).ownBlock) w (putRowK Ge.cs sz (Sort.ahead w m) g 0 ds) :=
        fun k hk hl => ⟨hk, hgr.block k hl hk.2⟩
      exact hd0.move mv y.h

abbrev entO : Knd Bw.En := prK natK64 pairO
theorem goodEntO : _root_.Go.Bw.Good 3 entO := goodNat64.pr goodPairO
theorem entO_mk {ok : Nat → Prop} {w : World} {e : Bw.En} {u v : Value} {b b' : Nat} (hu : OwnAt 5 1 byteK ok w b u e.2.1) (hv : OwnAt 5 1 byteK ok w b' v e.2.2) : entO ok w e [.int .u64 (e.1 : Nat), u, v] :=
  ⟨[.int .u64 (e.1 : Nat)], [u, v], rfl, rfl, pairO_mk hu hv⟩
theorem entO_open {ok : Nat → Prop} {w : World} {e : Bw.En} {cs : List Value} (h : entO ok w e cs) : ∃ u v b b', cs = [.int .u64 (e.1 : Nat), u, v] ∧ OwnAt 5 1 byteK ok w b u e.2.1 ∧ OwnAt 5 1 byteK ok w b' v e.2.2 := by
  obtain ⟨a, b, rfl, rfl, h2⟩ := h
  obtain ⟨u, v, b, b', rfl, hu, hv⟩ := pairO_open h2
  exact ⟨u, v, b, b', rfl, hu, hv⟩
theorem entO_plain {ok : Nat → Prop} {w : World} {e : Bw.En} {cs : List Value} (h : entO ok w e cs) : entK ok w e cs := by
  obtain ⟨u, v, b, b', rfl, hu, hv⟩ := entO_open h
  exact entK_mk (hu.row goodByte) (hv.row goodByte)
instance (ok : Nat → Prop) (w : World) : Inhabited (Ge entO ok w) := ⟨⟨(0, [], []), _, entO_mk (e := (0, [], [])) (b := 0) (b' := 0) OwnAt.nil OwnAt.nil⟩⟩
end Go.Proofs.YtadaoceidkagfaaDoor

namespace Go.Proofs.YtadaoceidkagfaaDoor
open Go.RowKit Go.Bw Go.Maps

theorem zeroInt (w : World) : (zeroValue 3).run Tryd.prog w = .ok (.int .i64 0) w := by kernel_rfl
theorem keyedStr : Keyed Tryd.prog 9 := string_keyed Tryd.underlying9
theorem keyStr {s : Bw.Bytes} (hs : s.length ≤ maxLen) : keyOf Tryd.prog 9 (.string ⟨s.toArray⟩) = some (.string s) := Go.WideMaps.keyOf_string_mk Tryd.underlying9 hs

/-- a map of the call's own that counts keys -/
def SeenAt (w : World) (b n : Nat) (l : List Bw.Bytes) : Prop :=
  ∃ D : DataW Unit, w.ownsMap Tryd.prog 9 (plainElem Tryd.prog 3) b n D ∧ IsMap D ∧ ∀ s : Bw.Bytes, D.atKey (.string s) (.lit (.int .i64 0)) = .lit (.int .i64 (l.count s : Nat))

theorem SeenAt.made (w : World) : SeenAt (w.alloc (.map #[] 0)) w.heap.size 0 [] :=
  ⟨.map [], World.ownsMap_made _ _ _ _, isMap_empty, fun s => by simp [DataW.atKey]⟩

theorem SeenAt.kept {w w' : World} {b n : Nat} {l : List Bw.Bytes} {row : Option Nat} (h : SeenAt w b n l) (hg : w.grownBy w' row) (hne : some b ≠ row) : SeenAt w' b n l := by
  obtain ⟨D, h1, h2, h3⟩ := h
  exact ⟨D, h1.kept hg hne, h2, h3⟩

theorem SeenAt.lt {w : World} {b n : Nat} {l : List Bw.Bytes} (h : SeenAt w b n l) : b < w.heap.size := by
  obtain ⟨D, h1, _, _⟩ := h
  exact h1.lt

end Go.Proofs.YtadaoceidkagfaaDoor

namespace Go.Proofs.YtadaoceidkagfaaDoor
open Go.RowKit Go.Bw

/-- those whose keys stand in none behind them -/
def _root_.Bw.lasts : List Bw.En → List Bw.En
  | [] => []
  | e :: r => if (r.map (·.2.1)).count e.2.1 = 0 then e :: Bw.lasts r else Bw.lasts r

theorem lasts_len (l : List Bw.En) : (Bw.lasts l).length ≤ l.length := by
  induction l with
  | nil => simp [Bw.lasts]
  | cons e r ih => simp only [Bw.lasts]; split <;> simp <;> omega

theorem own1O_any {px py : Bw.Bytes} {u v : Value} {W : World} {n : Nat} (hpx : px.length ≤ 1048576) (hpy : py.length ≤ 1048576) (hu : BytesAt AllB W u px) (hv : BytesAt AllB W v py) (hh : W.heap[n]? = some (.cells #[u, v] 47)) :
    Calls Tryd.prog 48 #[.slice (some ⟨n, 0, none⟩) 1 1] W (Gives W fun q w' => ∃ g cap U cu V cv, q = .slice (some ⟨g, 0, none⟩) 1 cap ∧ w'.cell? ⟨g, 0, none⟩ = some (.slice U px.length cu) ∧ w'.cell? ⟨g, 1, none⟩ = some (.slice V py.length cv) ∧
      ∃ p p', OwnAt 5 1 byteK (fun k => n + 1 ≤ k) w' p (.slice U px.length cu) px ∧ OwnAt 5 1 byteK (fun k => n + 1 ≤ k) w' p' (.slice V py.length cv) py) := by
  have hn : n < W.heap.size := (Array.getElem?_eq_some_iff.1 hh).1
  refine (pownO_any (l := [(px, py)]) (by simp) (fun p hp => by rw [List.mem_singleton] at hp; subst hp; exact ⟨hpx, hpy⟩) (RowAt.single (ok := AllB) goodPair (cs := #[u, v]) (pairK_mk hu hv) trivial hh)).mono ?_
  rintro e w' ⟨q, rfl, ⟨g, cap, rfl, hown⟩, hb⟩
  obtain ⟨b, o, cs, e1, hx, hc⟩ := (hown.row goodPairO).get (j := 0) rfl
  obtain ⟨u1, u2, p, p', rfl, h1, h2⟩ := pairO_open hx
  cases e1
  have c0 := (hc 0 _ rfl).2; have c1 := (hc 1 _ rfl).2
  obtain ⟨U, cu, rfl⟩ := (h1.row goodByte).form
  obtain ⟨V, cv, rfl⟩ := (h2.row goodByte).form
  exact ⟨_, rfl, ⟨g, cap, U, cu, V, cv, rfl, c0, c1, p, p', h1.move goodByte (Moves.weaken fun k hk _ => Nat.lt_of_lt_of_le hn hk), h2.move goodByte (Moves.weaken fun k hk _ => Nat.lt_of_lt_of_le hn hk)⟩, hb⟩

theorem SeenAt.below {w w' : World} {b n : Nat} {l : List Bw.Bytes} (h : SeenAt w b n l) (hw : Below w.heap.size w w') : SeenAt w' b n l :=
  h.kept (row := none) ⟨hw.os, hw.tape, hw.output, hw.size, fun k hk _ => hw.block k hk⟩ (by simp)

end Go.Proofs.YtadaoceidkagfaaDoor

namespace Go.Proofs.YtadaoceidkagfaaDoor
open Go.RowKit Go.Bw

def InRel (keys : List Bw.Bytes) (key : Bw.Bytes) (i : Nat) (w0 : World) (v j : Value) (wr : World) : Prop :=
  ∃ d n : Nat, d ≤ keys.length ∧ j = .int .i64 ((i + 1 + d : Nat) : Int) ∧ v = .bool (decide ((keys.take d).count key = 0)) ∧ wr = w0.drewN n

end Go.Proofs.YtadaoceidkagfaaDoor

namespace Go.Proofs.YtadaoceidkagfaaDoor
open Go.RowKit Go.Bw

def entOk (e : Bw.En) : Bool := decide (e.2.1.length ≤ 60) && decide (e.2.2.length ≤ 60)
def smallE (l : List Bw.En) (most : Nat) : Bool := decide (l.length ≤ most) && l.all entOk

def SmERel (l : List Bw.En) (w : World) (i : Value) (wr : World) : Prop :=
  ∃ k : Nat, k ≤ l.length ∧ i = .int .i64 k ∧ (l.take k).all entOk = true ∧ Below w.heap.size w wr

end Go.Proofs.YtadaoceidkagfaaDoor
