
import Derived.Test.YtadaoceidkagfaaGreatDoorGA
import Derived.Test.YtadaoceidkagfaaGreatDoorCutA
import Derived.Test.YtadaoceidkagfaaGreatDoorSipA
import Derived.Deep.MidRow
import Derived.Deep.WholeRow
import Derived.Test.YtadaoceidkagfaaGreatDoorFind
import Derived.Deep.RegionHeld3
/- A map's pairs under their keys' hashes, whatever the hash is; what a put, a delete and a look cost. -/
namespace Go.Proofs.YtadaoceidkagfaaGreatDoor
open Go.RowKit Go.Bw
def _root_.Bw.ents (F : Bw.Bytes -> Nat) (m : List Bw.PV) : List Bw.En := m.map fun p => (F p.1, p)
theorem _root_.Bw.length_ents (F : Bw.Bytes -> Nat) (m : List Bw.PV) : (Bw.ents F m).length = m.length := List.length_map _
theorem _root_.Bw.mem_ents {F : Bw.Bytes -> Nat} {m : List Bw.PV} {e : Bw.En} : e ∈ Bw.ents F m ↔ e.2 ∈ m /\ e.1 = F e.2.1 := by
  unfold Bw.ents
  rw [List.mem_map]
  constructor
  · rintro ⟨p, hp, rfl⟩; exact ⟨hp, rfl⟩
  · rintro ⟨h1, h2⟩; exact ⟨e.2, h1, by rw [<- h2]⟩
theorem _root_.Bw.unlike_ents {F : Bw.Bytes -> Nat} {m : List Bw.PV} (h : Bw.Rises m) : Bw.Unlike (Bw.ents F m) := by
  unfold Bw.Unlike Bw.ents
  exact List.pairwise_map.2 (List.Pairwise.imp (fun {a b} hab e => by dsimp only at e; rw [e] at hab; exact Bw.lt_irrefl _ hab) h)
theorem _root_.Bw.ents_put {F : Bw.Bytes -> Nat} {m : List Bw.PV} {p : Bw.PV} (hm : Bw.Rises m) (e : Bw.En) : e ∈ Bw.ents F (Bw.put m p) ↔ Bw.PutS (fun e => e ∈ Bw.ents F m) (F p.1) p e := by
  unfold Bw.PutS
  rw [Bw.mem_ents, Bw.mem_put_iff hm]
  dsimp only
  rw [Bw.mem_ents]
  constructor
  · rintro ⟨h | ⟨h1, h2⟩, h3⟩
    · exact .inl (Prod.ext (by rw [h3, h]) h)
    · exact .inr ⟨⟨h1, h3⟩, h2⟩
  · rintro (rfl | ⟨⟨h1, h3⟩, h2⟩)
    · exact ⟨.inl rfl, rfl⟩
    · exact ⟨.inr ⟨h1, h2⟩, h3⟩
theorem _root_.Bw.ents_without {F : Bw.Bytes -> Nat} {m : List Bw.PV} {k : Bw.Bytes} (e : Bw.En) : e ∈ Bw.ents F (Bw.without m k) ↔ Bw.CutS (fun e => e ∈ Bw.ents F m) k e := by
  unfold Bw.CutS
  rw [Bw.mem_ents, Bw.mem_without]
  show (e.2 ∈ m /\ e.2.1 ≠ k) /\ e.1 = F e.2.1 ↔ e ∈ Bw.ents F m /\ e.2.1 ≠ k
  rw [Bw.mem_ents]
  constructor
  · rintro ⟨⟨h1, h2⟩, h3⟩; exact ⟨⟨h1, h3⟩, h2⟩
  · rintro ⟨⟨h1, h3⟩, h2⟩; exact ⟨⟨h1, h2⟩, h3⟩
theorem fresh_ents {F : Bw.Bytes -> Nat} {m : List Bw.PV} {k : Bw.Bytes} {fr : Bool} (h : fr = true ↔ ∀ e ∈ Bw.ents F m, e.2.1 ≠ k) : fr = !(Bw.get m k).isSome := by
  have hg := Bw.get_isSome (m := m) (k := k)
  cases ho : (Bw.get m k).isSome with
  | true =>
    rw [ho] at hg
    obtain ⟨x, hx, he⟩ := hg.1 rfl
    cases fr with
    | false => rfl
    | true => exact absurd he (h.1 rfl (F x.1, x) (Bw.mem_ents.2 ⟨hx, rfl⟩))
  | false =>
    rw [ho] at hg
    refine (h.2 fun e he hk => ?_).trans rfl
    have := hg.2 ⟨e.2, (Bw.mem_ents.1 he).1, hk⟩
    cases this
theorem MapOk.ents {F : Bw.Bytes -> Nat} {m : List Bw.PV} (h : MapOk m) : ∀ e ∈ Bw.ents F m, e.2.1.length <= 1048576 /\ e.2.2.length <= 1048576 := fun e he => h.bytes e.2 (Bw.mem_ents.1 he).1
theorem ents_hash {F : Bw.Bytes -> Nat} {m : List Bw.PV} (hF : ∀ k, F k < 18446744073709551616) : ∀ e ∈ Bw.ents F m, e.1 < 18446744073709551616 := fun _ he => (Bw.mem_ents.1 he).2 ▸ hF _
theorem ents_lay {F : Bw.Bytes -> Nat} {m : List Bw.PV} (hF : ∀ k, F k < 18446744073709551616) (hm : MapOk m) : LayOk 0 13 (Bw.ents F m) where
  lv := rfl
  len := by rw [Bw.length_ents]; exact Nat.le_trans hm.len (by decide)
  bytes := hm.ents
  unlike := Bw.unlike_ents hm.rises
  res := ⟨0, fun e _ => by rw [Nat.pow_zero, Nat.mod_one]⟩
  hash := ents_hash hF
theorem ents_fit {F : Bw.Bytes -> Nat} {m : List Bw.PV} {o : Option Bw.N} (hm : MapOk m) (h : Bw.OLays 0 o (Bw.ents F m)) : ∀ n, o = some n -> n.fit := by
  rintro n rfl
  exact Bw.lays_fit h _ (Bw.unlike_ents hm.rises) (fun _ => Iff.rfl) hm.ents (by rw [Bw.length_ents]; exact Nat.le_trans hm.len (by decide))
theorem ents_many {F : Bw.Bytes -> Nat} {m : List Bw.PV} {o : Option Bw.N} (hm : MapOk m) (h : Bw.OLays 0 o (Bw.ents F m)) : manyO o = m.length := by
  rw [<- Bw.length_ents F m]
  cases o with
  | none => rw [show Bw.ents F m = [] from h]; rfl
  | some n => exact Bw.lays_count h _ (Bw.unlike_ents hm.rises) fun _ => Iff.rfl
theorem ents_low {F : Bw.Bytes -> Nat} {m : List Bw.PV} {o : Option Bw.N} (hm : MapOk m) (h : Bw.OLays 0 o (Bw.ents F m)) {L : Nat} (hL : (m.length + 1) ^ 6 < 2 ^ L) : ∀ n, o = some n -> n.low L := by
  rintro n rfl
  exact lays_low h hL (Nat.le_of_eq (ents_many (o := some n) hm h))
theorem MapOk.without {m : List Bw.PV} (h : MapOk m) (k : Bw.Bytes) : MapOk (Bw.without m k) :=
  ⟨Bw.rises_without h.rises k, Nat.le_trans (List.length_filter_le _ _) h.len, fun p hp => h.bytes p (Bw.mem_without.1 hp).1⟩
theorem look_ents {F : Bw.Bytes -> Nat} {m : List Bw.PV} {o : Option Bw.N} (hF : ∀ k, F k < 18446744073709551616) (hm : MapOk m) (h : Bw.OLays 0 o (Bw.ents F m)) (k : Bw.Bytes) : Bw.lookEnd (Bw.wayO 13 o (F k) 0).1 (F k) k = Bw.get m k := by
  have hl : ∀ v, Bw.lookEnd (Bw.wayO 13 o (F k) 0).1 (F k) k = some v ↔ (k, v) ∈ m := fun v =>
    (Bw.look_lays 13 0 o _ rfl h ⟨0, fun _ _ => by rw [Nat.pow_zero, Nat.mod_one]⟩ (ents_hash hF)).trans ⟨fun x => (Bw.mem_ents.1 x).1, fun x => Bw.mem_ents.2 ⟨x, rfl⟩⟩
  have hg : ∀ v, Bw.get m k = some v ↔ (k, v) ∈ m := fun v => Bw.get_mem hm.rises
  cases hx : Bw.lookEnd (Bw.wayO 13 o (F k) 0).1 (F k) k with
  | some v => exact ((hg v).2 ((hl v).1 hx)).symm
  | none =>
    cases hy : Bw.get m k with
    | none => rfl
    | some v =>
      have := (hl v).2 ((hg v).1 hy)
      rw [hx] at this
      cases this
theorem get_without {F : Bw.Bytes -> Nat} {m : List Bw.PV} {k : Bw.Bytes} (h : ∀ e ∈ Bw.ents F m, e.2.1 ≠ k) : (Bw.get m k).isSome = false := by
  cases ho : (Bw.get m k).isSome with
  | false => rfl
  | true =>
    obtain ⟨x, hx, he⟩ := Bw.get_isSome.1 ho
    exact absurd he (h (F x.1, x) (Bw.mem_ents.2 ⟨hx, rfl⟩))
theorem steps_le (k : Bw.Bytes) : ∀ t : Bw.T, t.steps k <= t.hi
  | .nil => Nat.le_refl _
  | .node l q r => by
    have il := steps_le k l
    have ir := steps_le k r
    show (if Lib.compareBytes k q.1 = 0 then 1 else if Lib.compareBytes k q.1 = 1 then r.steps k + 1 else l.steps k + 1) <= 1 + max l.hi r.hi
    split
    · omega
    · split <;> omega
theorem putCost_le {h : Nat} {k : Bw.Bytes} {L : Nat} (h1 : 1 <= L) : ∀ (f level : Nat) (o : Option Bw.N), (∀ n, o = some n -> n.low L) -> (Bw.costO f o h k level).1 <= f + L /\ (Bw.costO f o h k level).2 <= (Bw.costO f o h k level).1
  | f, level, none, _ => by rw [Bw.costO_none]; exact ⟨Nat.zero_le _, Nat.le_refl _⟩
  | f, level, some (.leaf g q), _ => by
    rw [Bw.costO_leaf]
    refine ⟨Nat.le_trans h1 (Nat.le_add_left _ _), ?_⟩
    show (if g = h then 1 else 0) <= 1
    split <;> decide
  | f, level, some (.bucket g t), hn => by
    rw [Bw.costO_bucket]
    have hl : t.hi <= L := hn _ rfl
    have hd := steps_le k t
    split
    · exact ⟨Nat.le_trans hd (Nat.le_trans hl (Nat.le_add_left _ _)), Nat.le_refl _⟩
    · exact ⟨Nat.zero_le _, Nat.le_refl _⟩
  | 0, level, some (.branch m kids), _ => ⟨Nat.zero_le _, Nat.le_refl _⟩
  | f + 1, level, some (.branch m kids), hn => by
    have hb : (Bw.N.branch m kids).low L := hn _ rfl
    simp only [Bw.N.low, Bw.N.lowL_iff] at hb
    have ih := putCost_le (h := h) (k := k) h1 f (level + 1) (Bw.kidO m kids (Bw.chunkAt h level)) fun n e => by
      unfold Bw.kidO at e
      split at e
      · exact hb n (List.mem_of_getElem? e)
      · cases e
    simp only [Bw.costO]
    omega
end Go.Proofs.YtadaoceidkagfaaGreatDoor
/- A result that lies in a variable of many cells, read as one; loads and stores of such a variable as one. -/
namespace Go.Proofs.YtadaoceidkagfaaGreatDoor
open Go.RowKit Go.Bw
theorem results_row {P : Program} {fn : Func} {i : Tmp} {t : TypeId} {W : World} {b : Nat} {cs : List Value} {d : TypeDesc} (h : fn.results = #[.cell i t]) (tmps : Array Value) (hx : tmps.getD i undef = .pointer (some ⟨b, 0, none⟩)) (hc : W.rangeAt b 0 cs) (hu : P.underlying t = some d) (hd : d.isRow = true) (hi : (P.info? t).map (·.size) = some cs.length) :
    (results fn tmps).run P W = .ok (.agg cs.toArray) W := by
  have hl := run_loadVar_mid (P := P) W b 0 t cs d hc hu hd hi
  have hx' : tmps[i]?.getD undef = .pointer (some ⟨b, 0, none⟩) := by simpa using hx
  simp [results, h, hx', hl, asAddr]
theorem results_row2 {P : Program} {fn : Func} {i j : Tmp} {t : TypeId} {W : World} {b : Nat} {cs : List Value} {d : TypeDesc} (h : fn.results = #[.cell i t, .tmp j]) (tmps : Array Value) (hx : tmps.getD i undef = .pointer (some ⟨b, 0, none⟩)) (hc : W.rangeAt b 0 cs) (hu : P.underlying t = some d) (hd : d.isRow = true) (hi : (P.info? t).map (·.size) = some cs.length) :
    (results fn tmps).run P W = .ok (.tuple #[.agg cs.toArray, tmps.getD j undef]) W := by
  have hl := run_loadVar_mid (P := P) W b 0 t cs d hc hu hd hi
  have hx' : tmps[i]?.getD undef = .pointer (some ⟨b, 0, none⟩) := by simpa using hx
  simp [results, h, hx', hl, asAddr]
theorem results_row3 {P : Program} {fn : Func} {i j k : Tmp} {t : TypeId} {W : World} {b : Nat} {cs : List Value} {d : TypeDesc} (h : fn.results = #[.cell i t, .tmp j, .tmp k]) (tmps : Array Value) (hx : tmps.getD i undef = .pointer (some ⟨b, 0, none⟩)) (hc : W.rangeAt b 0 cs) (hu : P.underlying t = some d) (hd : d.isRow = true) (hi : (P.info? t).map (·.size) = some cs.length) :
    (results fn tmps).run P W = .ok (.tuple #[.agg cs.toArray, tmps.getD j undef, tmps.getD k undef]) W := by
  have hl := run_loadVar_mid (P := P) W b 0 t cs d hc hu hd hi
  have hx' : tmps[i]?.getD undef = .pointer (some ⟨b, 0, none⟩) := by simpa using hx
  simp [results, h, hx', hl, asAddr]
theorem cut_ents {F : Bw.Bytes -> Nat} {m : List Bw.PV} {o : Option Bw.N} (hF : ∀ k, F k < 18446744073709551616) (hL : Bw.OLays 0 o (Bw.ents F m)) (k : Bw.Bytes) :
    (Bw.cutO 13 o (F k) k 0 = none -> (Bw.get m k).isSome = false /\ Bw.without m k = m) /\ ∀ o', Bw.cutO 13 o (F k) k 0 = some o' -> (Bw.get m k).isSome = true /\ Bw.OLays 0 o' (Bw.ents F (Bw.without m k)) := by
  cases o with
  | none =>
    rw [Bw.cutO_none]
    have hm0 : m = [] := by
      have h1 : Bw.ents F m = [] := hL
      cases m with
      | nil => rfl
      | cons x r => simp [Bw.ents] at h1
    subst hm0
    exact ⟨fun _ => ⟨rfl, rfl⟩, fun o' h => by cases h⟩
  | some n =>
    have hl : Bw.Lays 0 n fun e => e ∈ Bw.ents F m := hL
    obtain ⟨h1, h2⟩ := Bw.cut_lays (h := F k) (k := k) 13 0 n _ rfl hl ⟨0, fun _ _ => by rw [Nat.pow_zero, Nat.mod_one]⟩ (ents_hash hF) (fun e he hk => by rw [(Bw.mem_ents.1 he).2, hk])
    refine ⟨fun hc => ?_, fun o' ho => ?_⟩
    · have hx := h1 hc
      exact ⟨get_without hx, Bw.without_none fun x hxm => hx (F x.1, x) (Bw.mem_ents.2 ⟨hxm, rfl⟩)⟩
    · obtain ⟨⟨e, he, hek⟩, hlo⟩ := h2 o' ho
      refine ⟨Bw.get_isSome.2 ⟨e.2, (Bw.mem_ents.1 he).1, hek⟩, ?_⟩
      cases o' with
      | none =>
        show Bw.ents F (Bw.without m k) = []
        exact List.eq_nil_iff_forall_not_mem.2 fun x hx => hlo x (Bw.ents_without x |>.1 hx)
      | some n' => exact (show Bw.Lays 0 n' _ from hlo).congr fun e => (Bw.ents_without e).symm
end Go.Proofs.YtadaoceidkagfaaGreatDoor
/- trie.New, Len, Seed, Get. -/
namespace Go.Proofs.YtadaoceidkagfaaGreatDoor
open Go.RowKit Go.Bw
def trieV (s : List UInt8) (nv : Value) : Value := .agg (s.map encB ++ [nv]).toArray
abbrev Tri (W : World) (B : Nat) (a0 a1 a2 a3 a4 a5 a6 a7 a8 a9 aA aB aC aD aE aF : UInt8) (nv : Value) : Prop := W.cell? ⟨B, 0, none⟩ = some (.int .u8 (a0.toNat : Nat)) /\ W.cell? ⟨B, 1, none⟩ = some (.int .u8 (a1.toNat : Nat)) /\ W.cell? ⟨B, 2, none⟩ = some (.int .u8 (a2.toNat : Nat)) /\ W.cell? ⟨B, 3, none⟩ = some (.int .u8 (a3.toNat : Nat)) /\ W.cell? ⟨B, 4, none⟩ = some (.int .u8 (a4.toNat : Nat)) /\ W.cell? ⟨B, 5, none⟩ = some (.int .u8 (a5.toNat : Nat)) /\ W.cell? ⟨B, 6, none⟩ = some (.int .u8 (a6.toNat : Nat)) /\ W.cell? ⟨B, 7, none⟩ = some (.int .u8 (a7.toNat : Nat)) /\ W.cell? ⟨B, 8, none⟩ = some (.int .u8 (a8.toNat : Nat)) /\ W.cell? ⟨B, 9, none⟩ = some (.int .u8 (a9.toNat : Nat)) /\ W.cell? ⟨B, 10, none⟩ = some (.int .u8 (aA.toNat : Nat)) /\ W.cell? ⟨B, 11, none⟩ = some (.int .u8 (aB.toNat : Nat)) /\ W.cell? ⟨B, 12, none⟩ = some (.int .u8 (aC.toNat : Nat)) /\ W.cell? ⟨B, 13, none⟩ = some (.int .u8 (aD.toNat : Nat)) /\ W.cell? ⟨B, 14, none⟩ = some (.int .u8 (aE.toNat : Nat)) /\ W.cell? ⟨B, 15, none⟩ = some (.int .u8 (aF.toNat : Nat)) /\ W.cell? ⟨B, 16, none⟩ = some (nv)
theorem fr0 {W : World} {b i : Nat} {cs : Array Value} {t : TypeId} (h : W.heap[b]? = some (.cells cs t (0, 0))) : W.frozen? ⟨b, i, none⟩ = false := by simp [World.frozen?, h]
theorem tri_of {W : World} {B : Nat} {a0 a1 a2 a3 a4 a5 a6 a7 a8 a9 aA aB aC aD aE aF : UInt8} {nv : Value} {t : TypeId} (h : W.heap[B]? = some (.cells #[.int .u8 (a0.toNat : Nat), .int .u8 (a1.toNat : Nat), .int .u8 (a2.toNat : Nat), .int .u8 (a3.toNat : Nat), .int .u8 (a4.toNat : Nat), .int .u8 (a5.toNat : Nat), .int .u8 (a6.toNat : Nat), .int .u8 (a7.toNat : Nat), .int .u8 (a8.toNat : Nat), .int .u8 (a9.toNat : Nat), .int .u8 (aA.toNat : Nat), .int .u8 (aB.toNat : Nat), .int .u8 (aC.toNat : Nat), .int .u8 (aD.toNat : Nat), .int .u8 (aE.toNat : Nat), .int .u8 (aF.toNat : Nat), nv] t (0, 0))) : Tri W B a0 a1 a2 a3 a4 a5 a6 a7 a8 a9 aA aB aC aD aE aF nv :=
  ⟨(cell_of_row W B 0 _ t (0, 0) h).trans rfl, (cell_of_row W B 1 _ t (0, 0) h).trans rfl, (cell_of_row W B 2 _ t (0, 0) h).trans rfl, (cell_of_row W B 3 _ t (0, 0) h).trans rfl, (cell_of_row W B 4 _ t (0, 0) h).trans rfl, (cell_of_row W B 5 _ t (0, 0) h).trans rfl, (cell_of_row W B 6 _ t (0, 0) h).trans rfl, (cell_of_row W B 7 _ t (0, 0) h).trans rfl, (cell_of_row W B 8 _ t (0, 0) h).trans rfl, (cell_of_row W B 9 _ t (0, 0) h).trans rfl, (cell_of_row W B 10 _ t (0, 0) h).trans rfl, (cell_of_row W B 11 _ t (0, 0) h).trans rfl, (cell_of_row W B 12 _ t (0, 0) h).trans rfl, (cell_of_row W B 13 _ t (0, 0) h).trans rfl, (cell_of_row W B 14 _ t (0, 0) h).trans rfl, (cell_of_row W B 15 _ t (0, 0) h).trans rfl, (cell_of_row W B 16 _ t (0, 0) h).trans rfl⟩
theorem rng_of {W : World} {B : Nat} {a0 a1 a2 a3 a4 a5 a6 a7 a8 a9 aA aB aC aD aE aF : UInt8} {nv : Value} (h : Tri W B a0 a1 a2 a3 a4 a5 a6 a7 a8 a9 aA aB aC aD aE aF nv) : W.rangeAt B 0 [.int .u8 (a0.toNat : Nat), .int .u8 (a1.toNat : Nat), .int .u8 (a2.toNat : Nat), .int .u8 (a3.toNat : Nat), .int .u8 (a4.toNat : Nat), .int .u8 (a5.toNat : Nat), .int .u8 (a6.toNat : Nat), .int .u8 (a7.toNat : Nat), .int .u8 (a8.toNat : Nat), .int .u8 (a9.toNat : Nat), .int .u8 (aA.toNat : Nat), .int .u8 (aB.toNat : Nat), .int .u8 (aC.toNat : Nat), .int .u8 (aD.toNat : Nat), .int .u8 (aE.toNat : Nat), .int .u8 (aF.toNat : Nat)] := fun j v hv =>
  match j, hv with
  | 0, hv => h.1.trans hv
  | 1, hv => h.2.1.trans hv
  | 2, hv => h.2.2.1.trans hv
  | 3, hv => h.2.2.2.1.trans hv
  | 4, hv => h.2.2.2.2.1.trans hv
  | 5, hv => h.2.2.2.2.2.1.trans hv
  | 6, hv => h.2.2.2.2.2.2.1.trans hv
  | 7, hv => h.2.2.2.2.2.2.2.1.trans hv
  | 8, hv => h.2.2.2.2.2.2.2.2.1.trans hv
  | 9, hv => h.2.2.2.2.2.2.2.2.2.1.trans hv
  | 10, hv => h.2.2.2.2.2.2.2.2.2.2.1.trans hv
  | 11, hv => h.2.2.2.2.2.2.2.2.2.2.2.1.trans hv
  | 12, hv => h.2.2.2.2.2.2.2.2.2.2.2.2.1.trans hv
  | 13, hv => h.2.2.2.2.2.2.2.2.2.2.2.2.2.1.trans hv
  | 14, hv => h.2.2.2.2.2.2.2.2.2.2.2.2.2.2.1.trans hv
  | 15, hv => h.2.2.2.2.2.2.2.2.2.2.2.2.2.2.2.1.trans hv
  | n + 16, hv => by simp at hv
theorem seed_size : (Tryz.prog.info? 23).map (·.size) = some 16 := by kernel_rfl
theorem rng_len (a0 a1 a2 a3 a4 a5 a6 a7 a8 a9 aA aB aC aD aE aF : UInt8) : (Tryz.prog.info? 23).map (·.size) = some ([.int .u8 (a0.toNat : Nat), .int .u8 (a1.toNat : Nat), .int .u8 (a2.toNat : Nat), .int .u8 (a3.toNat : Nat), .int .u8 (a4.toNat : Nat), .int .u8 (a5.toNat : Nat), .int .u8 (a6.toNat : Nat), .int .u8 (a7.toNat : Nat), .int .u8 (a8.toNat : Nat), .int .u8 (a9.toNat : Nat), .int .u8 (aA.toNat : Nat), .int .u8 (aB.toNat : Nat), .int .u8 (aC.toNat : Nat), .int .u8 (aD.toNat : Nat), .int .u8 (aE.toNat : Nat), .int .u8 (aF.toNat : Nat)] : List Value).length := seed_size.trans (congrArg some rfl)
theorem trie_size : (Tryz.prog.info? 30).map (·.size) = some 17 := by kernel_rfl
theorem there_of {W : World} {b n : Nat} {C : Array Value} {t : TypeId} (h : W.heap[b]? = some (.cells C t (0, 0))) (hn : n = C.size) : W.there b 0 n := fun j hj => by
  rw [Nat.zero_add, cell_of_row W b j C t (0, 0) h, Array.getElem?_eq_getElem (by omega)]
  exact ⟨rfl, fr0 h⟩
theorem one17 (a0 a1 a2 a3 a4 a5 a6 a7 a8 a9 aA aB aC aD aE aF : UInt8) {nv : Value} (h : nv.oneCell' = true) : (#[.int .u8 (a0.toNat : Nat), .int .u8 (a1.toNat : Nat), .int .u8 (a2.toNat : Nat), .int .u8 (a3.toNat : Nat), .int .u8 (a4.toNat : Nat), .int .u8 (a5.toNat : Nat), .int .u8 (a6.toNat : Nat), .int .u8 (a7.toNat : Nat), .int .u8 (a8.toNat : Nat), .int .u8 (a9.toNat : Nat), .int .u8 (aA.toNat : Nat), .int .u8 (aB.toNat : Nat), .int .u8 (aC.toNat : Nat), .int .u8 (aD.toNat : Nat), .int .u8 (aE.toNat : Nat), .int .u8 (aF.toNat : Nat), nv] : Array Value).all (·.oneCell') = true :=
  all_oneCell_toArray (cs := [.int .u8 (a0.toNat : Nat), .int .u8 (a1.toNat : Nat), .int .u8 (a2.toNat : Nat), .int .u8 (a3.toNat : Nat), .int .u8 (a4.toNat : Nat), .int .u8 (a5.toNat : Nat), .int .u8 (a6.toNat : Nat), .int .u8 (a7.toNat : Nat), .int .u8 (a8.toNat : Nat), .int .u8 (a9.toNat : Nat), .int .u8 (aA.toNat : Nat), .int .u8 (aB.toNat : Nat), .int .u8 (aC.toNat : Nat), .int .u8 (aD.toNat : Nat), .int .u8 (aE.toNat : Nat), .int .u8 (aF.toNat : Nat), nv]) (by simpa [Value.oneCell'] using h)
theorem World.below_setCells {n b : Nat} {w : World} (hb : n <= b) : ∀ (vs : List Value) (o : Nat) (W : World), Below n w W -> Below n w (W.setCells b o vs)
  | [], _, _, h => h
  | v :: r, o, _, h => World.below_setCells hb r (o + 1) _ (h.setCell (p := ⟨b, o, none⟩) hb v)
theorem World.other_setCells {k b : Nat} (hk : k ≠ b) : ∀ (vs : List Value) (o : Nat) (W : World), (W.setCells b o vs).heap[k]? = W.heap[k]?
  | [], _, _ => rfl
  | v :: r, o, W => (World.other_setCells hk r (o + 1) _).trans (Below.heap_setCell W ⟨b, o, none⟩ v k hk)
theorem trie_len (a0 a1 a2 a3 a4 a5 a6 a7 a8 a9 aA aB aC aD aE aF : UInt8) (nv : Value) : (Tryz.prog.info? 30).map (·.size) = some ([.int .u8 (a0.toNat : Nat), .int .u8 (a1.toNat : Nat), .int .u8 (a2.toNat : Nat), .int .u8 (a3.toNat : Nat), .int .u8 (a4.toNat : Nat), .int .u8 (a5.toNat : Nat), .int .u8 (a6.toNat : Nat), .int .u8 (a7.toNat : Nat), .int .u8 (a8.toNat : Nat), .int .u8 (a9.toNat : Nat), .int .u8 (aA.toNat : Nat), .int .u8 (aB.toNat : Nat), .int .u8 (aC.toNat : Nat), .int .u8 (aD.toNat : Nat), .int .u8 (aE.toNat : Nat), .int .u8 (aF.toNat : Nat), nv] : List Value).length := trie_size.trans (congrArg some rfl)
theorem rng_seed {W : World} {B : Nat} {a0 a1 a2 a3 a4 a5 a6 a7 a8 a9 aA aB aC aD aE aF : UInt8} {t : TypeId} (h : W.heap[B]? = some (.cells #[.int .u8 (a0.toNat : Nat), .int .u8 (a1.toNat : Nat), .int .u8 (a2.toNat : Nat), .int .u8 (a3.toNat : Nat), .int .u8 (a4.toNat : Nat), .int .u8 (a5.toNat : Nat), .int .u8 (a6.toNat : Nat), .int .u8 (a7.toNat : Nat), .int .u8 (a8.toNat : Nat), .int .u8 (a9.toNat : Nat), .int .u8 (aA.toNat : Nat), .int .u8 (aB.toNat : Nat), .int .u8 (aC.toNat : Nat), .int .u8 (aD.toNat : Nat), .int .u8 (aE.toNat : Nat), .int .u8 (aF.toNat : Nat)] t (0, 0))) : W.rangeAt B 0 [.int .u8 (a0.toNat : Nat), .int .u8 (a1.toNat : Nat), .int .u8 (a2.toNat : Nat), .int .u8 (a3.toNat : Nat), .int .u8 (a4.toNat : Nat), .int .u8 (a5.toNat : Nat), .int .u8 (a6.toNat : Nat), .int .u8 (a7.toNat : Nat), .int .u8 (a8.toNat : Nat), .int .u8 (a9.toNat : Nat), .int .u8 (aA.toNat : Nat), .int .u8 (aB.toNat : Nat), .int .u8 (aC.toNat : Nat), .int .u8 (aD.toNat : Nat), .int .u8 (aE.toNat : Nat), .int .u8 (aF.toNat : Nat)] := fun j v hv =>
  match j, hv with
  | 0, hv => ((cell_of_row W B 0 _ t (0, 0) h).trans rfl).trans hv
  | 1, hv => ((cell_of_row W B 1 _ t (0, 0) h).trans rfl).trans hv
  | 2, hv => ((cell_of_row W B 2 _ t (0, 0) h).trans rfl).trans hv
  | 3, hv => ((cell_of_row W B 3 _ t (0, 0) h).trans rfl).trans hv
  | 4, hv => ((cell_of_row W B 4 _ t (0, 0) h).trans rfl).trans hv
  | 5, hv => ((cell_of_row W B 5 _ t (0, 0) h).trans rfl).trans hv
  | 6, hv => ((cell_of_row W B 6 _ t (0, 0) h).trans rfl).trans hv
  | 7, hv => ((cell_of_row W B 7 _ t (0, 0) h).trans rfl).trans hv
  | 8, hv => ((cell_of_row W B 8 _ t (0, 0) h).trans rfl).trans hv
  | 9, hv => ((cell_of_row W B 9 _ t (0, 0) h).trans rfl).trans hv
  | 10, hv => ((cell_of_row W B 10 _ t (0, 0) h).trans rfl).trans hv
  | 11, hv => ((cell_of_row W B 11 _ t (0, 0) h).trans rfl).trans hv
  | 12, hv => ((cell_of_row W B 12 _ t (0, 0) h).trans rfl).trans hv
  | 13, hv => ((cell_of_row W B 13 _ t (0, 0) h).trans rfl).trans hv
  | 14, hv => ((cell_of_row W B 14 _ t (0, 0) h).trans rfl).trans hv
  | 15, hv => ((cell_of_row W B 15 _ t (0, 0) h).trans rfl).trans hv
  | n + 16, hv => by simp at hv
set_option maxRecDepth 100000 in
set_option maxHeartbeats 2000000 in
theorem tnew_any {s : List UInt8} (hs : s.length = 16) (w : World) : Calls Tryz.prog 9 #[seedV s] w fun e w' => e = .returned (trieV s .nilIface) /\ Below w.heap.size w w' := by
  obtain ⟨a0, a1, a2, a3, a4, a5, a6, a7, a8, a9, aA, aB, aC, aD, aE, aF, hs16⟩ := mapE16 hs
  subst hs16
  simp only [seedV, trieV, List.map_cons, List.map_nil, List.cons_append, List.nil_append, encB]
  clear hs
  obtain ⟨W0, hW0⟩ : ∃ W0, (w.alloc (.cells #[.int .u8 (a0.toNat : Nat), .int .u8 (a1.toNat : Nat), .int .u8 (a2.toNat : Nat), .int .u8 (a3.toNat : Nat), .int .u8 (a4.toNat : Nat), .int .u8 (a5.toNat : Nat), .int .u8 (a6.toNat : Nat), .int .u8 (a7.toNat : Nat), .int .u8 (a8.toNat : Nat), .int .u8 (a9.toNat : Nat), .int .u8 (aA.toNat : Nat), .int .u8 (aB.toNat : Nat), .int .u8 (aC.toNat : Nat), .int .u8 (aD.toNat : Nat), .int .u8 (aE.toNat : Nat), .int .u8 (aF.toNat : Nat)] 23)).alloc (.cells #[.int .u8 0, .int .u8 0, .int .u8 0, .int .u8 0, .int .u8 0, .int .u8 0, .int .u8 0, .int .u8 0, .int .u8 0, .int .u8 0, .int .u8 0, .int .u8 0, .int .u8 0, .int .u8 0, .int .u8 0, .int .u8 0, .nilIface] 30) = W0 := ⟨_, rfl⟩
  have hb1 : W0.heap[w.heap.size]? = some (.cells #[.int .u8 (a0.toNat : Nat), .int .u8 (a1.toNat : Nat), .int .u8 (a2.toNat : Nat), .int .u8 (a3.toNat : Nat), .int .u8 (a4.toNat : Nat), .int .u8 (a5.toNat : Nat), .int .u8 (a6.toNat : Nat), .int .u8 (a7.toNat : Nat), .int .u8 (a8.toNat : Nat), .int .u8 (a9.toNat : Nat), .int .u8 (aA.toNat : Nat), .int .u8 (aB.toNat : Nat), .int .u8 (aC.toNat : Nat), .int .u8 (aD.toNat : Nat), .int .u8 (aE.toNat : Nat), .int .u8 (aF.toNat : Nat)] 23 (0, 0)) := by rw [<- hW0]; exact (heap_alloc_old _ _ (by simp)).trans (heap_alloc_new w _)
  have hb2 : W0.heap[w.heap.size + 1]? = some (.cells #[.int .u8 0, .int .u8 0, .int .u8 0, .int .u8 0, .int .u8 0, .int .u8 0, .int .u8 0, .int .u8 0, .int .u8 0, .int .u8 0, .int .u8 0, .int .u8 0, .int .u8 0, .int .u8 0, .int .u8 0, .int .u8 0, .nilIface] 30 (0, 0)) := by rw [<- hW0]; have := heap_alloc_new (w.alloc (.cells #[.int .u8 (a0.toNat : Nat), .int .u8 (a1.toNat : Nat), .int .u8 (a2.toNat : Nat), .int .u8 (a3.toNat : Nat), .int .u8 (a4.toNat : Nat), .int .u8 (a5.toNat : Nat), .int .u8 (a6.toNat : Nat), .int .u8 (a7.toNat : Nat), .int .u8 (a8.toNat : Nat), .int .u8 (a9.toNat : Nat), .int .u8 (aA.toNat : Nat), .int .u8 (aB.toNat : Nat), .int .u8 (aC.toNat : Nat), .int .u8 (aD.toNat : Nat), .int .u8 (aE.toNat : Nat), .int .u8 (aF.toNat : Nat)] 23)) (.cells #[.int .u8 0, .int .u8 0, .int .u8 0, .int .u8 0, .int .u8 0, .int .u8 0, .int .u8 0, .int .u8 0, .int .u8 0, .int .u8 0, .int .u8 0, .int .u8 0, .int .u8 0, .int .u8 0, .int .u8 0, .int .u8 0, .nilIface] 30); simpa using this
  have hB0 : Below w.heap.size w W0 := by rw [<- hW0]; exact gB3
  have HTH := Lib.hid (there_of hb2 rfl)
  have HR1 := Lib.hid (rng_seed hb1)
  obtain ⟨WS, hWS⟩ : ∃ WS, W0.setCells (w.heap.size + 1) 0 [.int .u8 (a0.toNat : Nat), .int .u8 (a1.toNat : Nat), .int .u8 (a2.toNat : Nat), .int .u8 (a3.toNat : Nat), .int .u8 (a4.toNat : Nat), .int .u8 (a5.toNat : Nat), .int .u8 (a6.toNat : Nat), .int .u8 (a7.toNat : Nat), .int .u8 (a8.toNat : Nat), .int .u8 (a9.toNat : Nat), .int .u8 (aA.toNat : Nat), .int .u8 (aB.toNat : Nat), .int .u8 (aC.toNat : Nat), .int .u8 (aD.toNat : Nat), .int .u8 (aE.toNat : Nat), .int .u8 (aF.toNat : Nat), .nilIface] = WS := ⟨_, rfl⟩
  have HBX : Hid (Below w.heap.size w WS) := Lib.hid (by rw [<- hWS]; exact World.below_setCells (Nat.le_succ _) _ _ _ hB0)
  have HTX : Hid (WS.rangeAt (w.heap.size + 1) 0 [.int .u8 (a0.toNat : Nat), .int .u8 (a1.toNat : Nat), .int .u8 (a2.toNat : Nat), .int .u8 (a3.toNat : Nat), .int .u8 (a4.toNat : Nat), .int .u8 (a5.toNat : Nat), .int .u8 (a6.toNat : Nat), .int .u8 (a7.toNat : Nat), .int .u8 (a8.toNat : Nat), .int .u8 (a9.toNat : Nat), .int .u8 (aA.toNat : Nat), .int .u8 (aB.toNat : Nat), .int .u8 (aC.toNat : Nat), .int .u8 (aD.toNat : Nat), .int .u8 (aE.toNat : Nat), .int .u8 (aF.toNat : Nat), .nilIface]) := Lib.hid (by rw [<- hWS]; exact World.rangeAt_setCells_same _ _ _ _ HTH.out)
  have HWS := Lib.hid hWS
  clear hb1 hb2 hB0 hWS
  go_enter Tryz.func9, Tryz.ntmps9
  go_wp2_with (first
    | (refine wpList_load_mid (P := Tryz.prog) rfl 23 (.tmp 1) rfl w.heap.size 0 rfl [.int .u8 (a0.toNat : Nat), .int .u8 (a1.toNat : Nat), .int .u8 (a2.toNat : Nat), .int .u8 (a3.toNat : Nat), .int .u8 (a4.toNat : Nat), .int .u8 (a5.toNat : Nat), .int .u8 (a6.toNat : Nat), .int .u8 (a7.toNat : Nat), .int .u8 (a8.toNat : Nat), .int .u8 (a9.toNat : Nat), .int .u8 (aA.toNat : Nat), .int .u8 (aB.toNat : Nat), .int .u8 (aC.toNat : Nat), .int .u8 (aD.toNat : Nat), .int .u8 (aE.toNat : Nat), .int .u8 (aF.toNat : Nat)] _ HR1.out Tryz.underlying23 rfl (rng_len a0 a1 a2 a3 a4 a5 a6 a7 a8 a9 aA aB aC aD aE aF) ?_; simp only [Act.put, List.setIfInBounds_toArray, List.set_cons_zero, List.set_cons_succ])
    | (refine wpList_store_mid (P := Tryz.prog) rfl 30 (.tmp 2) (.tmp 4) rfl (w.heap.size + 1) 0 #[.int .u8 (a0.toNat : Nat), .int .u8 (a1.toNat : Nat), .int .u8 (a2.toNat : Nat), .int .u8 (a3.toNat : Nat), .int .u8 (a4.toNat : Nat), .int .u8 (a5.toNat : Nat), .int .u8 (a6.toNat : Nat), .int .u8 (a7.toNat : Nat), .int .u8 (a8.toNat : Nat), .int .u8 (a9.toNat : Nat), .int .u8 (aA.toNat : Nat), .int .u8 (aB.toNat : Nat), .int .u8 (aC.toNat : Nat), .int .u8 (aD.toNat : Nat), .int .u8 (aE.toNat : Nat), .int .u8 (aF.toNat : Nat), .nilIface] rfl rfl HTH.out trie_size (one17 a0 a1 a2 a3 a4 a5 a6 a7 a8 a9 aA aB aC aD aE aF rfl) ?_; simp only [HWS.out, Act.put]))
  exact bodyPost_ret (results_row (cs := [.int .u8 (a0.toNat : Nat), .int .u8 (a1.toNat : Nat), .int .u8 (a2.toNat : Nat), .int .u8 (a3.toNat : Nat), .int .u8 (a4.toNat : Nat), .int .u8 (a5.toNat : Nat), .int .u8 (a6.toNat : Nat), .int .u8 (a7.toNat : Nat), .int .u8 (a8.toNat : Nat), .int .u8 (a9.toNat : Nat), .int .u8 (aA.toNat : Nat), .int .u8 (aB.toNat : Nat), .int .u8 (aC.toNat : Nat), .int .u8 (aD.toNat : Nat), .int .u8 (aE.toNat : Nat), .int .u8 (aF.toNat : Nat), .nilIface]) rfl _ rfl HTX.out Tryz.underlying30 rfl (trie_len a0 a1 a2 a3 a4 a5 a6 a7 a8 a9 aA aB aC aD aE aF _)) rfl ⟨rfl, HBX.out⟩
set_option maxRecDepth 100000 in
theorem tcm_leaf (a : Addr) (w : World) : (method 342 114 (.pointer (some a)) "Count").run Tryz.prog w = .ok (174, .pointer (some a)) w := by kernel_rfl
theorem tcm_bucket (a : Addr) (w : World) : (method 342 117 (.pointer (some a)) "Count").run Tryz.prog w = .ok (176, .pointer (some a)) w := by kernel_rfl
theorem tcm_branch (a : Addr) (w : World) : (method 342 122 (.pointer (some a)) "Count").run Tryz.prog w = .ok (178, .pointer (some a)) w := by kernel_rfl
set_option maxRecDepth 100000 in
set_option maxHeartbeats 2000000 in
theorem tlen_any {ok : Nat -> Prop} {s : List UInt8} {nv : Value} {o : Option Bw.N} {w : World} (hs : s.length = 16) (hn : ONodeAt nt ok w nv o) :
    Calls Tryz.prog 11 #[trieV s nv] w fun e w' => e = .returned (.int .i64 (manyO o : Nat)) /\ Below w.heap.size w w' := by
  obtain ⟨a0, a1, a2, a3, a4, a5, a6, a7, a8, a9, aA, aB, aC, aD, aE, aF, hs16⟩ := mapE16 hs
  subst hs16
  simp only [trieV, List.map_cons, List.map_nil, List.cons_append, List.nil_append, encB]
  clear hs
  have heq := fun W => eql_nn W
  have h1 := tcm_leaf
  have h2 := tcm_bucket
  have h3 := tcm_branch
  obtain ⟨wb, hwb⟩ : ∃ wb, w.alloc (.cells #[.int .u8 (a0.toNat : Nat), .int .u8 (a1.toNat : Nat), .int .u8 (a2.toNat : Nat), .int .u8 (a3.toNat : Nat), .int .u8 (a4.toNat : Nat), .int .u8 (a5.toNat : Nat), .int .u8 (a6.toNat : Nat), .int .u8 (a7.toNat : Nat), .int .u8 (a8.toNat : Nat), .int .u8 (a9.toNat : Nat), .int .u8 (aA.toNat : Nat), .int .u8 (aB.toNat : Nat), .int .u8 (aC.toNat : Nat), .int .u8 (aD.toNat : Nat), .int .u8 (aE.toNat : Nat), .int .u8 (aF.toNat : Nat), nv] 30) = wb := ⟨_, rfl⟩
  have hB : Below w.heap.size w wb := by rw [<- hwb]; exact gB3
  have hn2 := hn.move (Moves.below hB)
  have HWB := Lib.hid hwb
  have HB := Lib.hid hB
  have ht := tri_of (W := wb) (B := w.heap.size) (t := 30) (by rw [<- hwb]; exact heap_alloc_new w _)
  obtain ⟨c0, c1, c2, c3, c4, c5, c6, c7, c8, c9, c10, c11, c12, c13, c14, c15, c16⟩ := ht
  clear hwb hB hn
  cases o with
  | none =>
    simp only [ONodeAt] at hn2
    subst hn2
    go_enter Tryz.func11, Tryz.ntmps11
    go_wp2_with fail
    rw [HWB.out]
    go_wp2
    go_ret
    exact ⟨rfl, HB.out⟩
  | some n =>
    cases n with
    | leaf g q =>
      simp only [ONodeAt, NodeAt] at hn2
      obtain ⟨b, u1, u2, rfl, _⟩ := hn2
      go_enter Tryz.func11, Tryz.ntmps11
      go_wp2_with fail
      rw [HWB.out]
      go_wp2_with (go_at_call 174; (with_reducible refine (count_leaf _ _).mono ?_); rintro e w5 ⟨rfl, rfl⟩)
      go_ret
      exact ⟨rfl, HB.out⟩
    | bucket g t =>
      simp only [ONodeAt, NodeAt] at hn2
      obtain ⟨b, tv, rfl, _, hc1, ht1⟩ := hn2
      have CT := Lib.hid (count_bucket b wb hc1.2 ht1)
      clear hc1 ht1
      show Calls _ _ _ _ fun e w' => e = .returned (.int .i64 (t.size : Nat)) /\ Below w.heap.size w w'
      go_enter Tryz.func11, Tryz.ntmps11
      go_wp2_with fail
      rw [HWB.out]
      go_wp2_with (go_at_call 176; (with_reducible refine CT.out.mono ?_); rintro e w5 ⟨rfl, rfl⟩)
      go_ret
      exact ⟨rfl, HB.out⟩
    | branch m kids =>
      simp only [ONodeAt, NodeAt] at hn2
      obtain ⟨b, g, o, cc, rfl, _, _, hc2, _⟩ := hn2
      have CT := Lib.hid (count_branch b _ wb hc2.2)
      clear hc2
      show Calls _ _ _ _ fun e w' => e = .returned (.int .i64 (Bw.N.countL kids : Nat)) /\ Below w.heap.size w w'
      go_enter Tryz.func11, Tryz.ntmps11
      go_wp2_with fail
      rw [HWB.out]
      go_wp2_with (go_at_call 178; (with_reducible refine CT.out.mono ?_); rintro e w5 ⟨rfl, rfl⟩)
      go_ret
      exact ⟨rfl, HB.out⟩
def GetEnds (mb : Option Nat) (a : Option Bw.Bytes) (c : Nat × Nat) (w : World) (mv : Value) (e : Ending) (w' : World) : Prop :=
  ∃ u b, e = .returned (.tuple #[u, .bool b]) /\ LookFresh w w' u b a /\ MeterAt w' mv c mb /\ Turns w w' mb
def lookCost (o : Option Bw.N) (h : Nat) (k : Bw.Bytes) : Nat × Nat := ((Bw.wayO 13 o h 0).2 + (Bw.costEnd (Bw.wayO 13 o h 0).1 h k).1, (Bw.costEnd (Bw.wayO 13 o h 0).1 h k).2)
set_option maxRecDepth 100000 in
set_option maxHeartbeats 4000000 in
theorem tget_trie {ok okb : Nat -> Prop} {mb : Option Nat} {s : List UInt8} {m : List Bw.PV} {key : Bw.Bytes} {o : Option Bw.N} {nv kv mv : Value} {c : Nat × Nat} {w : World} (hs : s.length = 16) (hm : MapOk m) (hn : ONodeAt nt ok w nv o) (hL : Bw.OLays 0 o (Bw.ents (Bw.sipHash s) m)) (hk : BytesAt okb w kv key) (hkl : key.length <= 1048576)
    (hme : MeterAt w mv c mb) (hokm : ∀ k, ok k -> some k ≠ mb) (hokb : ∀ k, okb k -> some k ≠ mb) (hS : Sta w) (hc : c.1 < 1000000000 /\ c.2 < 1000000000) :
    Calls Tryz.prog 25 #[trieV s nv, kv, mv] w (GetEnds mb (Bw.get m key) (costAt c (lookCost o (Bw.sipHash s key) key)) w mv) := by
  have hla := look_ents (fun k => Bw.sipHash_lt s k) hm hL key
  have CG := Lib.hid (fun (W : World) (hW : Below w.heap.size w W) => fget_fresh (ok := ok) (ok' := okb) (c := c) (mb := mb) (h := Bw.sipHash s key) (ents_lay (fun k => Bw.sipHash_lt s k) hm) hL (hn.move (Moves.below hW)) (hk.move goodByte (Moves.below hW)) (hme.below hW) hokm hokb hc)
  rw [hla] at CG
  have CH := Lib.hid (fun (W : World) (hW : Below w.heap.size w W) => shash_any hs (hk.move goodByte (Moves.below hW)) hkl (hS.below hS.pos hW))
  have HC : Hid (costAt c (lookCost o (Bw.sipHash s key) key) = (c.1 + (Bw.wayO 13 o (Bw.sipHash s key) 0).2 + (Bw.costEnd (Bw.wayO 13 o (Bw.sipHash s key) 0).1 (Bw.sipHash s key) key).1, c.2 + (Bw.costEnd (Bw.wayO 13 o (Bw.sipHash s key) 0).1 (Bw.sipHash s key) key).2)) := Lib.hid (Prod.ext (by show c.1 + (_ + _) = _; omega) rfl)
  rw [HC.out]
  clear HC
  generalize (c.1 + (Bw.wayO 13 o (Bw.sipHash s key) 0).2 + (Bw.costEnd (Bw.wayO 13 o (Bw.sipHash s key) 0).1 (Bw.sipHash s key) key).1, c.2 + (Bw.costEnd (Bw.wayO 13 o (Bw.sipHash s key) 0).1 (Bw.sipHash s key) key).2) = cc at *
  generalize Bw.sipHash s key = hh at *
  generalize Bw.get m key = ans at *
  obtain ⟨AM, rfl⟩ := hme.form
  obtain ⟨K, ck, rfl⟩ := hk.form
  obtain ⟨a0, a1, a2, a3, a4, a5, a6, a7, a8, a9, aA, aB, aC, aD, aE, aF, hs16⟩ := mapE16 hs
  subst hs16
  simp only [seedV, List.map_cons, List.map_nil, encB] at CH
  simp only [trieV, List.map_cons, List.map_nil, List.cons_append, List.nil_append, encB]
  have hnf := onode_form hn
  obtain ⟨wb, hwb⟩ : ∃ wb, w.alloc (.cells #[.int .u8 (a0.toNat : Nat), .int .u8 (a1.toNat : Nat), .int .u8 (a2.toNat : Nat), .int .u8 (a3.toNat : Nat), .int .u8 (a4.toNat : Nat), .int .u8 (a5.toNat : Nat), .int .u8 (a6.toNat : Nat), .int .u8 (a7.toNat : Nat), .int .u8 (a8.toNat : Nat), .int .u8 (a9.toNat : Nat), .int .u8 (aA.toNat : Nat), .int .u8 (aB.toNat : Nat), .int .u8 (aC.toNat : Nat), .int .u8 (aD.toNat : Nat), .int .u8 (aE.toNat : Nat), .int .u8 (aF.toNat : Nat), nv] 30) = wb := ⟨_, rfl⟩
  have hB : Below w.heap.size w wb := by rw [<- hwb]; exact gB3
  have hlt : w.heap.size < wb.heap.size := by rw [<- hwb]; simp
  have hblk : wb.heap[w.heap.size]? = some (.cells #[.int .u8 (a0.toNat : Nat), .int .u8 (a1.toNat : Nat), .int .u8 (a2.toNat : Nat), .int .u8 (a3.toNat : Nat), .int .u8 (a4.toNat : Nat), .int .u8 (a5.toNat : Nat), .int .u8 (a6.toNat : Nat), .int .u8 (a7.toNat : Nat), .int .u8 (a8.toNat : Nat), .int .u8 (a9.toNat : Nat), .int .u8 (aA.toNat : Nat), .int .u8 (aB.toNat : Nat), .int .u8 (aC.toNat : Nat), .int .u8 (aD.toNat : Nat), .int .u8 (aE.toNat : Nat), .int .u8 (aF.toNat : Nat), nv] 30 (0, 0)) := by rw [<- hwb]; exact heap_alloc_new w _
  have hwm : some w.heap.size ≠ mb := fun e => by subst e; have := hme.lt; omega
  have SK : Hid (∀ W, Turns wb W mb -> W.rangeAt w.heap.size 0 [.int .u8 (a0.toNat : Nat), .int .u8 (a1.toNat : Nat), .int .u8 (a2.toNat : Nat), .int .u8 (a3.toNat : Nat), .int .u8 (a4.toNat : Nat), .int .u8 (a5.toNat : Nat), .int .u8 (a6.toNat : Nat), .int .u8 (a7.toNat : Nat), .int .u8 (a8.toNat : Nat), .int .u8 (a9.toNat : Nat), .int .u8 (aA.toNat : Nat), .int .u8 (aB.toNat : Nat), .int .u8 (aC.toNat : Nat), .int .u8 (aD.toNat : Nat), .int .u8 (aE.toNat : Nat), .int .u8 (aF.toNat : Nat)] /\ W.cell? ⟨w.heap.size, 16, none⟩ = some nv) := Lib.hid fun W hW => ⟨rng_of (tri_of ((hW.block w.heap.size hlt hwm).trans hblk)), (tri_of ((hW.block w.heap.size hlt hwm).trans hblk)).2.2.2.2.2.2.2.2.2.2.2.2.2.2.2.2⟩
  have hua := Tryz.underlying23
  have hia := rng_len a0 a1 a2 a3 a4 a5 a6 a7 a8 a9 aA aB aC aD aE aF
  have HWB := Lib.hid hwb
  have HB := Lib.hid hB
  clear hwb hB hblk hs hm hn hL hk hkl hme hokm hokb hS hc hla hlt
  rcases hnf with rfl | ⟨tn, bn, rfl⟩
  · go_enter Tryz.func25, Tryz.ntmps25
    go_wp2_with fail
    rw [HWB.out]
    go_wp2_with fail
    go_region_held3 (fun W => W.rangeAt w.heap.size 0 [.int .u8 (a0.toNat : Nat), .int .u8 (a1.toNat : Nat), .int .u8 (a2.toNat : Nat), .int .u8 (a3.toNat : Nat), .int .u8 (a4.toNat : Nat), .int .u8 (a5.toNat : Nat), .int .u8 (a6.toNat : Nat), .int .u8 (a7.toNat : Nat), .int .u8 (a8.toNat : Nat), .int .u8 (a9.toNat : Nat), .int .u8 (aA.toNat : Nat), .int .u8 (aB.toNat : Nat), .int .u8 (aC.toNat : Nat), .int .u8 (aD.toNat : Nat), .int .u8 (aE.toNat : Nat), .int .u8 (aF.toNat : Nat)] /\ W.cell? ⟨w.heap.size, 16, none⟩ = some (.nilIface))
      (first | with_reducible exact SK.out _ hT2 | with_reducible exact SK.out _ hT1 | with_reducible exact SK.out _ (Turns.of_below _ (by exact gB3)))
      ((first
        | (go_at_call 40; (with_reducible refine (CH.out _ (HB.out.trans (Below.mono (by exact gB3) HB.out.size))).mono ?_); rintro e w1 ⟨rfl, hb1'⟩; have hb1 : Below wb.heap.size wb w1 := Below.trans (by exact gB3) (hb1'.mono (by simp)); have hT1 : Turns wb w1 mb := Turns.of_below _ hb1)
        | (go_at_call 47; (with_reducible refine (CG.out _ (HB.out.trans (hb1.mono HB.out.size))).mono ?_); rintro e w2 ⟨u2, b2, rfl, hl2, hm2, ht2⟩; have hT2 : Turns wb w2 mb := hT1.trans ht2)))
    go_wp2
    go_ret2
    exact ⟨_, _, rfl, hl2.early (HB.out.trans (hb1.mono HB.out.size)).size, hm2, (Turns.of_below _ HB.out).trans hT2⟩
  · go_enter Tryz.func25, Tryz.ntmps25
    go_wp2_with fail
    rw [HWB.out]
    go_wp2_with fail
    go_region_held3 (fun W => W.rangeAt w.heap.size 0 [.int .u8 (a0.toNat : Nat), .int .u8 (a1.toNat : Nat), .int .u8 (a2.toNat : Nat), .int .u8 (a3.toNat : Nat), .int .u8 (a4.toNat : Nat), .int .u8 (a5.toNat : Nat), .int .u8 (a6.toNat : Nat), .int .u8 (a7.toNat : Nat), .int .u8 (a8.toNat : Nat), .int .u8 (a9.toNat : Nat), .int .u8 (aA.toNat : Nat), .int .u8 (aB.toNat : Nat), .int .u8 (aC.toNat : Nat), .int .u8 (aD.toNat : Nat), .int .u8 (aE.toNat : Nat), .int .u8 (aF.toNat : Nat)] /\ W.cell? ⟨w.heap.size, 16, none⟩ = some ((.iface tn (.pointer (some ⟨bn, 0, none⟩)))))
      (first | with_reducible exact SK.out _ hT2 | with_reducible exact SK.out _ hT1 | with_reducible exact SK.out _ (Turns.of_below _ (by exact gB3)))
      ((first
        | (go_at_call 40; (with_reducible refine (CH.out _ (HB.out.trans (Below.mono (by exact gB3) HB.out.size))).mono ?_); rintro e w1 ⟨rfl, hb1'⟩; have hb1 : Below wb.heap.size wb w1 := Below.trans (by exact gB3) (hb1'.mono (by simp)); have hT1 : Turns wb w1 mb := Turns.of_below _ hb1)
        | (go_at_call 47; (with_reducible refine (CG.out _ (HB.out.trans (hb1.mono HB.out.size))).mono ?_); rintro e w2 ⟨u2, b2, rfl, hl2, hm2, ht2⟩; have hT2 : Turns wb w2 mb := hT1.trans ht2)))
    go_wp2
    go_ret2
    exact ⟨_, _, rfl, hl2.early (HB.out.trans (hb1.mono HB.out.size)).size, hm2, (Turns.of_below _ HB.out).trans hT2⟩
end Go.Proofs.YtadaoceidkagfaaGreatDoor
/- trie.Put. -/
namespace Go.Proofs.YtadaoceidkagfaaGreatDoor
open Go.RowKit Go.Bw
set_option maxRecDepth 100000 in
set_option maxHeartbeats 4000000 in
theorem tput_trie {ok okb : Nat -> Prop} {mb : Option Nat} {s : List UInt8} {m : List Bw.PV} {p : Bw.PV} {o : Option Bw.N} {nv u1 u2 mv : Value} {c : Nat × Nat} {w : World} (hs : s.length = 16) (hm : MapOk m) (hn : ONodeAt nt ok w nv o) (hL : Bw.OLays 0 o (Bw.ents (Bw.sipHash s) m)) (h1 : BytesAt okb w u1 p.1) (h2 : BytesAt okb w u2 p.2) (hp : p.1.length <= 1048576 /\ p.2.length <= 1048576)
    (hme : MeterAt w mv c mb) (hokm : ∀ k, ok k -> some k ≠ mb) (hokb : ∀ k, okb k -> some k ≠ mb) (hmt : some 2 ≠ mb) (hok : ∀ k, w.heap.size <= k -> ok k) (hT : Tab w) (hS : Sta w) (hc : c.1 < 1000000000 /\ c.2 < 1000000000) :
    Calls Tryz.prog 19 #[trieV s nv, .agg #[u1, u2], mv] w fun e w' => ∃ nv' n, e = .returned (.tuple #[trieV s nv', .bool (!(Bw.get m p.1).isSome)]) /\ NodeAt nt ok w' nv' n /\ Bw.OLays 0 (some n) (Bw.ents (Bw.sipHash s) (Bw.put m p)) /\ MeterAt w' mv (costAt c (Bw.costO 13 o (Bw.sipHash s p.1) p.1 0)) mb /\ Turns w w' mb := by
  have hF : ∀ k, Bw.sipHash s k < 18446744073709551616 := fun k => Bw.sipHash_lt s k
  obtain ⟨okf, hokf⟩ : ∃ okf : Nat -> Prop, okf = fun k => ok k /\ k ≠ w.heap.size + 1 + 1 := ⟨_, rfl⟩
  have hwo : Moves ok okf w w := Moves.weaken fun k hk hl => by rw [hokf]; exact ⟨hk, by omega⟩
  have hfm : ∀ k, okf k -> some k ≠ mb := fun k hk => by rw [hokf] at hk; exact hokm k hk.1
  have hfs : ∀ W, Below w.heap.size w W -> w.heap.size + 1 + 1 < W.heap.size -> ∀ k, W.heap.size <= k -> okf k := fun W hW hlt k hk => by rw [hokf]; exact ⟨hok k (Nat.le_trans hW.size hk), by omega⟩
  have CP := Lib.hid (fun (W : World) (hW : Below w.heap.size w W) (hlt : w.heap.size + 1 + 1 < W.heap.size) => gput_any (ok := okf) (okb := okb) (mb := mb) (o := o) (l := Bw.ents (Bw.sipHash s) m) (h := Bw.sipHash s p.1) (p := p) (c := c) (w := W) (v := nv) (u1 := u1) (u2 := u2) (mv := mv)
    ⟨rfl, hL, Bw.unlike_ents hm.rises, hm.ents, ents_hash hF, by rw [Bw.length_ents]; exact Nat.le_trans hm.len (by decide), fun e _ => by rw [Nat.pow_zero, Nat.mod_one, Nat.mod_one], fun e he hk => by rw [(Bw.mem_ents.1 he).2, hk], hF _, hp.1, hp.2, hn.move (hwo.trans (Nat.le_refl _) (Moves.below hW)), h1.move goodByte (Moves.below hW), h2.move goodByte (Moves.below hW), hme.below hW, hfm, hokb, hmt, hfs W hW hlt, hT.below hT.pos hW, by omega, by omega⟩)
  have HFR : Hid (∀ fr n', Bw.Lays 0 n' (Bw.PutS (fun e => e ∈ Bw.ents (Bw.sipHash s) m) (Bw.sipHash s p.1) p) -> (fr = true ↔ ∀ e ∈ Bw.ents (Bw.sipHash s) m, e.2.1 ≠ p.1) -> fr = !(Bw.get m p.1).isSome /\ Bw.OLays 0 (some n') (Bw.ents (Bw.sipHash s) (Bw.put m p))) := Lib.hid fun fr n' hl hfr => ⟨fresh_ents hfr, hl.congr fun e => (Bw.ents_put hm.rises e).symm⟩
  have CH := Lib.hid (fun (W : World) (hW : Below w.heap.size w W) => shash_any hs (h1.move goodByte (Moves.below hW)) hp.1 (hS.below hS.pos hW))
  generalize Bw.costO 13 o (Bw.sipHash s p.1) p.1 0 = cc at *
  obtain ⟨AM, rfl⟩ := hme.form
  obtain ⟨U, cu, rfl⟩ := h1.form
  obtain ⟨V, cv, rfl⟩ := h2.form
  have HTRV : Hid (∀ x, trieV s x = .agg (s.map encB ++ [x]).toArray) := Lib.hid fun x => rfl
  obtain ⟨a0, a1, a2, a3, a4, a5, a6, a7, a8, a9, aA, aB, aC, aD, aE, aF, hs16⟩ := mapE16 hs
  have HSN := Lib.hid hs16
  have hsv : seedV s = .agg #[.int .u8 (a0.toNat : Nat), .int .u8 (a1.toNat : Nat), .int .u8 (a2.toNat : Nat), .int .u8 (a3.toNat : Nat), .int .u8 (a4.toNat : Nat), .int .u8 (a5.toNat : Nat), .int .u8 (a6.toNat : Nat), .int .u8 (a7.toNat : Nat), .int .u8 (a8.toNat : Nat), .int .u8 (a9.toNat : Nat), .int .u8 (aA.toNat : Nat), .int .u8 (aB.toNat : Nat), .int .u8 (aC.toNat : Nat), .int .u8 (aD.toNat : Nat), .int .u8 (aE.toNat : Nat), .int .u8 (aF.toNat : Nat)] := by rw [hs16]; rfl
  have htv : ∀ x, trieV s x = .agg #[.int .u8 (a0.toNat : Nat), .int .u8 (a1.toNat : Nat), .int .u8 (a2.toNat : Nat), .int .u8 (a3.toNat : Nat), .int .u8 (a4.toNat : Nat), .int .u8 (a5.toNat : Nat), .int .u8 (a6.toNat : Nat), .int .u8 (a7.toNat : Nat), .int .u8 (a8.toNat : Nat), .int .u8 (a9.toNat : Nat), .int .u8 (aA.toNat : Nat), .int .u8 (aB.toNat : Nat), .int .u8 (aC.toNat : Nat), .int .u8 (aD.toNat : Nat), .int .u8 (aE.toNat : Nat), .int .u8 (aF.toNat : Nat), x] := fun x => by rw [hs16]; rfl
  rw [hsv] at CH
  rw [htv]
  have HTV := Lib.hid htv
  have hnf := onode_form hn
  have HML : Hid (∀ k, mb = some k -> k < w.heap.size) := Lib.hid fun k e => by subst e; exact hme.lt
  have hua := Tryz.underlying23
  have hia := rng_len a0 a1 a2 a3 a4 a5 a6 a7 a8 a9 aA aB aC aD aE aF
  obtain ⟨W0, hW0⟩ : ∃ W0, ((w.alloc (.cells #[.int .u8 (a0.toNat : Nat), .int .u8 (a1.toNat : Nat), .int .u8 (a2.toNat : Nat), .int .u8 (a3.toNat : Nat), .int .u8 (a4.toNat : Nat), .int .u8 (a5.toNat : Nat), .int .u8 (a6.toNat : Nat), .int .u8 (a7.toNat : Nat), .int .u8 (a8.toNat : Nat), .int .u8 (a9.toNat : Nat), .int .u8 (aA.toNat : Nat), .int .u8 (aB.toNat : Nat), .int .u8 (aC.toNat : Nat), .int .u8 (aD.toNat : Nat), .int .u8 (aE.toNat : Nat), .int .u8 (aF.toNat : Nat), nv] 30)).alloc (.cells #[.slice U p.1.length cu, .slice V p.2.length cv] 62)).alloc (.cells #[.int .u8 0, .int .u8 0, .int .u8 0, .int .u8 0, .int .u8 0, .int .u8 0, .int .u8 0, .int .u8 0, .int .u8 0, .int .u8 0, .int .u8 0, .int .u8 0, .int .u8 0, .int .u8 0, .int .u8 0, .int .u8 0, .nilIface] 30) = W0 := ⟨_, rfl⟩
  have hB0 : Below w.heap.size w W0 := by rw [<- hW0]; exact gB3
  have hs0 : W0.heap.size = w.heap.size + 3 := by rw [<- hW0]; simp
  have hb0 : W0.heap[w.heap.size]? = some (.cells #[.int .u8 (a0.toNat : Nat), .int .u8 (a1.toNat : Nat), .int .u8 (a2.toNat : Nat), .int .u8 (a3.toNat : Nat), .int .u8 (a4.toNat : Nat), .int .u8 (a5.toNat : Nat), .int .u8 (a6.toNat : Nat), .int .u8 (a7.toNat : Nat), .int .u8 (a8.toNat : Nat), .int .u8 (a9.toNat : Nat), .int .u8 (aA.toNat : Nat), .int .u8 (aB.toNat : Nat), .int .u8 (aC.toNat : Nat), .int .u8 (aD.toNat : Nat), .int .u8 (aE.toNat : Nat), .int .u8 (aF.toNat : Nat), nv] 30 (0, 0)) := by rw [<- hW0]; exact (heap_alloc_old _ _ (by simp; omega)).trans ((heap_alloc_old _ _ (by simp)).trans (heap_alloc_new w _))
  have hb1 : W0.heap[w.heap.size + 1]? = some (.cells #[.slice U p.1.length cu, .slice V p.2.length cv] 62 (0, 0)) := by rw [<- hW0]; refine (heap_alloc_old _ _ (by simp)).trans ?_; have := heap_alloc_new (w.alloc (.cells #[.int .u8 (a0.toNat : Nat), .int .u8 (a1.toNat : Nat), .int .u8 (a2.toNat : Nat), .int .u8 (a3.toNat : Nat), .int .u8 (a4.toNat : Nat), .int .u8 (a5.toNat : Nat), .int .u8 (a6.toNat : Nat), .int .u8 (a7.toNat : Nat), .int .u8 (a8.toNat : Nat), .int .u8 (a9.toNat : Nat), .int .u8 (aA.toNat : Nat), .int .u8 (aB.toNat : Nat), .int .u8 (aC.toNat : Nat), .int .u8 (aD.toNat : Nat), .int .u8 (aE.toNat : Nat), .int .u8 (aF.toNat : Nat), nv] 30)) (.cells #[.slice U p.1.length cu, .slice V p.2.length cv] 62); simpa using this
  have hbr : W0.heap[w.heap.size + 1 + 1]? = some (.cells #[.int .u8 0, .int .u8 0, .int .u8 0, .int .u8 0, .int .u8 0, .int .u8 0, .int .u8 0, .int .u8 0, .int .u8 0, .int .u8 0, .int .u8 0, .int .u8 0, .int .u8 0, .int .u8 0, .int .u8 0, .int .u8 0, .nilIface] 30 (0, 0)) := by rw [<- hW0]; have := heap_alloc_new ((w.alloc (.cells #[.int .u8 (a0.toNat : Nat), .int .u8 (a1.toNat : Nat), .int .u8 (a2.toNat : Nat), .int .u8 (a3.toNat : Nat), .int .u8 (a4.toNat : Nat), .int .u8 (a5.toNat : Nat), .int .u8 (a6.toNat : Nat), .int .u8 (a7.toNat : Nat), .int .u8 (a8.toNat : Nat), .int .u8 (a9.toNat : Nat), .int .u8 (aA.toNat : Nat), .int .u8 (aB.toNat : Nat), .int .u8 (aC.toNat : Nat), .int .u8 (aD.toNat : Nat), .int .u8 (aE.toNat : Nat), .int .u8 (aF.toNat : Nat), nv] 30)).alloc (.cells #[.slice U p.1.length cu, .slice V p.2.length cv] 62)) (.cells #[.int .u8 0, .int .u8 0, .int .u8 0, .int .u8 0, .int .u8 0, .int .u8 0, .int .u8 0, .int .u8 0, .int .u8 0, .int .u8 0, .int .u8 0, .int .u8 0, .int .u8 0, .int .u8 0, .int .u8 0, .int .u8 0, .nilIface] 30); simpa using this
  have hwm : ∀ k, w.heap.size <= k -> some k ≠ mb := fun k hk e => by have := HML.out k e.symm; omega
  have SB : Hid (∀ W, Turns W0 W mb -> W.heap[w.heap.size]? = some (.cells #[.int .u8 (a0.toNat : Nat), .int .u8 (a1.toNat : Nat), .int .u8 (a2.toNat : Nat), .int .u8 (a3.toNat : Nat), .int .u8 (a4.toNat : Nat), .int .u8 (a5.toNat : Nat), .int .u8 (a6.toNat : Nat), .int .u8 (a7.toNat : Nat), .int .u8 (a8.toNat : Nat), .int .u8 (a9.toNat : Nat), .int .u8 (aA.toNat : Nat), .int .u8 (aB.toNat : Nat), .int .u8 (aC.toNat : Nat), .int .u8 (aD.toNat : Nat), .int .u8 (aE.toNat : Nat), .int .u8 (aF.toNat : Nat), nv] 30 (0, 0)) /\ W.heap[w.heap.size + 1]? = some (.cells #[.slice U p.1.length cu, .slice V p.2.length cv] 62 (0, 0)) /\ W.heap[w.heap.size + 1 + 1]? = some (.cells #[.int .u8 0, .int .u8 0, .int .u8 0, .int .u8 0, .int .u8 0, .int .u8 0, .int .u8 0, .int .u8 0, .int .u8 0, .int .u8 0, .int .u8 0, .int .u8 0, .int .u8 0, .int .u8 0, .int .u8 0, .int .u8 0, .nilIface] 30 (0, 0))) := Lib.hid fun W hW => ⟨(hW.block w.heap.size (by omega) (hwm _ (Nat.le_refl _))).trans hb0, (hW.block (w.heap.size + 1) (by omega) (hwm _ (by omega))).trans hb1, (hW.block (w.heap.size + 1 + 1) (by omega) (hwm _ (by omega))).trans hbr⟩
  have SK : Hid (∀ W, Turns W0 W mb -> W.rangeAt w.heap.size 0 [.int .u8 (a0.toNat : Nat), .int .u8 (a1.toNat : Nat), .int .u8 (a2.toNat : Nat), .int .u8 (a3.toNat : Nat), .int .u8 (a4.toNat : Nat), .int .u8 (a5.toNat : Nat), .int .u8 (a6.toNat : Nat), .int .u8 (a7.toNat : Nat), .int .u8 (a8.toNat : Nat), .int .u8 (a9.toNat : Nat), .int .u8 (aA.toNat : Nat), .int .u8 (aB.toNat : Nat), .int .u8 (aC.toNat : Nat), .int .u8 (aD.toNat : Nat), .int .u8 (aE.toNat : Nat), .int .u8 (aF.toNat : Nat)] /\ W.cell? ⟨w.heap.size, 16, none⟩ = some nv /\ W.cell? ⟨w.heap.size + 1, 0, none⟩ = some (.slice U p.1.length cu) /\ W.cell? ⟨w.heap.size + 1, 1, none⟩ = some (.slice V p.2.length cv)) := Lib.hid fun W hW => ⟨rng_of (tri_of (SB.out W hW).1), (tri_of (SB.out W hW).1).2.2.2.2.2.2.2.2.2.2.2.2.2.2.2.2, (cell_of_row W (w.heap.size + 1) 0 _ _ (0, 0) (SB.out W hW).2.1).trans rfl, (cell_of_row W (w.heap.size + 1) 1 _ _ (0, 0) (SB.out W hW).2.1).trans rfl⟩
  have HB0 := Lib.hid hB0
  have HS0 : Hid (w.heap.size + 1 + 1 < W0.heap.size) := Lib.hid (by omega)
  have HFO : Hid (∀ (W : World) (cs : List Value), Moves okf ok W (W.setCells (w.heap.size + 1 + 1) 0 cs)) := Lib.hid fun W cs k hk _ => by rw [hokf] at hk; exact ⟨hk.1, World.other_setCells hk.2 cs 0 W⟩
  clear hB0 hb0 hb1 hbr hwm hs0 hs hm hn hL h1 h2 hp hme hokm hokb hmt hok hT hS hc hF hwo hfm hfs hokf hs16 hsv htv HSN HTRV
  rcases hnf with rfl | ⟨tn, bn, rfl⟩
  ·
    go_enter Tryz.func19, Tryz.ntmps19
    go_wp2_with fail
    go_region_held3 (fun W => W.rangeAt w.heap.size 0 [.int .u8 (a0.toNat : Nat), .int .u8 (a1.toNat : Nat), .int .u8 (a2.toNat : Nat), .int .u8 (a3.toNat : Nat), .int .u8 (a4.toNat : Nat), .int .u8 (a5.toNat : Nat), .int .u8 (a6.toNat : Nat), .int .u8 (a7.toNat : Nat), .int .u8 (a8.toNat : Nat), .int .u8 (a9.toNat : Nat), .int .u8 (aA.toNat : Nat), .int .u8 (aB.toNat : Nat), .int .u8 (aC.toNat : Nat), .int .u8 (aD.toNat : Nat), .int .u8 (aE.toNat : Nat), .int .u8 (aF.toNat : Nat)] /\ W.cell? ⟨w.heap.size, 16, none⟩ = some .nilIface /\ W.cell? ⟨w.heap.size + 1, 0, none⟩ = some (.slice U p.1.length cu) /\ W.cell? ⟨w.heap.size + 1, 1, none⟩ = some (.slice V p.2.length cv))
      (first | with_reducible exact SK.out _ hT2 | with_reducible exact SK.out _ hT1 | with_reducible exact SK.out _ (Turns.of_below _ (by exact gB3)))
      ((first
        | (go_at_call 40; (with_reducible refine (CH.out _ (HB0.out.trans (Below.mono (by exact gB3) HB0.out.size))).mono ?_); rintro e w1 ⟨rfl, hb1'⟩; have hb1 : Below W0.heap.size W0 w1 := Below.trans (by exact gB3) (hb1'.mono (by simp)); have hT1 : Turns W0 w1 mb := Turns.of_below _ hb1)
        | (go_at_call 41; (with_reducible refine (CP.out _ (HB0.out.trans (hb1.mono HB0.out.size)) (Nat.lt_of_lt_of_le HS0.out hb1.size)).mono ?_); rintro e w2 ⟨nv2, n2, fr2, rfl, hn2, hl2, hfr2, hm2, ht2⟩; have hT2 : Turns W0 w2 mb := hT1.trans ht2)))
    have HR2 := Lib.hid (rng_of (tri_of (SB.out w2 hT2).1))
    have HTH := Lib.hid (there_of (SB.out w2 hT2).2.2 (n := 17) rfl)
    obtain ⟨t9, b9, rfl⟩ := hn2.form
    obtain ⟨WS, hWS⟩ : ∃ WS, w2.setCells (w.heap.size + 1 + 1) 0 [.int .u8 (a0.toNat : Nat), .int .u8 (a1.toNat : Nat), .int .u8 (a2.toNat : Nat), .int .u8 (a3.toNat : Nat), .int .u8 (a4.toNat : Nat), .int .u8 (a5.toNat : Nat), .int .u8 (a6.toNat : Nat), .int .u8 (a7.toNat : Nat), .int .u8 (a8.toNat : Nat), .int .u8 (a9.toNat : Nat), .int .u8 (aA.toNat : Nat), .int .u8 (aB.toNat : Nat), .int .u8 (aC.toNat : Nat), .int .u8 (aD.toNat : Nat), .int .u8 (aE.toNat : Nat), .int .u8 (aF.toNat : Nat), (.iface t9 (.pointer (some ⟨b9, 0, none⟩)))] = WS := ⟨_, rfl⟩
    have hbX : Below w.heap.size w2 WS := by rw [<- hWS]; exact World.below_setCells (by omega) _ _ _ (Below.refl _ _)
    have hTX : WS.rangeAt (w.heap.size + 1 + 1) 0 [.int .u8 (a0.toNat : Nat), .int .u8 (a1.toNat : Nat), .int .u8 (a2.toNat : Nat), .int .u8 (a3.toNat : Nat), .int .u8 (a4.toNat : Nat), .int .u8 (a5.toNat : Nat), .int .u8 (a6.toNat : Nat), .int .u8 (a7.toNat : Nat), .int .u8 (a8.toNat : Nat), .int .u8 (a9.toNat : Nat), .int .u8 (aA.toNat : Nat), .int .u8 (aB.toNat : Nat), .int .u8 (aC.toNat : Nat), .int .u8 (aD.toNat : Nat), .int .u8 (aE.toNat : Nat), .int .u8 (aF.toNat : Nat), (.iface t9 (.pointer (some ⟨b9, 0, none⟩)))] := by rw [<- hWS]; exact World.rangeAt_setCells_same _ _ _ _ HTH.out
    have hmv : Moves okf ok w2 WS := by rw [<- hWS]; exact HFO.out w2 _
    have HWS := Lib.hid hWS
    have hT2w : Turns w w2 mb := (Turns.of_below _ HB0.out).trans hT2
    have HX := Lib.hid hT2w; have HBX := Lib.hid hbX; have HTX := Lib.hid hTX; have HMV := Lib.hid hmv
    clear hWS hbX hTX hmv hT2w
    go_wp2_with (first
      | (refine wpList_load_mid (P := Tryz.prog) rfl 23 (.tmp 23) rfl w.heap.size 0 rfl [.int .u8 (a0.toNat : Nat), .int .u8 (a1.toNat : Nat), .int .u8 (a2.toNat : Nat), .int .u8 (a3.toNat : Nat), .int .u8 (a4.toNat : Nat), .int .u8 (a5.toNat : Nat), .int .u8 (a6.toNat : Nat), .int .u8 (a7.toNat : Nat), .int .u8 (a8.toNat : Nat), .int .u8 (a9.toNat : Nat), .int .u8 (aA.toNat : Nat), .int .u8 (aB.toNat : Nat), .int .u8 (aC.toNat : Nat), .int .u8 (aD.toNat : Nat), .int .u8 (aE.toNat : Nat), .int .u8 (aF.toNat : Nat)] _ HR2.out Tryz.underlying23 rfl (rng_len a0 a1 a2 a3 a4 a5 a6 a7 a8 a9 aA aB aC aD aE aF) ?_; simp only [Act.put, List.setIfInBounds_toArray, List.set_cons_zero, List.set_cons_succ])
      | (refine wpList_store_mid (P := Tryz.prog) rfl 30 (.tmp 6) (.tmp 26) rfl (w.heap.size + 1 + 1) 0 #[.int .u8 (a0.toNat : Nat), .int .u8 (a1.toNat : Nat), .int .u8 (a2.toNat : Nat), .int .u8 (a3.toNat : Nat), .int .u8 (a4.toNat : Nat), .int .u8 (a5.toNat : Nat), .int .u8 (a6.toNat : Nat), .int .u8 (a7.toNat : Nat), .int .u8 (a8.toNat : Nat), .int .u8 (a9.toNat : Nat), .int .u8 (aA.toNat : Nat), .int .u8 (aB.toNat : Nat), .int .u8 (aC.toNat : Nat), .int .u8 (aD.toNat : Nat), .int .u8 (aE.toNat : Nat), .int .u8 (aF.toNat : Nat), (.iface t9 (.pointer (some ⟨b9, 0, none⟩)))] rfl rfl HTH.out trie_size (one17 a0 a1 a2 a3 a4 a5 a6 a7 a8 a9 aA aB aC aD aE aF rfl) ?_; simp only [HWS.out, Act.put]))
    obtain ⟨rfl, hl3⟩ := HFR.out _ _ hl2 hfr2
    exact bodyPost_ret (results_row2 (cs := [.int .u8 (a0.toNat : Nat), .int .u8 (a1.toNat : Nat), .int .u8 (a2.toNat : Nat), .int .u8 (a3.toNat : Nat), .int .u8 (a4.toNat : Nat), .int .u8 (a5.toNat : Nat), .int .u8 (a6.toNat : Nat), .int .u8 (a7.toNat : Nat), .int .u8 (a8.toNat : Nat), .int .u8 (a9.toNat : Nat), .int .u8 (aA.toNat : Nat), .int .u8 (aB.toNat : Nat), .int .u8 (aC.toNat : Nat), .int .u8 (aD.toNat : Nat), .int .u8 (aE.toNat : Nat), .int .u8 (aF.toNat : Nat), (.iface t9 (.pointer (some ⟨b9, 0, none⟩)))]) rfl _ rfl HTX.out Tryz.underlying30 rfl (trie_len a0 a1 a2 a3 a4 a5 a6 a7 a8 a9 aA aB aC aD aE aF _)) rfl ⟨_, n2, by rw [HTV.out]; rfl, NodeAt.move HMV.out _ _ hn2, hl3, hm2.belowN HML.out HBX.out, Turns.after HX.out HBX.out⟩
  ·
    go_enter Tryz.func19, Tryz.ntmps19
    go_wp2_with fail
    go_region_held3 (fun W => W.rangeAt w.heap.size 0 [.int .u8 (a0.toNat : Nat), .int .u8 (a1.toNat : Nat), .int .u8 (a2.toNat : Nat), .int .u8 (a3.toNat : Nat), .int .u8 (a4.toNat : Nat), .int .u8 (a5.toNat : Nat), .int .u8 (a6.toNat : Nat), .int .u8 (a7.toNat : Nat), .int .u8 (a8.toNat : Nat), .int .u8 (a9.toNat : Nat), .int .u8 (aA.toNat : Nat), .int .u8 (aB.toNat : Nat), .int .u8 (aC.toNat : Nat), .int .u8 (aD.toNat : Nat), .int .u8 (aE.toNat : Nat), .int .u8 (aF.toNat : Nat)] /\ W.cell? ⟨w.heap.size, 16, none⟩ = some (.iface tn (.pointer (some ⟨bn, 0, none⟩))) /\ W.cell? ⟨w.heap.size + 1, 0, none⟩ = some (.slice U p.1.length cu) /\ W.cell? ⟨w.heap.size + 1, 1, none⟩ = some (.slice V p.2.length cv))
      (first | with_reducible exact SK.out _ hT2 | with_reducible exact SK.out _ hT1 | with_reducible exact SK.out _ (Turns.of_below _ (by exact gB3)))
      ((first
        | (go_at_call 40; (with_reducible refine (CH.out _ (HB0.out.trans (Below.mono (by exact gB3) HB0.out.size))).mono ?_); rintro e w1 ⟨rfl, hb1'⟩; have hb1 : Below W0.heap.size W0 w1 := Below.trans (by exact gB3) (hb1'.mono (by simp)); have hT1 : Turns W0 w1 mb := Turns.of_below _ hb1)
        | (go_at_call 41; (with_reducible refine (CP.out _ (HB0.out.trans (hb1.mono HB0.out.size)) (Nat.lt_of_lt_of_le HS0.out hb1.size)).mono ?_); rintro e w2 ⟨nv2, n2, fr2, rfl, hn2, hl2, hfr2, hm2, ht2⟩; have hT2 : Turns W0 w2 mb := hT1.trans ht2)))
    have HR2 := Lib.hid (rng_of (tri_of (SB.out w2 hT2).1))
    have HTH := Lib.hid (there_of (SB.out w2 hT2).2.2 (n := 17) rfl)
    obtain ⟨t9, b9, rfl⟩ := hn2.form
    obtain ⟨WS, hWS⟩ : ∃ WS, w2.setCells (w.heap.size + 1 + 1) 0 [.int .u8 (a0.toNat : Nat), .int .u8 (a1.toNat : Nat), .int .u8 (a2.toNat : Nat), .int .u8 (a3.toNat : Nat), .int .u8 (a4.toNat : Nat), .int .u8 (a5.toNat : Nat), .int .u8 (a6.toNat : Nat), .int .u8 (a7.toNat : Nat), .int .u8 (a8.toNat : Nat), .int .u8 (a9.toNat : Nat), .int .u8 (aA.toNat : Nat), .int .u8 (aB.toNat : Nat), .int .u8 (aC.toNat : Nat), .int .u8 (aD.toNat : Nat), .int .u8 (aE.toNat : Nat), .int .u8 (aF.toNat : Nat), (.iface t9 (.pointer (some ⟨b9, 0, none⟩)))] = WS := ⟨_, rfl⟩
    have hbX : Below w.heap.size w2 WS := by rw [<- hWS]; exact World.below_setCells (by omega) _ _ _ (Below.refl _ _)
    have hTX : WS.rangeAt (w.heap.size + 1 + 1) 0 [.int .u8 (a0.toNat : Nat), .int .u8 (a1.toNat : Nat), .int .u8 (a2.toNat : Nat), .int .u8 (a3.toNat : Nat), .int .u8 (a4.toNat : Nat), .int .u8 (a5.toNat : Nat), .int .u8 (a6.toNat : Nat), .int .u8 (a7.toNat : Nat), .int .u8 (a8.toNat : Nat), .int .u8 (a9.toNat : Nat), .int .u8 (aA.toNat : Nat), .int .u8 (aB.toNat : Nat), .int .u8 (aC.toNat : Nat), .int .u8 (aD.toNat : Nat), .int .u8 (aE.toNat : Nat), .int .u8 (aF.toNat : Nat), (.iface t9 (.pointer (some ⟨b9, 0, none⟩)))] := by rw [<- hWS]; exact World.rangeAt_setCells_same _ _ _ _ HTH.out
    have hmv : Moves okf ok w2 WS := by rw [<- hWS]; exact HFO.out w2 _
    have HWS := Lib.hid hWS
    have hT2w : Turns w w2 mb := (Turns.of_below _ HB0.out).trans hT2
    have HX := Lib.hid hT2w; have HBX := Lib.hid hbX; have HTX := Lib.hid hTX; have HMV := Lib.hid hmv
    clear hWS hbX hTX hmv hT2w
    go_wp2_with (first
      | (refine wpList_load_mid (P := Tryz.prog) rfl 23 (.tmp 23) rfl w.heap.size 0 rfl [.int .u8 (a0.toNat : Nat), .int .u8 (a1.toNat : Nat), .int .u8 (a2.toNat : Nat), .int .u8 (a3.toNat : Nat), .int .u8 (a4.toNat : Nat), .int .u8 (a5.toNat : Nat), .int .u8 (a6.toNat : Nat), .int .u8 (a7.toNat : Nat), .int .u8 (a8.toNat : Nat), .int .u8 (a9.toNat : Nat), .int .u8 (aA.toNat : Nat), .int .u8 (aB.toNat : Nat), .int .u8 (aC.toNat : Nat), .int .u8 (aD.toNat : Nat), .int .u8 (aE.toNat : Nat), .int .u8 (aF.toNat : Nat)] _ HR2.out Tryz.underlying23 rfl (rng_len a0 a1 a2 a3 a4 a5 a6 a7 a8 a9 aA aB aC aD aE aF) ?_; simp only [Act.put, List.setIfInBounds_toArray, List.set_cons_zero, List.set_cons_succ])
      | (refine wpList_store_mid (P := Tryz.prog) rfl 30 (.tmp 6) (.tmp 26) rfl (w.heap.size + 1 + 1) 0 #[.int .u8 (a0.toNat : Nat), .int .u8 (a1.toNat : Nat), .int .u8 (a2.toNat : Nat), .int .u8 (a3.toNat : Nat), .int .u8 (a4.toNat : Nat), .int .u8 (a5.toNat : Nat), .int .u8 (a6.toNat : Nat), .int .u8 (a7.toNat : Nat), .int .u8 (a8.toNat : Nat), .int .u8 (a9.toNat : Nat), .int .u8 (aA.toNat : Nat), .int .u8 (aB.toNat : Nat), .int .u8 (aC.toNat : Nat), .int .u8 (aD.toNat : Nat), .int .u8 (aE.toNat : Nat), .int .u8 (aF.toNat : Nat), (.iface t9 (.pointer (some ⟨b9, 0, none⟩)))] rfl rfl HTH.out trie_size (one17 a0 a1 a2 a3 a4 a5 a6 a7 a8 a9 aA aB aC aD aE aF rfl) ?_; simp only [HWS.out, Act.put]))
    obtain ⟨rfl, hl3⟩ := HFR.out _ _ hl2 hfr2
    exact bodyPost_ret (results_row2 (cs := [.int .u8 (a0.toNat : Nat), .int .u8 (a1.toNat : Nat), .int .u8 (a2.toNat : Nat), .int .u8 (a3.toNat : Nat), .int .u8 (a4.toNat : Nat), .int .u8 (a5.toNat : Nat), .int .u8 (a6.toNat : Nat), .int .u8 (a7.toNat : Nat), .int .u8 (a8.toNat : Nat), .int .u8 (a9.toNat : Nat), .int .u8 (aA.toNat : Nat), .int .u8 (aB.toNat : Nat), .int .u8 (aC.toNat : Nat), .int .u8 (aD.toNat : Nat), .int .u8 (aE.toNat : Nat), .int .u8 (aF.toNat : Nat), (.iface t9 (.pointer (some ⟨b9, 0, none⟩)))]) rfl _ rfl HTX.out Tryz.underlying30 rfl (trie_len a0 a1 a2 a3 a4 a5 a6 a7 a8 a9 aA aB aC aD aE aF _)) rfl ⟨_, n2, by rw [HTV.out]; rfl, NodeAt.move HMV.out _ _ hn2, hl3, hm2.belowN HML.out HBX.out, Turns.after HX.out HBX.out⟩
end Go.Proofs.YtadaoceidkagfaaGreatDoor
/- trie.Delete. -/
namespace Go.Proofs.YtadaoceidkagfaaGreatDoor
open Go.RowKit Go.Bw
set_option maxRecDepth 100000 in
set_option maxHeartbeats 4000000 in
theorem tdelete_trie {ok okb : Nat -> Prop} {mb : Option Nat} {s : List UInt8} {m : List Bw.PV} {k : Bw.Bytes} {o : Option Bw.N} {nv u1 mv : Value} {c : Nat × Nat} {w : World} (hs : s.length = 16) (hm : MapOk m) (hn : ONodeAt nt ok w nv o) (hL : Bw.OLays 0 o (Bw.ents (Bw.sipHash s) m)) (h1 : BytesAt okb w u1 k) (hp : k.length <= 1048576)
    (hme : MeterAt w mv c mb) (hokm : ∀ k, ok k -> some k ≠ mb) (hokb : ∀ k, okb k -> some k ≠ mb) (hmt : some 2 ≠ mb) (hok : ∀ k, w.heap.size <= k -> ok k) (hT : Tab w) (hS : Sta w) (hc : c.1 < 1000000000 /\ c.2 < 1000000000) :
    Calls Tryz.prog 18 #[trieV s nv, u1, mv] w fun e w' => ∃ nv' o', e = .returned (.tuple #[trieV s nv', .bool (Bw.get m k).isSome]) /\ ONodeAt nt ok w' nv' o' /\ Bw.OLays 0 o' (Bw.ents (Bw.sipHash s) (Bw.without m k)) /\ MeterAt w' mv (costAt c (Bw.cutCost 13 o (Bw.sipHash s k) k 0)) mb /\ Turns w w' mb := by
  have hF : ∀ k, Bw.sipHash s k < 18446744073709551616 := fun k => Bw.sipHash_lt s k
  obtain ⟨okf, hokf⟩ : ∃ okf : Nat -> Prop, okf = fun k => ok k /\ k ≠ w.heap.size + 1 := ⟨_, rfl⟩
  have hwo : Moves ok okf w w := Moves.weaken fun k hk hl => by rw [hokf]; exact ⟨hk, by omega⟩
  have hfm : ∀ k, okf k -> some k ≠ mb := fun k hk => by rw [hokf] at hk; exact hokm k hk.1
  have hfs : ∀ W, Below w.heap.size w W -> w.heap.size + 1 < W.heap.size -> ∀ k, W.heap.size <= k -> okf k := fun W hW hlt k hk => by rw [hokf]; exact ⟨hok k (Nat.le_trans hW.size hk), by omega⟩
  have CP := Lib.hid (fun (W : World) (hW : Below w.heap.size w W) (hlt : w.heap.size + 1 < W.heap.size) => pdelete_any (ok := okf) (okb := okb) (mb := mb) (o := o) (l := Bw.ents (Bw.sipHash s) m) (h := Bw.sipHash s k) (k := k) (c := c) (w := W) (v := nv) (u := u1) (mv := mv)
    ⟨rfl, hL, Bw.unlike_ents hm.rises, hm.ents, ents_hash hF, by rw [Bw.length_ents]; exact Nat.le_trans hm.len (by decide), fun e _ => by rw [Nat.pow_zero, Nat.mod_one, Nat.mod_one], fun e he hk => by rw [(Bw.mem_ents.1 he).2, hk], hF _, hp, Nat.zero_le _, hn.move (hwo.trans (Nat.le_refl _) (Moves.below hW)), h1.move goodByte (Moves.below hW), RowAt.nil, hme.below hW, hfm, hokb, hmt, hfs W hW hlt, hT.below hT.pos hW, by omega, by omega⟩)
  have HL := Lib.hid hL
  have HCE := Lib.hid (cut_ents hF hL k)
  have HNO : Hid (∀ W, Turns w W mb -> ONodeAt nt okf W nv o) := Lib.hid fun W hW => hn.move (hwo.trans (Nat.le_refl _) (hW.moves hfm))
  have CH := Lib.hid (fun (W : World) (hW : Below w.heap.size w W) => shash_any hs (h1.move goodByte (Moves.below hW)) hp (hS.below hS.pos hW))
  generalize Bw.cutCost 13 o (Bw.sipHash s k) k 0 = cc at *
  obtain ⟨AM, rfl⟩ := hme.form
  obtain ⟨U, cu, rfl⟩ := h1.form
  have HTRV : Hid (∀ x, trieV s x = .agg (s.map encB ++ [x]).toArray) := Lib.hid fun x => rfl
  obtain ⟨a0, a1, a2, a3, a4, a5, a6, a7, a8, a9, aA, aB, aC, aD, aE, aF, hs16⟩ := mapE16 hs
  have HSN := Lib.hid hs16
  have hsv : seedV s = .agg #[.int .u8 (a0.toNat : Nat), .int .u8 (a1.toNat : Nat), .int .u8 (a2.toNat : Nat), .int .u8 (a3.toNat : Nat), .int .u8 (a4.toNat : Nat), .int .u8 (a5.toNat : Nat), .int .u8 (a6.toNat : Nat), .int .u8 (a7.toNat : Nat), .int .u8 (a8.toNat : Nat), .int .u8 (a9.toNat : Nat), .int .u8 (aA.toNat : Nat), .int .u8 (aB.toNat : Nat), .int .u8 (aC.toNat : Nat), .int .u8 (aD.toNat : Nat), .int .u8 (aE.toNat : Nat), .int .u8 (aF.toNat : Nat)] := by rw [hs16]; rfl
  have htv : ∀ x, trieV s x = .agg #[.int .u8 (a0.toNat : Nat), .int .u8 (a1.toNat : Nat), .int .u8 (a2.toNat : Nat), .int .u8 (a3.toNat : Nat), .int .u8 (a4.toNat : Nat), .int .u8 (a5.toNat : Nat), .int .u8 (a6.toNat : Nat), .int .u8 (a7.toNat : Nat), .int .u8 (a8.toNat : Nat), .int .u8 (a9.toNat : Nat), .int .u8 (aA.toNat : Nat), .int .u8 (aB.toNat : Nat), .int .u8 (aC.toNat : Nat), .int .u8 (aD.toNat : Nat), .int .u8 (aE.toNat : Nat), .int .u8 (aF.toNat : Nat), x] := fun x => by rw [hs16]; rfl
  rw [hsv] at CH
  rw [htv]
  have HTV := Lib.hid htv
  have hnf := onode_form hn
  have HML : Hid (∀ k, mb = some k -> k < w.heap.size) := Lib.hid fun k e => by subst e; exact hme.lt
  have hua := Tryz.underlying23
  have hia := rng_len a0 a1 a2 a3 a4 a5 a6 a7 a8 a9 aA aB aC aD aE aF
  obtain ⟨W0, hW0⟩ : ∃ W0, (w.alloc (.cells #[.int .u8 (a0.toNat : Nat), .int .u8 (a1.toNat : Nat), .int .u8 (a2.toNat : Nat), .int .u8 (a3.toNat : Nat), .int .u8 (a4.toNat : Nat), .int .u8 (a5.toNat : Nat), .int .u8 (a6.toNat : Nat), .int .u8 (a7.toNat : Nat), .int .u8 (a8.toNat : Nat), .int .u8 (a9.toNat : Nat), .int .u8 (aA.toNat : Nat), .int .u8 (aB.toNat : Nat), .int .u8 (aC.toNat : Nat), .int .u8 (aD.toNat : Nat), .int .u8 (aE.toNat : Nat), .int .u8 (aF.toNat : Nat), nv] 30)).alloc (.cells #[.int .u8 0, .int .u8 0, .int .u8 0, .int .u8 0, .int .u8 0, .int .u8 0, .int .u8 0, .int .u8 0, .int .u8 0, .int .u8 0, .int .u8 0, .int .u8 0, .int .u8 0, .int .u8 0, .int .u8 0, .int .u8 0, .nilIface] 30) = W0 := ⟨_, rfl⟩
  have hB0 : Below w.heap.size w W0 := by rw [<- hW0]; exact gB3
  have hs0 : W0.heap.size = w.heap.size + 2 := by rw [<- hW0]; simp
  have hb0 : W0.heap[w.heap.size]? = some (.cells #[.int .u8 (a0.toNat : Nat), .int .u8 (a1.toNat : Nat), .int .u8 (a2.toNat : Nat), .int .u8 (a3.toNat : Nat), .int .u8 (a4.toNat : Nat), .int .u8 (a5.toNat : Nat), .int .u8 (a6.toNat : Nat), .int .u8 (a7.toNat : Nat), .int .u8 (a8.toNat : Nat), .int .u8 (a9.toNat : Nat), .int .u8 (aA.toNat : Nat), .int .u8 (aB.toNat : Nat), .int .u8 (aC.toNat : Nat), .int .u8 (aD.toNat : Nat), .int .u8 (aE.toNat : Nat), .int .u8 (aF.toNat : Nat), nv] 30 (0, 0)) := by rw [<- hW0]; exact (heap_alloc_old _ _ (by simp)).trans (heap_alloc_new w _)
  have hbr : W0.heap[w.heap.size + 1]? = some (.cells #[.int .u8 0, .int .u8 0, .int .u8 0, .int .u8 0, .int .u8 0, .int .u8 0, .int .u8 0, .int .u8 0, .int .u8 0, .int .u8 0, .int .u8 0, .int .u8 0, .int .u8 0, .int .u8 0, .int .u8 0, .int .u8 0, .nilIface] 30 (0, 0)) := by rw [<- hW0]; have := heap_alloc_new (w.alloc (.cells #[.int .u8 (a0.toNat : Nat), .int .u8 (a1.toNat : Nat), .int .u8 (a2.toNat : Nat), .int .u8 (a3.toNat : Nat), .int .u8 (a4.toNat : Nat), .int .u8 (a5.toNat : Nat), .int .u8 (a6.toNat : Nat), .int .u8 (a7.toNat : Nat), .int .u8 (a8.toNat : Nat), .int .u8 (a9.toNat : Nat), .int .u8 (aA.toNat : Nat), .int .u8 (aB.toNat : Nat), .int .u8 (aC.toNat : Nat), .int .u8 (aD.toNat : Nat), .int .u8 (aE.toNat : Nat), .int .u8 (aF.toNat : Nat), nv] 30)) (.cells #[.int .u8 0, .int .u8 0, .int .u8 0, .int .u8 0, .int .u8 0, .int .u8 0, .int .u8 0, .int .u8 0, .int .u8 0, .int .u8 0, .int .u8 0, .int .u8 0, .int .u8 0, .int .u8 0, .int .u8 0, .int .u8 0, .nilIface] 30); simpa using this
  have hwm : ∀ k, w.heap.size <= k -> some k ≠ mb := fun k hk e => by have := HML.out k e.symm; omega
  have SB : Hid (∀ W, Turns W0 W mb -> W.heap[w.heap.size]? = some (.cells #[.int .u8 (a0.toNat : Nat), .int .u8 (a1.toNat : Nat), .int .u8 (a2.toNat : Nat), .int .u8 (a3.toNat : Nat), .int .u8 (a4.toNat : Nat), .int .u8 (a5.toNat : Nat), .int .u8 (a6.toNat : Nat), .int .u8 (a7.toNat : Nat), .int .u8 (a8.toNat : Nat), .int .u8 (a9.toNat : Nat), .int .u8 (aA.toNat : Nat), .int .u8 (aB.toNat : Nat), .int .u8 (aC.toNat : Nat), .int .u8 (aD.toNat : Nat), .int .u8 (aE.toNat : Nat), .int .u8 (aF.toNat : Nat), nv] 30 (0, 0)) /\ W.heap[w.heap.size + 1]? = some (.cells #[.int .u8 0, .int .u8 0, .int .u8 0, .int .u8 0, .int .u8 0, .int .u8 0, .int .u8 0, .int .u8 0, .int .u8 0, .int .u8 0, .int .u8 0, .int .u8 0, .int .u8 0, .int .u8 0, .int .u8 0, .int .u8 0, .nilIface] 30 (0, 0))) := Lib.hid fun W hW => ⟨(hW.block w.heap.size (by omega) (hwm _ (Nat.le_refl _))).trans hb0, (hW.block (w.heap.size + 1) (by omega) (hwm _ (by omega))).trans hbr⟩
  have SK : Hid (∀ W, Turns W0 W mb -> W.rangeAt w.heap.size 0 [.int .u8 (a0.toNat : Nat), .int .u8 (a1.toNat : Nat), .int .u8 (a2.toNat : Nat), .int .u8 (a3.toNat : Nat), .int .u8 (a4.toNat : Nat), .int .u8 (a5.toNat : Nat), .int .u8 (a6.toNat : Nat), .int .u8 (a7.toNat : Nat), .int .u8 (a8.toNat : Nat), .int .u8 (a9.toNat : Nat), .int .u8 (aA.toNat : Nat), .int .u8 (aB.toNat : Nat), .int .u8 (aC.toNat : Nat), .int .u8 (aD.toNat : Nat), .int .u8 (aE.toNat : Nat), .int .u8 (aF.toNat : Nat)] /\ W.cell? ⟨w.heap.size, 16, none⟩ = some nv) := Lib.hid fun W hW => ⟨rng_of (tri_of (SB.out W hW).1), (tri_of (SB.out W hW).1).2.2.2.2.2.2.2.2.2.2.2.2.2.2.2.2⟩
  have HB0 := Lib.hid hB0
  have HS0 : Hid (w.heap.size + 1 < W0.heap.size) := Lib.hid (by omega)
  have HFO : Hid (∀ (W : World) (cs : List Value), Moves okf ok W (W.setCells (w.heap.size + 1) 0 cs)) := Lib.hid fun W cs k hk _ => by rw [hokf] at hk; exact ⟨hk.1, World.other_setCells hk.2 cs 0 W⟩
  clear hB0 hb0 hbr hwm hs0 hs hm hn hL h1 hp hme hokm hokb hmt hok hT hS hc hF hwo hfm hfs hokf hs16 hsv htv HSN HTRV
  rcases hnf with rfl | ⟨tn, bn, rfl⟩
  ·
    go_enter Tryz.func18, Tryz.ntmps18
    go_wp2_with fail
    go_region_held3 (fun W => W.rangeAt w.heap.size 0 [.int .u8 (a0.toNat : Nat), .int .u8 (a1.toNat : Nat), .int .u8 (a2.toNat : Nat), .int .u8 (a3.toNat : Nat), .int .u8 (a4.toNat : Nat), .int .u8 (a5.toNat : Nat), .int .u8 (a6.toNat : Nat), .int .u8 (a7.toNat : Nat), .int .u8 (a8.toNat : Nat), .int .u8 (a9.toNat : Nat), .int .u8 (aA.toNat : Nat), .int .u8 (aB.toNat : Nat), .int .u8 (aC.toNat : Nat), .int .u8 (aD.toNat : Nat), .int .u8 (aE.toNat : Nat), .int .u8 (aF.toNat : Nat)] /\ W.cell? ⟨w.heap.size, 16, none⟩ = some .nilIface)
      (first | with_reducible exact SK.out _ hT2 | with_reducible exact SK.out _ hT1 | with_reducible exact SK.out _ (Turns.of_below _ (by exact gB3)))
      ((first
        | (go_at_call 40; (with_reducible refine (CH.out _ (HB0.out.trans (Below.mono (by exact gB3) HB0.out.size))).mono ?_); rintro e w1 ⟨rfl, hb1'⟩; have hb1 : Below W0.heap.size W0 w1 := Below.trans (by exact gB3) (hb1'.mono (by simp)); have hT1 : Turns W0 w1 mb := Turns.of_below _ hb1)
        | (go_at_call 39; (with_reducible refine (CP.out _ (HB0.out.trans (hb1.mono HB0.out.size)) (Nat.lt_of_lt_of_le HS0.out hb1.size)).mono ?_); rintro e w2 ⟨nv2, rfl, hn2, hm2, ht2⟩; have hT2 : Turns W0 w2 mb := hT1.trans ht2)))
    have HR2 := Lib.hid (rng_of (tri_of (SB.out w2 hT2).1))
    have HTH := Lib.hid (there_of (SB.out w2 hT2).2 (n := 17) rfl)
    obtain ⟨o2, ho2⟩ : ∃ o2, ONodeAt nt okf w2 nv2 o2 /\ Bw.OLays 0 o2 (Bw.ents (Bw.sipHash s) (Bw.without m k)) /\ (Bw.cutO 13 o (Bw.sipHash s k) k 0).isSome = (Bw.get m k).isSome := by
      cases hr : Bw.cutO 13 o (Bw.sipHash s k) k 0 with
      | none =>
        rw [hr] at hn2
        have he : nv2 = .nilIface := hn2
        obtain ⟨h1, h2⟩ := HCE.out.1 hr
        exact ⟨o, by rw [he]; exact HNO.out w2 ((Turns.of_below _ HB0.out).trans hT2), by rw [h2]; exact HL.out, by rw [h1]; rfl⟩
      | some o' =>
        rw [hr] at hn2
        obtain ⟨h1, h2⟩ := HCE.out.2 o' hr
        exact ⟨o', hn2, h2, by rw [h1]; rfl⟩
    obtain ⟨hon, hol, hoe⟩ := ho2
    have HFM := onode_form hon
    have HON := Lib.hid hon; have HOL := Lib.hid hol; have HOE := Lib.hid hoe
    clear hon hol hoe
    rcases HFM with rfl | ⟨t9, b9, rfl⟩
    ·
      obtain ⟨WS, hWS⟩ : ∃ WS, w2.setCells (w.heap.size + 1) 0 [.int .u8 (a0.toNat : Nat), .int .u8 (a1.toNat : Nat), .int .u8 (a2.toNat : Nat), .int .u8 (a3.toNat : Nat), .int .u8 (a4.toNat : Nat), .int .u8 (a5.toNat : Nat), .int .u8 (a6.toNat : Nat), .int .u8 (a7.toNat : Nat), .int .u8 (a8.toNat : Nat), .int .u8 (a9.toNat : Nat), .int .u8 (aA.toNat : Nat), .int .u8 (aB.toNat : Nat), .int .u8 (aC.toNat : Nat), .int .u8 (aD.toNat : Nat), .int .u8 (aE.toNat : Nat), .int .u8 (aF.toNat : Nat), .nilIface] = WS := ⟨_, rfl⟩
      have hbX : Below w.heap.size w2 WS := by rw [<- hWS]; exact World.below_setCells (by omega) _ _ _ (Below.refl _ _)
      have hTX : WS.rangeAt (w.heap.size + 1) 0 [.int .u8 (a0.toNat : Nat), .int .u8 (a1.toNat : Nat), .int .u8 (a2.toNat : Nat), .int .u8 (a3.toNat : Nat), .int .u8 (a4.toNat : Nat), .int .u8 (a5.toNat : Nat), .int .u8 (a6.toNat : Nat), .int .u8 (a7.toNat : Nat), .int .u8 (a8.toNat : Nat), .int .u8 (a9.toNat : Nat), .int .u8 (aA.toNat : Nat), .int .u8 (aB.toNat : Nat), .int .u8 (aC.toNat : Nat), .int .u8 (aD.toNat : Nat), .int .u8 (aE.toNat : Nat), .int .u8 (aF.toNat : Nat), .nilIface] := by rw [<- hWS]; exact World.rangeAt_setCells_same _ _ _ _ HTH.out
      have hmv : Moves okf ok w2 WS := by rw [<- hWS]; exact HFO.out w2 _
      have HWS := Lib.hid hWS
      have hT2w : Turns w w2 mb := (Turns.of_below _ HB0.out).trans hT2
      have HX := Lib.hid hT2w; have HBX := Lib.hid hbX; have HTX := Lib.hid hTX; have HMV := Lib.hid hmv
      clear hWS hbX hTX hmv hT2w
      go_wp2_with (first
        | (refine wpList_load_mid (P := Tryz.prog) rfl 23 (.tmp 22) rfl w.heap.size 0 rfl [.int .u8 (a0.toNat : Nat), .int .u8 (a1.toNat : Nat), .int .u8 (a2.toNat : Nat), .int .u8 (a3.toNat : Nat), .int .u8 (a4.toNat : Nat), .int .u8 (a5.toNat : Nat), .int .u8 (a6.toNat : Nat), .int .u8 (a7.toNat : Nat), .int .u8 (a8.toNat : Nat), .int .u8 (a9.toNat : Nat), .int .u8 (aA.toNat : Nat), .int .u8 (aB.toNat : Nat), .int .u8 (aC.toNat : Nat), .int .u8 (aD.toNat : Nat), .int .u8 (aE.toNat : Nat), .int .u8 (aF.toNat : Nat)] _ HR2.out Tryz.underlying23 rfl (rng_len a0 a1 a2 a3 a4 a5 a6 a7 a8 a9 aA aB aC aD aE aF) ?_; simp only [Act.put, List.setIfInBounds_toArray, List.set_cons_zero, List.set_cons_succ])
        | (refine wpList_store_mid (P := Tryz.prog) rfl 30 (.tmp 6) (.tmp 25) rfl (w.heap.size + 1) 0 #[.int .u8 (a0.toNat : Nat), .int .u8 (a1.toNat : Nat), .int .u8 (a2.toNat : Nat), .int .u8 (a3.toNat : Nat), .int .u8 (a4.toNat : Nat), .int .u8 (a5.toNat : Nat), .int .u8 (a6.toNat : Nat), .int .u8 (a7.toNat : Nat), .int .u8 (a8.toNat : Nat), .int .u8 (a9.toNat : Nat), .int .u8 (aA.toNat : Nat), .int .u8 (aB.toNat : Nat), .int .u8 (aC.toNat : Nat), .int .u8 (aD.toNat : Nat), .int .u8 (aE.toNat : Nat), .int .u8 (aF.toNat : Nat), .nilIface] rfl rfl HTH.out trie_size (one17 a0 a1 a2 a3 a4 a5 a6 a7 a8 a9 aA aB aC aD aE aF rfl) ?_; simp only [HWS.out, Act.put]))
      exact bodyPost_ret (results_row2 (cs := [.int .u8 (a0.toNat : Nat), .int .u8 (a1.toNat : Nat), .int .u8 (a2.toNat : Nat), .int .u8 (a3.toNat : Nat), .int .u8 (a4.toNat : Nat), .int .u8 (a5.toNat : Nat), .int .u8 (a6.toNat : Nat), .int .u8 (a7.toNat : Nat), .int .u8 (a8.toNat : Nat), .int .u8 (a9.toNat : Nat), .int .u8 (aA.toNat : Nat), .int .u8 (aB.toNat : Nat), .int .u8 (aC.toNat : Nat), .int .u8 (aD.toNat : Nat), .int .u8 (aE.toNat : Nat), .int .u8 (aF.toNat : Nat), .nilIface]) rfl _ rfl HTX.out Tryz.underlying30 rfl (trie_len a0 a1 a2 a3 a4 a5 a6 a7 a8 a9 aA aB aC aD aE aF _)) rfl ⟨_, o2, by rw [HTV.out, <- HOE.out]; rfl, HON.out.move HMV.out, HOL.out, hm2.belowN HML.out HBX.out, Turns.after HX.out HBX.out⟩
    ·
      obtain ⟨WS, hWS⟩ : ∃ WS, w2.setCells (w.heap.size + 1) 0 [.int .u8 (a0.toNat : Nat), .int .u8 (a1.toNat : Nat), .int .u8 (a2.toNat : Nat), .int .u8 (a3.toNat : Nat), .int .u8 (a4.toNat : Nat), .int .u8 (a5.toNat : Nat), .int .u8 (a6.toNat : Nat), .int .u8 (a7.toNat : Nat), .int .u8 (a8.toNat : Nat), .int .u8 (a9.toNat : Nat), .int .u8 (aA.toNat : Nat), .int .u8 (aB.toNat : Nat), .int .u8 (aC.toNat : Nat), .int .u8 (aD.toNat : Nat), .int .u8 (aE.toNat : Nat), .int .u8 (aF.toNat : Nat), (.iface t9 (.pointer (some ⟨b9, 0, none⟩)))] = WS := ⟨_, rfl⟩
      have hbX : Below w.heap.size w2 WS := by rw [<- hWS]; exact World.below_setCells (by omega) _ _ _ (Below.refl _ _)
      have hTX : WS.rangeAt (w.heap.size + 1) 0 [.int .u8 (a0.toNat : Nat), .int .u8 (a1.toNat : Nat), .int .u8 (a2.toNat : Nat), .int .u8 (a3.toNat : Nat), .int .u8 (a4.toNat : Nat), .int .u8 (a5.toNat : Nat), .int .u8 (a6.toNat : Nat), .int .u8 (a7.toNat : Nat), .int .u8 (a8.toNat : Nat), .int .u8 (a9.toNat : Nat), .int .u8 (aA.toNat : Nat), .int .u8 (aB.toNat : Nat), .int .u8 (aC.toNat : Nat), .int .u8 (aD.toNat : Nat), .int .u8 (aE.toNat : Nat), .int .u8 (aF.toNat : Nat), (.iface t9 (.pointer (some ⟨b9, 0, none⟩)))] := by rw [<- hWS]; exact World.rangeAt_setCells_same _ _ _ _ HTH.out
      have hmv : Moves okf ok w2 WS := by rw [<- hWS]; exact HFO.out w2 _
      have HWS := Lib.hid hWS
      have hT2w : Turns w w2 mb := (Turns.of_below _ HB0.out).trans hT2
      have HX := Lib.hid hT2w; have HBX := Lib.hid hbX; have HTX := Lib.hid hTX; have HMV := Lib.hid hmv
      clear hWS hbX hTX hmv hT2w
      go_wp2_with (first
        | (refine wpList_load_mid (P := Tryz.prog) rfl 23 (.tmp 22) rfl w.heap.size 0 rfl [.int .u8 (a0.toNat : Nat), .int .u8 (a1.toNat : Nat), .int .u8 (a2.toNat : Nat), .int .u8 (a3.toNat : Nat), .int .u8 (a4.toNat : Nat), .int .u8 (a5.toNat : Nat), .int .u8 (a6.toNat : Nat), .int .u8 (a7.toNat : Nat), .int .u8 (a8.toNat : Nat), .int .u8 (a9.toNat : Nat), .int .u8 (aA.toNat : Nat), .int .u8 (aB.toNat : Nat), .int .u8 (aC.toNat : Nat), .int .u8 (aD.toNat : Nat), .int .u8 (aE.toNat : Nat), .int .u8 (aF.toNat : Nat)] _ HR2.out Tryz.underlying23 rfl (rng_len a0 a1 a2 a3 a4 a5 a6 a7 a8 a9 aA aB aC aD aE aF) ?_; simp only [Act.put, List.setIfInBounds_toArray, List.set_cons_zero, List.set_cons_succ])
        | (refine wpList_store_mid (P := Tryz.prog) rfl 30 (.tmp 6) (.tmp 25) rfl (w.heap.size + 1) 0 #[.int .u8 (a0.toNat : Nat), .int .u8 (a1.toNat : Nat), .int .u8 (a2.toNat : Nat), .int .u8 (a3.toNat : Nat), .int .u8 (a4.toNat : Nat), .int .u8 (a5.toNat : Nat), .int .u8 (a6.toNat : Nat), .int .u8 (a7.toNat : Nat), .int .u8 (a8.toNat : Nat), .int .u8 (a9.toNat : Nat), .int .u8 (aA.toNat : Nat), .int .u8 (aB.toNat : Nat), .int .u8 (aC.toNat : Nat), .int .u8 (aD.toNat : Nat), .int .u8 (aE.toNat : Nat), .int .u8 (aF.toNat : Nat), (.iface t9 (.pointer (some ⟨b9, 0, none⟩)))] rfl rfl HTH.out trie_size (one17 a0 a1 a2 a3 a4 a5 a6 a7 a8 a9 aA aB aC aD aE aF rfl) ?_; simp only [HWS.out, Act.put]))
      exact bodyPost_ret (results_row2 (cs := [.int .u8 (a0.toNat : Nat), .int .u8 (a1.toNat : Nat), .int .u8 (a2.toNat : Nat), .int .u8 (a3.toNat : Nat), .int .u8 (a4.toNat : Nat), .int .u8 (a5.toNat : Nat), .int .u8 (a6.toNat : Nat), .int .u8 (a7.toNat : Nat), .int .u8 (a8.toNat : Nat), .int .u8 (a9.toNat : Nat), .int .u8 (aA.toNat : Nat), .int .u8 (aB.toNat : Nat), .int .u8 (aC.toNat : Nat), .int .u8 (aD.toNat : Nat), .int .u8 (aE.toNat : Nat), .int .u8 (aF.toNat : Nat), (.iface t9 (.pointer (some ⟨b9, 0, none⟩)))]) rfl _ rfl HTX.out Tryz.underlying30 rfl (trie_len a0 a1 a2 a3 a4 a5 a6 a7 a8 a9 aA aB aC aD aE aF _)) rfl ⟨_, o2, by rw [HTV.out, <- HOE.out]; rfl, HON.out.move HMV.out, HOL.out, hm2.belowN HML.out HBX.out, Turns.after HX.out HBX.out⟩
  ·
    go_enter Tryz.func18, Tryz.ntmps18
    go_wp2_with fail
    go_region_held3 (fun W => W.rangeAt w.heap.size 0 [.int .u8 (a0.toNat : Nat), .int .u8 (a1.toNat : Nat), .int .u8 (a2.toNat : Nat), .int .u8 (a3.toNat : Nat), .int .u8 (a4.toNat : Nat), .int .u8 (a5.toNat : Nat), .int .u8 (a6.toNat : Nat), .int .u8 (a7.toNat : Nat), .int .u8 (a8.toNat : Nat), .int .u8 (a9.toNat : Nat), .int .u8 (aA.toNat : Nat), .int .u8 (aB.toNat : Nat), .int .u8 (aC.toNat : Nat), .int .u8 (aD.toNat : Nat), .int .u8 (aE.toNat : Nat), .int .u8 (aF.toNat : Nat)] /\ W.cell? ⟨w.heap.size, 16, none⟩ = some (.iface tn (.pointer (some ⟨bn, 0, none⟩))))
      (first | with_reducible exact SK.out _ hT2 | with_reducible exact SK.out _ hT1 | with_reducible exact SK.out _ (Turns.of_below _ (by exact gB3)))
      ((first
        | (go_at_call 40; (with_reducible refine (CH.out _ (HB0.out.trans (Below.mono (by exact gB3) HB0.out.size))).mono ?_); rintro e w1 ⟨rfl, hb1'⟩; have hb1 : Below W0.heap.size W0 w1 := Below.trans (by exact gB3) (hb1'.mono (by simp)); have hT1 : Turns W0 w1 mb := Turns.of_below _ hb1)
        | (go_at_call 39; (with_reducible refine (CP.out _ (HB0.out.trans (hb1.mono HB0.out.size)) (Nat.lt_of_lt_of_le HS0.out hb1.size)).mono ?_); rintro e w2 ⟨nv2, rfl, hn2, hm2, ht2⟩; have hT2 : Turns W0 w2 mb := hT1.trans ht2)))
    have HR2 := Lib.hid (rng_of (tri_of (SB.out w2 hT2).1))
    have HTH := Lib.hid (there_of (SB.out w2 hT2).2 (n := 17) rfl)
    obtain ⟨o2, ho2⟩ : ∃ o2, ONodeAt nt okf w2 nv2 o2 /\ Bw.OLays 0 o2 (Bw.ents (Bw.sipHash s) (Bw.without m k)) /\ (Bw.cutO 13 o (Bw.sipHash s k) k 0).isSome = (Bw.get m k).isSome := by
      cases hr : Bw.cutO 13 o (Bw.sipHash s k) k 0 with
      | none =>
        rw [hr] at hn2
        have he : nv2 = .iface tn (.pointer (some ⟨bn, 0, none⟩)) := hn2
        obtain ⟨h1, h2⟩ := HCE.out.1 hr
        exact ⟨o, by rw [he]; exact HNO.out w2 ((Turns.of_below _ HB0.out).trans hT2), by rw [h2]; exact HL.out, by rw [h1]; rfl⟩
      | some o' =>
        rw [hr] at hn2
        obtain ⟨h1, h2⟩ := HCE.out.2 o' hr
        exact ⟨o', hn2, h2, by rw [h1]; rfl⟩
    obtain ⟨hon, hol, hoe⟩ := ho2
    have HFM := onode_form hon
    have HON := Lib.hid hon; have HOL := Lib.hid hol; have HOE := Lib.hid hoe
    clear hon hol hoe
    rcases HFM with rfl | ⟨t9, b9, rfl⟩
    ·
      obtain ⟨WS, hWS⟩ : ∃ WS, w2.setCells (w.heap.size + 1) 0 [.int .u8 (a0.toNat : Nat), .int .u8 (a1.toNat : Nat), .int .u8 (a2.toNat : Nat), .int .u8 (a3.toNat : Nat), .int .u8 (a4.toNat : Nat), .int .u8 (a5.toNat : Nat), .int .u8 (a6.toNat : Nat), .int .u8 (a7.toNat : Nat), .int .u8 (a8.toNat : Nat), .int .u8 (a9.toNat : Nat), .int .u8 (aA.toNat : Nat), .int .u8 (aB.toNat : Nat), .int .u8 (aC.toNat : Nat), .int .u8 (aD.toNat : Nat), .int .u8 (aE.toNat : Nat), .int .u8 (aF.toNat : Nat), .nilIface] = WS := ⟨_, rfl⟩
      have hbX : Below w.heap.size w2 WS := by rw [<- hWS]; exact World.below_setCells (by omega) _ _ _ (Below.refl _ _)
      have hTX : WS.rangeAt (w.heap.size + 1) 0 [.int .u8 (a0.toNat : Nat), .int .u8 (a1.toNat : Nat), .int .u8 (a2.toNat : Nat), .int .u8 (a3.toNat : Nat), .int .u8 (a4.toNat : Nat), .int .u8 (a5.toNat : Nat), .int .u8 (a6.toNat : Nat), .int .u8 (a7.toNat : Nat), .int .u8 (a8.toNat : Nat), .int .u8 (a9.toNat : Nat), .int .u8 (aA.toNat : Nat), .int .u8 (aB.toNat : Nat), .int .u8 (aC.toNat : Nat), .int .u8 (aD.toNat : Nat), .int .u8 (aE.toNat : Nat), .int .u8 (aF.toNat : Nat), .nilIface] := by rw [<- hWS]; exact World.rangeAt_setCells_same _ _ _ _ HTH.out
      have hmv : Moves okf ok w2 WS := by rw [<- hWS]; exact HFO.out w2 _
      have HWS := Lib.hid hWS
      have hT2w : Turns w w2 mb := (Turns.of_below _ HB0.out).trans hT2
      have HX := Lib.hid hT2w; have HBX := Lib.hid hbX; have HTX := Lib.hid hTX; have HMV := Lib.hid hmv
      clear hWS hbX hTX hmv hT2w
      go_wp2_with (first
        | (refine wpList_load_mid (P := Tryz.prog) rfl 23 (.tmp 22) rfl w.heap.size 0 rfl [.int .u8 (a0.toNat : Nat), .int .u8 (a1.toNat : Nat), .int .u8 (a2.toNat : Nat), .int .u8 (a3.toNat : Nat), .int .u8 (a4.toNat : Nat), .int .u8 (a5.toNat : Nat), .int .u8 (a6.toNat : Nat), .int .u8 (a7.toNat : Nat), .int .u8 (a8.toNat : Nat), .int .u8 (a9.toNat : Nat), .int .u8 (aA.toNat : Nat), .int .u8 (aB.toNat : Nat), .int .u8 (aC.toNat : Nat), .int .u8 (aD.toNat : Nat), .int .u8 (aE.toNat : Nat), .int .u8 (aF.toNat : Nat)] _ HR2.out Tryz.underlying23 rfl (rng_len a0 a1 a2 a3 a4 a5 a6 a7 a8 a9 aA aB aC aD aE aF) ?_; simp only [Act.put, List.setIfInBounds_toArray, List.set_cons_zero, List.set_cons_succ])
        | (refine wpList_store_mid (P := Tryz.prog) rfl 30 (.tmp 6) (.tmp 25) rfl (w.heap.size + 1) 0 #[.int .u8 (a0.toNat : Nat), .int .u8 (a1.toNat : Nat), .int .u8 (a2.toNat : Nat), .int .u8 (a3.toNat : Nat), .int .u8 (a4.toNat : Nat), .int .u8 (a5.toNat : Nat), .int .u8 (a6.toNat : Nat), .int .u8 (a7.toNat : Nat), .int .u8 (a8.toNat : Nat), .int .u8 (a9.toNat : Nat), .int .u8 (aA.toNat : Nat), .int .u8 (aB.toNat : Nat), .int .u8 (aC.toNat : Nat), .int .u8 (aD.toNat : Nat), .int .u8 (aE.toNat : Nat), .int .u8 (aF.toNat : Nat), .nilIface] rfl rfl HTH.out trie_size (one17 a0 a1 a2 a3 a4 a5 a6 a7 a8 a9 aA aB aC aD aE aF rfl) ?_; simp only [HWS.out, Act.put]))
      exact bodyPost_ret (results_row2 (cs := [.int .u8 (a0.toNat : Nat), .int .u8 (a1.toNat : Nat), .int .u8 (a2.toNat : Nat), .int .u8 (a3.toNat : Nat), .int .u8 (a4.toNat : Nat), .int .u8 (a5.toNat : Nat), .int .u8 (a6.toNat : Nat), .int .u8 (a7.toNat : Nat), .int .u8 (a8.toNat : Nat), .int .u8 (a9.toNat : Nat), .int .u8 (aA.toNat : Nat), .int .u8 (aB.toNat : Nat), .int .u8 (aC.toNat : Nat), .int .u8 (aD.toNat : Nat), .int .u8 (aE.toNat : Nat), .int .u8 (aF.toNat : Nat), .nilIface]) rfl _ rfl HTX.out Tryz.underlying30 rfl (trie_len a0 a1 a2 a3 a4 a5 a6 a7 a8 a9 aA aB aC aD aE aF _)) rfl ⟨_, o2, by rw [HTV.out, <- HOE.out]; rfl, HON.out.move HMV.out, HOL.out, hm2.belowN HML.out HBX.out, Turns.after HX.out HBX.out⟩
    ·
      obtain ⟨WS, hWS⟩ : ∃ WS, w2.setCells (w.heap.size + 1) 0 [.int .u8 (a0.toNat : Nat), .int .u8 (a1.toNat : Nat), .int .u8 (a2.toNat : Nat), .int .u8 (a3.toNat : Nat), .int .u8 (a4.toNat : Nat), .int .u8 (a5.toNat : Nat), .int .u8 (a6.toNat : Nat), .int .u8 (a7.toNat : Nat), .int .u8 (a8.toNat : Nat), .int .u8 (a9.toNat : Nat), .int .u8 (aA.toNat : Nat), .int .u8 (aB.toNat : Nat), .int .u8 (aC.toNat : Nat), .int .u8 (aD.toNat : Nat), .int .u8 (aE.toNat : Nat), .int .u8 (aF.toNat : Nat), (.iface t9 (.pointer (some ⟨b9, 0, none⟩)))] = WS := ⟨_, rfl⟩
      have hbX : Below w.heap.size w2 WS := by rw [<- hWS]; exact World.below_setCells (by omega) _ _ _ (Below.refl _ _)
      have hTX : WS.rangeAt (w.heap.size + 1) 0 [.int .u8 (a0.toNat : Nat), .int .u8 (a1.toNat : Nat), .int .u8 (a2.toNat : Nat), .int .u8 (a3.toNat : Nat), .int .u8 (a4.toNat : Nat), .int .u8 (a5.toNat : Nat), .int .u8 (a6.toNat : Nat), .int .u8 (a7.toNat : Nat), .int .u8 (a8.toNat : Nat), .int .u8 (a9.toNat : Nat), .int .u8 (aA.toNat : Nat), .int .u8 (aB.toNat : Nat), .int .u8 (aC.toNat : Nat), .int .u8 (aD.toNat : Nat), .int .u8 (aE.toNat : Nat), .int .u8 (aF.toNat : Nat), (.iface t9 (.pointer (some ⟨b9, 0, none⟩)))] := by rw [<- hWS]; exact World.rangeAt_setCells_same _ _ _ _ HTH.out
      have hmv : Moves okf ok w2 WS := by rw [<- hWS]; exact HFO.out w2 _
      have HWS := Lib.hid hWS
      have hT2w : Turns w w2 mb := (Turns.of_below _ HB0.out).trans hT2
      have HX := Lib.hid hT2w; have HBX := Lib.hid hbX; have HTX := Lib.hid hTX; have HMV := Lib.hid hmv
      clear hWS hbX hTX hmv hT2w
      go_wp2_with (first
        | (refine wpList_load_mid (P := Tryz.prog) rfl 23 (.tmp 22) rfl w.heap.size 0 rfl [.int .u8 (a0.toNat : Nat), .int .u8 (a1.toNat : Nat), .int .u8 (a2.toNat : Nat), .int .u8 (a3.toNat : Nat), .int .u8 (a4.toNat : Nat), .int .u8 (a5.toNat : Nat), .int .u8 (a6.toNat : Nat), .int .u8 (a7.toNat : Nat), .int .u8 (a8.toNat : Nat), .int .u8 (a9.toNat : Nat), .int .u8 (aA.toNat : Nat), .int .u8 (aB.toNat : Nat), .int .u8 (aC.toNat : Nat), .int .u8 (aD.toNat : Nat), .int .u8 (aE.toNat : Nat), .int .u8 (aF.toNat : Nat)] _ HR2.out Tryz.underlying23 rfl (rng_len a0 a1 a2 a3 a4 a5 a6 a7 a8 a9 aA aB aC aD aE aF) ?_; simp only [Act.put, List.setIfInBounds_toArray, List.set_cons_zero, List.set_cons_succ])
        | (refine wpList_store_mid (P := Tryz.prog) rfl 30 (.tmp 6) (.tmp 25) rfl (w.heap.size + 1) 0 #[.int .u8 (a0.toNat : Nat), .int .u8 (a1.toNat : Nat), .int .u8 (a2.toNat : Nat), .int .u8 (a3.toNat : Nat), .int .u8 (a4.toNat : Nat), .int .u8 (a5.toNat : Nat), .int .u8 (a6.toNat : Nat), .int .u8 (a7.toNat : Nat), .int .u8 (a8.toNat : Nat), .int .u8 (a9.toNat : Nat), .int .u8 (aA.toNat : Nat), .int .u8 (aB.toNat : Nat), .int .u8 (aC.toNat : Nat), .int .u8 (aD.toNat : Nat), .int .u8 (aE.toNat : Nat), .int .u8 (aF.toNat : Nat), (.iface t9 (.pointer (some ⟨b9, 0, none⟩)))] rfl rfl HTH.out trie_size (one17 a0 a1 a2 a3 a4 a5 a6 a7 a8 a9 aA aB aC aD aE aF rfl) ?_; simp only [HWS.out, Act.put]))
      exact bodyPost_ret (results_row2 (cs := [.int .u8 (a0.toNat : Nat), .int .u8 (a1.toNat : Nat), .int .u8 (a2.toNat : Nat), .int .u8 (a3.toNat : Nat), .int .u8 (a4.toNat : Nat), .int .u8 (a5.toNat : Nat), .int .u8 (a6.toNat : Nat), .int .u8 (a7.toNat : Nat), .int .u8 (a8.toNat : Nat), .int .u8 (a9.toNat : Nat), .int .u8 (aA.toNat : Nat), .int .u8 (aB.toNat : Nat), .int .u8 (aC.toNat : Nat), .int .u8 (aD.toNat : Nat), .int .u8 (aE.toNat : Nat), .int .u8 (aF.toNat : Nat), (.iface t9 (.pointer (some ⟨b9, 0, none⟩)))]) rfl _ rfl HTX.out Tryz.underlying30 rfl (trie_len a0 a1 a2 a3 a4 a5 a6 a7 a8 a9 aA aB aC aD aE aF _)) rfl ⟨_, o2, by rw [HTV.out, <- HOE.out]; rfl, HON.out.move HMV.out, HOL.out, hm2.belowN HML.out HBX.out, Turns.after HX.out HBX.out⟩
end Go.Proofs.YtadaoceidkagfaaGreatDoor
/- trie.Seed. -/
namespace Go.Proofs.YtadaoceidkagfaaGreatDoor
open Go.RowKit Go.Bw
theorem one16 (a0 a1 a2 a3 a4 a5 a6 a7 a8 a9 aA aB aC aD aE aF : UInt8) : (#[.int .u8 (a0.toNat : Nat), .int .u8 (a1.toNat : Nat), .int .u8 (a2.toNat : Nat), .int .u8 (a3.toNat : Nat), .int .u8 (a4.toNat : Nat), .int .u8 (a5.toNat : Nat), .int .u8 (a6.toNat : Nat), .int .u8 (a7.toNat : Nat), .int .u8 (a8.toNat : Nat), .int .u8 (a9.toNat : Nat), .int .u8 (aA.toNat : Nat), .int .u8 (aB.toNat : Nat), .int .u8 (aC.toNat : Nat), .int .u8 (aD.toNat : Nat), .int .u8 (aE.toNat : Nat), .int .u8 (aF.toNat : Nat)] : Array Value).all (·.oneCell') = true :=
  all_oneCell_toArray (cs := [.int .u8 (a0.toNat : Nat), .int .u8 (a1.toNat : Nat), .int .u8 (a2.toNat : Nat), .int .u8 (a3.toNat : Nat), .int .u8 (a4.toNat : Nat), .int .u8 (a5.toNat : Nat), .int .u8 (a6.toNat : Nat), .int .u8 (a7.toNat : Nat), .int .u8 (a8.toNat : Nat), .int .u8 (a9.toNat : Nat), .int .u8 (aA.toNat : Nat), .int .u8 (aB.toNat : Nat), .int .u8 (aC.toNat : Nat), .int .u8 (aD.toNat : Nat), .int .u8 (aE.toNat : Nat), .int .u8 (aF.toNat : Nat)]) (by simp [Value.oneCell'])
set_option maxRecDepth 100000 in
set_option maxHeartbeats 2000000 in
theorem tseed_any {s : List UInt8} {nv : Value} (hs : s.length = 16) (w : World) : Calls Tryz.prog 21 #[trieV s nv] w fun e w' => e = .returned (seedV s) /\ Below w.heap.size w w' := by
  obtain ⟨a0, a1, a2, a3, a4, a5, a6, a7, a8, a9, aA, aB, aC, aD, aE, aF, hs16⟩ := mapE16 hs
  subst hs16
  simp only [seedV, trieV, List.map_cons, List.map_nil, List.cons_append, List.nil_append, encB]
  clear hs
  obtain ⟨W0, hW0⟩ : ∃ W0, (w.alloc (.cells #[.int .u8 (a0.toNat : Nat), .int .u8 (a1.toNat : Nat), .int .u8 (a2.toNat : Nat), .int .u8 (a3.toNat : Nat), .int .u8 (a4.toNat : Nat), .int .u8 (a5.toNat : Nat), .int .u8 (a6.toNat : Nat), .int .u8 (a7.toNat : Nat), .int .u8 (a8.toNat : Nat), .int .u8 (a9.toNat : Nat), .int .u8 (aA.toNat : Nat), .int .u8 (aB.toNat : Nat), .int .u8 (aC.toNat : Nat), .int .u8 (aD.toNat : Nat), .int .u8 (aE.toNat : Nat), .int .u8 (aF.toNat : Nat), nv] 30)).alloc (.cells #[.int .u8 0, .int .u8 0, .int .u8 0, .int .u8 0, .int .u8 0, .int .u8 0, .int .u8 0, .int .u8 0, .int .u8 0, .int .u8 0, .int .u8 0, .int .u8 0, .int .u8 0, .int .u8 0, .int .u8 0, .int .u8 0] 23) = W0 := ⟨_, rfl⟩
  have hb1 : W0.heap[w.heap.size]? = some (.cells #[.int .u8 (a0.toNat : Nat), .int .u8 (a1.toNat : Nat), .int .u8 (a2.toNat : Nat), .int .u8 (a3.toNat : Nat), .int .u8 (a4.toNat : Nat), .int .u8 (a5.toNat : Nat), .int .u8 (a6.toNat : Nat), .int .u8 (a7.toNat : Nat), .int .u8 (a8.toNat : Nat), .int .u8 (a9.toNat : Nat), .int .u8 (aA.toNat : Nat), .int .u8 (aB.toNat : Nat), .int .u8 (aC.toNat : Nat), .int .u8 (aD.toNat : Nat), .int .u8 (aE.toNat : Nat), .int .u8 (aF.toNat : Nat), nv] 30 (0, 0)) := by rw [<- hW0]; exact (heap_alloc_old _ _ (by simp)).trans (heap_alloc_new w _)
  have hb2 : W0.heap[w.heap.size + 1]? = some (.cells #[.int .u8 0, .int .u8 0, .int .u8 0, .int .u8 0, .int .u8 0, .int .u8 0, .int .u8 0, .int .u8 0, .int .u8 0, .int .u8 0, .int .u8 0, .int .u8 0, .int .u8 0, .int .u8 0, .int .u8 0, .int .u8 0] 23 (0, 0)) := by rw [<- hW0]; have := heap_alloc_new (w.alloc (.cells #[.int .u8 (a0.toNat : Nat), .int .u8 (a1.toNat : Nat), .int .u8 (a2.toNat : Nat), .int .u8 (a3.toNat : Nat), .int .u8 (a4.toNat : Nat), .int .u8 (a5.toNat : Nat), .int .u8 (a6.toNat : Nat), .int .u8 (a7.toNat : Nat), .int .u8 (a8.toNat : Nat), .int .u8 (a9.toNat : Nat), .int .u8 (aA.toNat : Nat), .int .u8 (aB.toNat : Nat), .int .u8 (aC.toNat : Nat), .int .u8 (aD.toNat : Nat), .int .u8 (aE.toNat : Nat), .int .u8 (aF.toNat : Nat), nv] 30)) (.cells #[.int .u8 0, .int .u8 0, .int .u8 0, .int .u8 0, .int .u8 0, .int .u8 0, .int .u8 0, .int .u8 0, .int .u8 0, .int .u8 0, .int .u8 0, .int .u8 0, .int .u8 0, .int .u8 0, .int .u8 0, .int .u8 0] 23); simpa using this
  have hB0 : Below w.heap.size w W0 := by rw [<- hW0]; exact gB3
  have HTH := Lib.hid (there_of hb2 rfl)
  have HR1 := Lib.hid (rng_of (tri_of hb1))
  obtain ⟨WS, hWS⟩ : ∃ WS, W0.setCells (w.heap.size + 1) 0 [.int .u8 (a0.toNat : Nat), .int .u8 (a1.toNat : Nat), .int .u8 (a2.toNat : Nat), .int .u8 (a3.toNat : Nat), .int .u8 (a4.toNat : Nat), .int .u8 (a5.toNat : Nat), .int .u8 (a6.toNat : Nat), .int .u8 (a7.toNat : Nat), .int .u8 (a8.toNat : Nat), .int .u8 (a9.toNat : Nat), .int .u8 (aA.toNat : Nat), .int .u8 (aB.toNat : Nat), .int .u8 (aC.toNat : Nat), .int .u8 (aD.toNat : Nat), .int .u8 (aE.toNat : Nat), .int .u8 (aF.toNat : Nat)] = WS := ⟨_, rfl⟩
  have HBX : Hid (Below w.heap.size w WS) := Lib.hid (by rw [<- hWS]; exact World.below_setCells (Nat.le_succ _) _ _ _ hB0)
  have HTX : Hid (WS.rangeAt (w.heap.size + 1) 0 [.int .u8 (a0.toNat : Nat), .int .u8 (a1.toNat : Nat), .int .u8 (a2.toNat : Nat), .int .u8 (a3.toNat : Nat), .int .u8 (a4.toNat : Nat), .int .u8 (a5.toNat : Nat), .int .u8 (a6.toNat : Nat), .int .u8 (a7.toNat : Nat), .int .u8 (a8.toNat : Nat), .int .u8 (a9.toNat : Nat), .int .u8 (aA.toNat : Nat), .int .u8 (aB.toNat : Nat), .int .u8 (aC.toNat : Nat), .int .u8 (aD.toNat : Nat), .int .u8 (aE.toNat : Nat), .int .u8 (aF.toNat : Nat)]) := Lib.hid (by rw [<- hWS]; exact World.rangeAt_setCells_same _ _ _ _ HTH.out)
  have HWS := Lib.hid hWS
  clear hb1 hb2 hB0 hWS
  go_enter Tryz.func21, Tryz.ntmps21
  go_wp2_with (first
    | (refine wpList_load_mid (P := Tryz.prog) rfl 23 (.tmp 3) rfl w.heap.size 0 rfl [.int .u8 (a0.toNat : Nat), .int .u8 (a1.toNat : Nat), .int .u8 (a2.toNat : Nat), .int .u8 (a3.toNat : Nat), .int .u8 (a4.toNat : Nat), .int .u8 (a5.toNat : Nat), .int .u8 (a6.toNat : Nat), .int .u8 (a7.toNat : Nat), .int .u8 (a8.toNat : Nat), .int .u8 (a9.toNat : Nat), .int .u8 (aA.toNat : Nat), .int .u8 (aB.toNat : Nat), .int .u8 (aC.toNat : Nat), .int .u8 (aD.toNat : Nat), .int .u8 (aE.toNat : Nat), .int .u8 (aF.toNat : Nat)] _ HR1.out Tryz.underlying23 rfl (rng_len a0 a1 a2 a3 a4 a5 a6 a7 a8 a9 aA aB aC aD aE aF) ?_; simp only [Act.put, List.setIfInBounds_toArray, List.set_cons_zero, List.set_cons_succ])
    | (refine wpList_store_mid (P := Tryz.prog) rfl 23 (.tmp 2) (.tmp 4) rfl (w.heap.size + 1) 0 #[.int .u8 (a0.toNat : Nat), .int .u8 (a1.toNat : Nat), .int .u8 (a2.toNat : Nat), .int .u8 (a3.toNat : Nat), .int .u8 (a4.toNat : Nat), .int .u8 (a5.toNat : Nat), .int .u8 (a6.toNat : Nat), .int .u8 (a7.toNat : Nat), .int .u8 (a8.toNat : Nat), .int .u8 (a9.toNat : Nat), .int .u8 (aA.toNat : Nat), .int .u8 (aB.toNat : Nat), .int .u8 (aC.toNat : Nat), .int .u8 (aD.toNat : Nat), .int .u8 (aE.toNat : Nat), .int .u8 (aF.toNat : Nat)] rfl rfl HTH.out seed_size (one16 a0 a1 a2 a3 a4 a5 a6 a7 a8 a9 aA aB aC aD aE aF) ?_; simp only [HWS.out, Act.put]))
  exact bodyPost_ret (results_row (cs := [.int .u8 (a0.toNat : Nat), .int .u8 (a1.toNat : Nat), .int .u8 (a2.toNat : Nat), .int .u8 (a3.toNat : Nat), .int .u8 (a4.toNat : Nat), .int .u8 (a5.toNat : Nat), .int .u8 (a6.toNat : Nat), .int .u8 (a7.toNat : Nat), .int .u8 (a8.toNat : Nat), .int .u8 (a9.toNat : Nat), .int .u8 (aA.toNat : Nat), .int .u8 (aB.toNat : Nat), .int .u8 (aC.toNat : Nat), .int .u8 (aD.toNat : Nat), .int .u8 (aE.toNat : Nat), .int .u8 (aF.toNat : Nat)]) rfl _ rfl HTX.out Tryz.underlying23 rfl (rng_len a0 a1 a2 a3 a4 a5 a6 a7 a8 a9 aA aB aC aD aE aF)) rfl ⟨rfl, HBX.out⟩
end Go.Proofs.YtadaoceidkagfaaGreatDoor
