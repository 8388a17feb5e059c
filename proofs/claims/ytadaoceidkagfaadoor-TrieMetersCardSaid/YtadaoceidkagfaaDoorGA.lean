
import Derived.Test.YtadaoceidkagfaaDoorSameA
import Derived.Test.YtadaoceidkagfaaDoorFitL
import Derived.Test.YtadaoceidkagfaaDoorIntoAll
import Derived.Test.YtadaoceidkagfaaDoorLayAll
import Derived.Test.YtadaoceidkagfaaDoorLawA
namespace Go.Proofs.YtadaoceidkagfaaDoor
open Go.RowKit Go.Bw

theorem _root_.Bw.unlike_entries {t : List Nat} {m : List Bw.PV} (h : Bw.Rises m) : Bw.Unlike (Bw.entries t m) := by
  unfold Bw.Unlike Bw.entries
  exact List.pairwise_map.2 (List.Pairwise.imp (fun {a b} hab e => by dsimp only at e; rw [e] at hab; exact Bw.lt_irrefl _ hab) h)

theorem _root_.Bw.mem_entries {t : List Nat} {m : List Bw.PV} {e : Bw.En} : e ∈ Bw.entries t m ↔ e.2 ∈ m ∧ e.1 = Bw.tabHash t e.2.1 := by
  unfold Bw.entries
  rw [List.mem_map]
  constructor
  · rintro ⟨p, hp, rfl⟩; exact ⟨hp, rfl⟩
  · rintro ⟨h1, h2⟩; exact ⟨e.2, h1, by rw [← h2]⟩

theorem _root_.Bw.entries_put {t : List Nat} {m : List Bw.PV} {p : Bw.PV} (hm : Bw.Rises m) (e : Bw.En) : e ∈ Bw.entries t (Bw.put m p) ↔ Bw.PutS (fun e => e ∈ Bw.entries t m) (Bw.tabHash t p.1) p e := by
  unfold Bw.PutS
  rw [Bw.mem_entries, Bw.mem_put_iff hm]
  dsimp only
  rw [Bw.mem_entries]
  constructor
  · rintro ⟨h | ⟨h1, h2⟩, h3⟩
    · exact .inl (Prod.ext (by rw [h3, h]) h)
    · exact .inr ⟨⟨h1, h3⟩, h2⟩
  · rintro (rfl | ⟨⟨h1, h3⟩, h2⟩)
    · exact ⟨.inl rfl, rfl⟩
    · exact ⟨.inr ⟨h1, h2⟩, h3⟩

theorem _root_.Bw.length_entries (t : List Nat) (m : List Bw.PV) : (Bw.entries t m).length = m.length := List.length_map _

theorem fresh_get {t : List Nat} {m : List Bw.PV} {k : Bw.Bytes} {fr : Bool} (h : fr = true ↔ ∀ e ∈ Bw.entries t m, e.2.1 ≠ k) : fr = !(Bw.get m k).isSome := by
  have hg := Bw.get_isSome (m := m) (k := k)
  cases ho : (Bw.get m k).isSome with
  | true =>
    rw [ho] at hg
    obtain ⟨x, hx, he⟩ := hg.1 rfl
    cases fr with
    | false => rfl
    | true => exact absurd he (h.1 rfl (Bw.tabHash t x.1, x) (Bw.mem_entries.2 ⟨hx, rfl⟩))
  | false =>
    rw [ho] at hg
    refine (h.2 fun e he hk => ?_).trans rfl
    have := hg.2 ⟨e.2, (Bw.mem_entries.1 he).1, hk⟩
    cases this

theorem tabHash_lt {t : List Nat} (ht : ∀ x ∈ t, x < 18446744073709551616) (k : Bw.Bytes) : Bw.tabHash t k < 18446744073709551616 := by
  unfold Bw.tabHash
  rw [List.getD_eq_getElem?_getD]
  cases hx : t[(k.length + (k.map UInt8.toNat).sum) % t.length]? with
  | none => simp
  | some x => exact ht x (List.mem_of_getElem? hx)

/-- a map as the laws hold it -/
structure MapOk (m : List Bw.PV) : Prop where
  rises : Bw.Rises m
  len : m.length ≤ 1048000
  bytes : ∀ p ∈ m, p.1.length ≤ 1048576 ∧ p.2.length ≤ 1048576

theorem MapOk.entries {t : List Nat} {m : List Bw.PV} (h : MapOk m) : ∀ e ∈ Bw.entries t m, e.2.1.length ≤ 1048576 ∧ e.2.2.length ≤ 1048576 := fun e he => h.bytes e.2 (Bw.mem_entries.1 he).1
theorem entries_hash {t : List Nat} {m : List Bw.PV} (ht : ∀ x ∈ t, x < 18446744073709551616) : ∀ e ∈ Bw.entries t m, e.1 < 18446744073709551616 := fun _ he => (Bw.mem_entries.1 he).2 ▸ tabHash_lt ht _

theorem olays_abs {t : List Nat} {m : List Bw.PV} {o : Option Bw.N} (ht : ∀ x ∈ t, x < 18446744073709551616) (hm : MapOk m) (h : Bw.OLays 0 o (Bw.entries t m)) : Bw.layX 13 0 (Bw.entries t m) = Bw.absO o := by
  cases o with
  | none =>
    simp only [Bw.OLays] at h
    rw [h]
    exact Bw.layX_nil _ _
  | some n => exact Bw.lays_abs h 13 _ rfl (Bw.unlike_entries hm.rises) (fun _ => Iff.rfl) ⟨0, fun _ _ => Nat.mod_one _⟩ (entries_hash ht)

theorem olays_fit {t : List Nat} {m : List Bw.PV} {o : Option Bw.N} (hm : MapOk m) (h : Bw.OLays 0 o (Bw.entries t m)) : ∀ n, o = some n → n.fit := by
  rintro n rfl
  exact Bw.lays_fit h _ (Bw.unlike_entries hm.rises) (fun _ => Iff.rfl) hm.entries (by rw [Bw.length_entries]; exact Nat.le_trans hm.len (by decide))

theorem come_snoc (l : List Bw.PV) (p : Bw.PV) : Bw.come (l ++ [p]) = Bw.put (Bw.come l) p := by simp [Bw.come, List.foldl_append]

theorem gput_trie {ok okb : Nat → Prop} {t : List Nat} {m : List Bw.PV} {p : Bw.PV} {o : Option Bw.N} {v u1 u2 : Value} {w : World} (ht : ∀ x ∈ t, x < 18446744073709551616) (hm : MapOk m) (hp : p.1.length ≤ 1048576 ∧ p.2.length ≤ 1048576)
    (hn : ONodeAt nt ok w v o) (hL : Bw.OLays 0 o (Bw.entries t m)) (h1 : BytesAt okb w u1 p.1) (h2 : BytesAt okb w u2 p.2) (hok : ∀ k, w.heap.size ≤ k → ok k) (hT : Tab w) :
    Calls Tryd.prog 19 #[v, .int .u64 (Bw.tabHash t p.1 : Nat), .agg #[u1, u2], .pointer none] w fun e w' =>
      ∃ nv n, e = .returned (.tuple #[nv, .bool (!(Bw.get m p.1).isSome)]) ∧ NodeAt nt ok w' nv n ∧ Bw.OLays 0 (some n) (Bw.entries t (Bw.put m p)) ∧ Below w.heap.size w w' := by
  refine (gput_any (mb := none) (c := (0, 0)) (l := Bw.entries t m) (mv := .pointer none) ⟨rfl, hL, Bw.unlike_entries hm.rises, hm.entries, entries_hash ht, by rw [Bw.length_entries]; exact Nat.le_trans hm.len (by decide), fun e _ => by rw [Nat.pow_zero, Nat.mod_one, Nat.mod_one], fun e he hk => by rw [(Bw.mem_entries.1 he).2, hk], tabHash_lt ht _, hp.1, hp.2, hn, h1, h2, rfl, (fun _ _ e => by cases e), (fun _ _ e => by cases e), (fun e => by cases e), hok, hT, by decide, by decide⟩).mono ?_
  rintro e w' ⟨nv, n, fr, rfl, hn', hl', hfr, _, hT'⟩
  obtain rfl := fresh_get hfr
  exact ⟨nv, n, rfl, hn', hl'.congr fun e => (Bw.entries_put hm.rises e).symm, hT'.below⟩
end Go.Proofs.YtadaoceidkagfaaDoor

namespace Go.Proofs.YtadaoceidkagfaaDoor
open Go.RowKit Go.Bw

def fine19 (t : List Nat) (l : List Bw.PV) (most : Nat) : Bool := decide (t.length ≤ 200) && smallB l most

theorem lays_single {level : Nat} {n : Bw.N} {e : Bw.En} {S : Bw.En → Prop} (h : Bw.Lays level n S) (hs : ∀ x, S x → x = e) : ∃ g q, n = .leaf g q := by
  cases h with
  | leaf _ => exact ⟨_, _, rfl⟩
  | @bucket _ g t _ he hr h2 hS =>
    obtain ⟨a, b, r, hab⟩ := Bw.two_of_length h2
    have h1 := hs (g, a) ((hS _).2 ⟨rfl, by rw [hab]; simp⟩)
    have h3 := hs (g, b) ((hS _).2 ⟨rfl, by rw [hab]; simp⟩)
    rw [hab] at hr
    have := (List.pairwise_cons.1 hr).1 b (by simp)
    have hab' : a = b := by have := h1.trans h3.symm; simpa using this
    rw [hab'] at this
    exact absurd this (Bw.lt_irrefl _)
  | branch _ _ h2 =>
    obtain ⟨a, b, ha, hb, hne⟩ := h2
    exact absurd (by rw [hs a ha, hs b hb]) hne

end Go.Proofs.YtadaoceidkagfaaDoor

namespace Go.Proofs.YtadaoceidkagfaaDoor
open Go.RowKit Go.Bw

theorem fine19_parts {t : List Nat} {l : List Bw.PV} {most : Nat} (h : fine19 t l most = true) : t.length ≤ 200 ∧ l.length ≤ most ∧ ∀ p ∈ l, p.1.length ≤ 1048576 ∧ p.2.length ≤ 1048576 := by
  unfold fine19 at h
  rw [Bool.and_eq_true, decide_eq_true_iff] at h
  refine ⟨h.1, ?_⟩
  have h2 := h.2
  unfold smallB at h2
  rw [Bool.and_eq_true, decide_eq_true_iff, List.all_eq_true] at h2
  refine ⟨h2.1, fun p hp => ?_⟩
  have := h2.2 p hp
  unfold pairOk at this
  rw [Bool.and_eq_true, decide_eq_true_iff, decide_eq_true_iff] at this
  omega

theorem mapOk_come {l : List Bw.PV} (hl : l.length ≤ 1048000) (hb : ∀ p ∈ l, p.1.length ≤ 1048576 ∧ p.2.length ≤ 1048576) : MapOk (Bw.come l) :=
  ⟨Bw.rises_come l, Nat.le_trans (Bw.length_come l) hl, fun p hp => hb p (Bw.mem_come hp)⟩

def GLoop (t : List Nat) (l : List Bw.PV) (w : World) (n m i : Value) (wr : World) : Prop :=
  ∃ (k : Nat) (o : Option Bw.N), k ≤ l.length ∧ i = .int .i64 k ∧ ONodeAt nt AllB wr n o ∧ Bw.OLays 0 o (Bw.entries t (Bw.come (l.take k))) ∧ SPairsAt AllB wr m (Bw.come (l.take k)) ∧ Below w.heap.size w wr

theorem onode_form {ok : Nat → Prop} {w : World} {v : Value} {o : Option Bw.N} (h : ONodeAt nt ok w v o) : v = .nilIface ∨ ∃ t b, v = .iface t (.pointer (some ⟨b, 0, none⟩)) := by
  cases o with
  | none => exact .inl h
  | some n => obtain ⟨t, b, rfl⟩ := NodeAt.form h; exact .inr ⟨t, b, rfl⟩

end Go.Proofs.YtadaoceidkagfaaDoor
