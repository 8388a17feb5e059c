
import Derived.Test.YtehkjnmnbplcoaaDoorSameA
import Derived.Test.YtehkjnmnbplcoaaDoorIntoAll
import Derived.Test.YtehkjnmnbplcoaaDoorLayAll
import Derived.Test.YtehkjnmnbplcoaaDoorLawA
namespace Go.Proofs.YtehkjnmnbplcoaaDoor
open Go.RowKit Go.Bw

theorem _root_.Bw.lays_fit {level : Nat} {n : Bw.N} {S : Bw.En → Prop} (h : Bw.Lays level n S) : ∀ l : List Bw.En, Bw.Unlike l → (∀ e, e ∈ l ↔ S e) → (∀ e ∈ l, e.2.1.length ≤ 1048576 ∧ e.2.2.length ≤ 1048576) → l.length ≤ 1048576 → n.fit := by
  induction h with
  | @leaf level h p S hs =>
    intro l _ hm hb _
    exact hb (h, p) ((hm _).2 ((hs _).2 rfl))
  | @bucket level h t S he hr h2 hs =>
    intro l hu hm hb hl
    have hc := Bw.lays_count (Bw.Lays.bucket (level := level) he hr h2 hs) l hu hm
    simp only [Bw.N.count] at hc
    exact ⟨he, hr, fun p hp => hb (h, p) ((hm _).2 ((hs _).2 ⟨rfl, hp⟩)), by omega⟩
  | @branch level m kids S hm32 hl h2 hc hk ih =>
    intro l hu hm hb hlen
    refine ⟨hm32, hl, (Bw.N.fitL_iff _).2 fun k hk' => ?_⟩
    obtain ⟨j, hj, rfl⟩ := List.getElem_of_mem hk'
    have hjb : j < (Bw.bitsOf m).length := by omega
    exact ih j _ _ (List.getElem?_eq_getElem hjb) (List.getElem?_eq_getElem hj) (Bw.partOf level ((Bw.bitsOf m)[j]) l) (hu.filter _) (fun e => by rw [Bw.mem_partOf, hm]) (fun e he => hb e (Bw.mem_partOf.1 he).1) (Nat.le_trans (List.length_filter_le _ _) hlen)

theorem _root_.Bw.unlike_entries {t : List Nat} {m : List Bw.PV} (h : Bw.Rises m) : Bw.Unlike (Bw.entries t m) := by
  unfold Bw.Unlike Bw.entries
  exact List.pairwise_map.2 (List.Pairwise.imp (fun {a b} hab e => by dsimp only at e; rw [e] at hab; exact Bw.lt_irrefl _ hab) h)

theorem _root_.Bw.mem_entries {t : List Nat} {m : List Bw.PV} {e : Bw.En} : e ∈ Bw.entries t m ↔ e.2 ∈ m ∧ e.1 = Bw.tabHash t e.2.1 := by
  unfold Bw.entries
  rw [List.mem_map]
  constructor
  · rintro ⟨p, hp, rfl⟩; exact ⟨hp, rfl⟩
  · rintro ⟨h1, h2⟩; exact ⟨e.2, h1, by rw [← h2]⟩

theorem _root_.Bw.entries_put {t : List Nat} {m : List Bw.PV} {p : Bw.PV} (hm : Bw.Rises m) (e : Bw.En) : e ∈ Bw.entries t (Bw.put m p) ↔ Bw.PutS (fun e => e ∈ Bw.entries t m) (Bw.tabHash t p.1) p e := by
  unfold Bw.PutS
  rw [Bw.mem_entries, Bw.mem_put_iff hm]
  dsimp only
  rw [Bw.mem_entries]
  constructor
  · rintro ⟨h | ⟨h1, h2⟩, h3⟩
    · exact .inl (Prod.ext (by rw [h3, h]) h)
    · exact .inr ⟨⟨h1, h3⟩, h2⟩
  · rintro (rfl | ⟨⟨h1, h3⟩, h2⟩)
    · exact ⟨.inl rfl, rfl⟩
    · exact ⟨.inr ⟨h1, h2⟩, h3⟩

theorem _root_.Bw.length_entries (t : List Nat) (m : List Bw.PV) : (Bw.entries t m).length = m.length := List.length_map _

theorem fresh_get {t : List Nat} {m : List Bw.PV} {k : Bw.Bytes} {fr : Bool} (h : fr = true ↔ ∀ e ∈ Bw.entries t m, e.2.1 ≠ k) : fr = !(Bw.get m k).isSome := by
  have hg := Bw.get_isSome (m := m) (k := k)
  cases ho : (Bw.get m k).isSome with
  | true =>
    rw [ho] at hg
    obtain ⟨x, hx, he⟩ := hg.1 rfl
    cases fr with
    | false => rfl
    | true => exact absurd he (h.1 rfl (Bw.tabHash t x.1, x) (Bw.mem_entries.2 ⟨hx, rfl⟩))
  | false =>
    rw [ho] at hg
    refine (h.2 fun e he hk => ?_).trans rfl
    have := hg.2 ⟨e.2, (Bw.mem_entries.1 he).1, hk⟩
    cases this

theorem tabHash_lt {t : List Nat} (ht : ∀ x ∈ t, x < 18446744073709551616) (k : Bw.Bytes) : Bw.tabHash t k < 18446744073709551616 := by
  unfold Bw.tabHash
  rw [List.getD_eq_getElem?_getD]
  cases hx : t[(k.length + (k.map UInt8.toNat).sum) % t.length]? with
  | none => simp
  | some x => exact ht x (List.mem_of_getElem? hx)

/-- a map as the laws hold it -/
structure MapOk (m : List Bw.PV) : Prop where
  rises : Bw.Rises m
  len : m.length ≤ 1048000
  bytes : ∀ p ∈ m, p.1.length ≤ 1048576 ∧ p.2.length ≤ 1048576

theorem MapOk.entries {t : List Nat} {m : List Bw.PV} (h : MapOk m) : ∀ e ∈ Bw.entries t m, e.2.1.length ≤ 1048576 ∧ e.2.2.length ≤ 1048576 := fun e he => h.bytes e.2 (Bw.mem_entries.1 he).1
theorem entries_hash {t : List Nat} {m : List Bw.PV} (ht : ∀ x ∈ t, x < 18446744073709551616) : ∀ e ∈ Bw.entries t m, e.1 < 18446744073709551616 := fun _ he => (Bw.mem_entries.1 he).2 ▸ tabHash_lt ht _

theorem olays_abs {t : List Nat} {m : List Bw.PV} {o : Option Bw.N} (ht : ∀ x ∈ t, x < 18446744073709551616) (hm : MapOk m) (h : Bw.OLays 0 o (Bw.entries t m)) : Bw.layX 13 0 (Bw.entries t m) = Bw.absO o := by
  cases o with
  | none =>
    simp only [Bw.OLays] at h
    rw [h]
    exact Bw.layX_nil _ _
  | some n => exact Bw.lays_abs h 13 _ rfl (Bw.unlike_entries hm.rises) (fun _ => Iff.rfl) ⟨0, fun _ _ => Nat.mod_one _⟩ (entries_hash ht)

theorem olays_fit {t : List Nat} {m : List Bw.PV} {o : Option Bw.N} (hm : MapOk m) (h : Bw.OLays 0 o (Bw.entries t m)) : ∀ n, o = some n → n.fit := by
  rintro n rfl
  exact Bw.lays_fit h _ (Bw.unlike_entries hm.rises) (fun _ => Iff.rfl) hm.entries (by rw [Bw.length_entries]; exact Nat.le_trans hm.len (by decide))

theorem come_snoc (l : List Bw.PV) (p : Bw.PV) : Bw.come (l ++ [p]) = Bw.put (Bw.come l) p := by simp [Bw.come, List.foldl_append]

theorem gput_trie {ok okb : Nat → Prop} {t : List Nat} {m : List Bw.PV} {p : Bw.PV} {o : Option Bw.N} {v u1 u2 : Value} {w : World} (ht : ∀ x ∈ t, x < 18446744073709551616) (hm : MapOk m) (hp : p.1.length ≤ 1048576 ∧ p.2.length ≤ 1048576)
    (hn : ONodeAt nt ok w v o) (hL : Bw.OLays 0 o (Bw.entries t m)) (h1 : BytesAt okb w u1 p.1) (h2 : BytesAt okb w u2 p.2) (hok : ∀ k, w.heap.size ≤ k → ok k) (hT : Tab w) :
    Calls Tryd.prog 17 #[v, .int .u64 (Bw.tabHash t p.1 : Nat), .agg #[u1, u2], .pointer none] w fun e w' =>
      ∃ nv n, e = .returned (.tuple #[nv, .bool (!(Bw.get m p.1).isSome)]) ∧ NodeAt nt ok w' nv n ∧ Bw.OLays 0 (some n) (Bw.entries t (Bw.put m p)) ∧ Below w.heap.size w w' := by
  refine (gput_any (mb := none) (c := (0, 0)) (l := Bw.entries t m) (mv := .pointer none) ⟨rfl, hL, Bw.unlike_entries hm.rises, hm.entries, entries_hash ht, by rw [Bw.length_entries]; exact Nat.le_trans hm.len (by decide), fun e _ => by rw [Nat.pow_zero, Nat.mod_one, Nat.mod_one], fun e he hk => by rw [(Bw.mem_entries.1 he).2, hk], tabHash_lt ht _, hp.1, hp.2, hn, h1, h2, rfl, (fun _ _ e => by cases e), (fun _ _ e => by cases e), (fun e => by cases e), hok, hT, by decide, by decide⟩).mono ?_
  rintro e w' ⟨nv, n, fr, rfl, hn', hl', hfr, _, hT'⟩
  obtain rfl := fresh_get hfr
  exact ⟨nv, n, rfl, hn', hl'.congr fun e => (Bw.entries_put hm.rises e).symm, hT'.below⟩
end Go.Proofs.YtehkjnmnbplcoaaDoor

namespace Go.Proofs.YtehkjnmnbplcoaaDoor
open Go.RowKit Go.Bw

def fine19 (t : List Nat) (l : List Bw.PV) (most : Nat) : Bool := decide (t.length ≤ 200) && smallB l most

set_option maxRecDepth 100000 in
set_option maxHeartbeats 400000 in
theorem fine19_any {ok ok' : Nat → Prop} {t : List Nat} {l : List Bw.PV} {tv v : Value} {w : World} (most : Nat) (hmost : most ≤ 1048576) (ht : RowAt 1 natK64 ok' w tv t) (hr : PairsAt ok w v l) :
    Calls Tryd.prog 13 #[tv, v, .int .i64 (most : Nat)] w fun e w' => e = .returned (.bool (fine19 t l most)) ∧ Below w.heap.size w w' := by
  obtain ⟨A, c, rfl⟩ := ht.form
  obtain ⟨A2, c2, rfl⟩ := hr.form
  have CS := Lib.hid (small_any most hmost hr)
  by_cases hl : t.length ≤ 200
  · have hg : ((t.length : Int) ≤ 200) := by omega
    have HF : Hid (fine19 t l most = smallB l most) := Lib.hid (by simp [fine19, hl])
    clear hl hr ht hmost
    go_enter Tryd.func13, Tryd.ntmps13
    go_wp2_with fail
    refine CS.out.mono ?_
    rintro e w1 ⟨rfl, hb1⟩
    have HB := Lib.hid hb1
    clear hb1
    go_wp2
    go_ret
    exact ⟨by rw [HF.out]; rfl, HB.out⟩
  · have hg : ¬ ((t.length : Int) ≤ 200) := by omega
    have HF : Hid (fine19 t l most = false) := Lib.hid (by simp [fine19, hl])
    clear hl hr ht hmost
    go_enter Tryd.func13, Tryd.ntmps13
    go_wp2
    go_ret
    exact ⟨by rw [HF.out]; rfl, Below.refl _ _⟩

theorem lays_single {level : Nat} {n : Bw.N} {e : Bw.En} {S : Bw.En → Prop} (h : Bw.Lays level n S) (hs : ∀ x, S x → x = e) : ∃ g q, n = .leaf g q := by
  cases h with
  | leaf _ => exact ⟨_, _, rfl⟩
  | @bucket _ g t _ he hr h2 hS =>
    obtain ⟨a, b, r, hab⟩ := Bw.two_of_length h2
    have h1 := hs (g, a) ((hS _).2 ⟨rfl, by rw [hab]; simp⟩)
    have h3 := hs (g, b) ((hS _).2 ⟨rfl, by rw [hab]; simp⟩)
    rw [hab] at hr
    have := (List.pairwise_cons.1 hr).1 b (by simp)
    have hab' : a = b := by have := h1.trans h3.symm; simpa using this
    rw [hab'] at this
    exact absurd this (Bw.lt_irrefl _)
  | branch _ _ h2 =>
    obtain ⟨a, b, ha, hb, hne⟩ := h2
    exact absurd (by rw [hs a ha, hs b hb]) hne

set_option maxRecDepth 100000 in
set_option maxHeartbeats 400000 in
theorem awake19_any (w : World) (hT : Tab w) :
    Calls Tryd.prog 14 #[] w fun e w' => e = .returned (.bool true) ∧ Below w.heap.size w w' := by
  obtain ⟨W1, hW1⟩ : ∃ W1, w.alloc (.cells #[.int .u8 107] 5 (1, 2)) = W1 := ⟨_, rfl⟩
  have kc : (convert 29 29 (.slice (some ⟨w.heap.size, 0, none⟩) 1 1)).run Tryd.prog (w.alloc (.cells #[.int .u8 107] 5)) = .ok (.slice (some ⟨w.heap.size, 0, none⟩) 1 1) W1 := by
    rw [← hW1]; exact Lib.run_convert_bytes_const (P := Tryd.prog) w 29 5 #[.int .u8 107] 1 1 Tryd.underlying29 Tryd.underlying5
  have hB1 : Below w.heap.size w W1 := by rw [← hW1]; exact (Below.refl _ _).alloc (Nat.le_refl _) _
  have hrow : BytesAt AllB W1 (.slice (some ⟨w.heap.size, 0, none⟩) 1 1) [107] := by
    rw [← hW1]
    exact RowAt.single goodByte (cs := #[.int .u8 107]) (t := 5) (fr := (1, 2)) rfl trivial (heap_alloc_new w _)
  have CP : Hid (Calls Tryd.prog 17 #[.nilIface, .int .u64 5, .agg #[.slice (some ⟨w.heap.size, 0, none⟩) 1 1, .slice none 0 0], .pointer none] W1 fun e w' => ∃ b, e = .returned (.tuple #[.iface 141 (.pointer (some ⟨b, 0, none⟩)), .bool true]) ∧ Below W1.heap.size W1 w') := Lib.hid (by
    refine (gput_any (ok := AllB) (okb := AllB) (mb := none) (o := none) (c := (0, 0)) (l := []) (h := 5) (p := ([107], [])) (mv := .pointer none) ⟨rfl, rfl, List.Pairwise.nil, by simp, by simp, by simp, by simp, by simp, by decide, by simp, by simp, rfl, hrow, RowAt.nil, rfl, (fun _ _ e => by cases e), (fun _ _ e => by cases e), (fun e => by cases e), (fun _ _ => trivial), hT.below hT.pos hB1, by decide, by decide⟩).mono ?_
    rintro e w' ⟨nv, n, fr, rfl, hn', hl', hfr, _, hT'⟩
    obtain ⟨g, q, rfl⟩ := lays_single (e := (5, ([107], []))) hl' (fun x hx => by
      rcases hx with hx | ⟨hx, _⟩
      · exact hx
      · simp at hx)
    simp only [NodeAt] at hn'
    obtain ⟨b, _, _, rfl, _⟩ := hn'
    obtain rfl : fr = true := hfr.2 (by simp)
    exact ⟨b, rfl, hT'.below⟩)
  have HB1 := Lib.hid hB1
  clear hrow hW1 hB1 hT
  go_enter Tryd.func14, Tryd.ntmps14
  go_wp2_with fail
  refine CP.out.mono ?_
  rintro e w1 ⟨b, rfl, hb1⟩
  have HB2 := Lib.hid (HB1.out.trans (hb1.mono HB1.out.size))
  have hm := kindm_leaf
  have hmc := method_leaf
  clear hb1
  go_wp2_with fail
  refine (kind_leaf _ _).mono ?_
  rintro e w2 ⟨rfl, rfl⟩
  go_wp2_with fail
  refine (count_leaf _ _).mono ?_
  rintro e w2 ⟨rfl, rfl⟩
  go_wp2
  go_ret
  exact ⟨rfl, HB2.out⟩
end Go.Proofs.YtehkjnmnbplcoaaDoor

namespace Go.Proofs.YtehkjnmnbplcoaaDoor
open Go.RowKit Go.Bw

theorem fine19_parts {t : List Nat} {l : List Bw.PV} {most : Nat} (h : fine19 t l most = true) : t.length ≤ 200 ∧ l.length ≤ most ∧ ∀ p ∈ l, p.1.length ≤ 1048576 ∧ p.2.length ≤ 1048576 := by
  unfold fine19 at h
  rw [Bool.and_eq_true, decide_eq_true_iff] at h
  refine ⟨h.1, ?_⟩
  have h2 := h.2
  unfold smallB at h2
  rw [Bool.and_eq_true, decide_eq_true_iff, List.all_eq_true] at h2
  refine ⟨h2.1, fun p hp => ?_⟩
  have := h2.2 p hp
  unfold pairOk at this
  rw [Bool.and_eq_true, decide_eq_true_iff, decide_eq_true_iff] at this
  omega

theorem mapOk_come {l : List Bw.PV} (hl : l.length ≤ 1048000) (hb : ∀ p ∈ l, p.1.length ≤ 1048576 ∧ p.2.length ≤ 1048576) : MapOk (Bw.come l) :=
  ⟨Bw.rises_come l, Nat.le_trans (Bw.length_come l) hl, fun p hp => hb p (Bw.mem_come hp)⟩

def GLoop (t : List Nat) (l : List Bw.PV) (w : World) (n m i : Value) (wr : World) : Prop :=
  ∃ (k : Nat) (o : Option Bw.N), k ≤ l.length ∧ i = .int .i64 k ∧ ONodeAt nt AllB wr n o ∧ Bw.OLays 0 o (Bw.entries t (Bw.come (l.take k))) ∧ SPairsAt AllB wr m (Bw.come (l.take k)) ∧ Below w.heap.size w wr

theorem onode_form {ok : Nat → Prop} {w : World} {v : Value} {o : Option Bw.N} (h : ONodeAt nt ok w v o) : v = .nilIface ∨ ∃ t b, v = .iface t (.pointer (some ⟨b, 0, none⟩)) := by
  cases o with
  | none => exact .inl h
  | some n => obtain ⟨t, b, rfl⟩ := NodeAt.form h; exact .inr ⟨t, b, rfl⟩

set_option maxRecDepth 100000 in
set_option maxHeartbeats 4000000 in
theorem puts_any {t : List Nat} {l : List Bw.PV} {tv v : Value} {w : World} (ht : ∀ x ∈ t, x < 18446744073709551616) (hr : PairsAt AllB w v l) (htr : RowAt 1 natK64 AllB w tv t) (hT : Tab w) :
    Calls Tryd.prog 3 #[tv, v] w fun e w' => e = .returned (.bool true) ∧ Below w.heap.size w w' := by
  obtain ⟨A, c, rfl⟩ := hr.form
  obtain ⟨AT, ct, rfl⟩ := htr.form
  have CF := Lib.hid (fine19_any 40 (by decide) htr hr)
  have CA := Lib.hid (fun W (hW : Below w.heap.size w W) => awake19_any W (hT.below hT.pos hW))
  cases hfine : fine19 t l 40 with
  | false =>
    rw [hfine] at CF
    clear hr htr ht hfine hT
    go_enter Tryd.func3, Tryd.ntmps3
    go_wp2_with fail
    refine CF.out.mono ?_
    rintro e w1 ⟨rfl, hb1⟩
    go_wp2_with fail
    refine (CA.out _ hb1).mono ?_
    rintro e w2 ⟨rfl, hb2⟩
    have HB := Lib.hid (hb1.trans (hb2.mono hb1.size))
    clear hb1 hb2
    go_wp2
    go_ret
    exact ⟨rfl, HB.out⟩
  | true =>
    rw [hfine] at CF
    obtain ⟨ht200, hl40, hby⟩ := fine19_parts hfine
    have HL : Hid (l.length ≤ 1048576) := Lib.hid (by omega)
    have ht1 : t.length ≤ 1048576 := by omega
    have HM : Hid (∀ k, MapOk (Bw.come (l.take k))) := Lib.hid fun k => mapOk_come (Nat.le_trans (List.length_take_le' _ _) (by omega)) fun p hp => hby p (List.mem_of_mem_take hp)
    have HBY := Lib.hid hby; have HR := Lib.hid hr; have HTR := Lib.hid htr; have HT1 := Lib.hid ht1; have HTT := Lib.hid ht; have HTAB := Lib.hid hT
    clear hr htr ht hfine hT ht200 hl40 hby ht1
    go_enter Tryd.func3, Tryd.ntmps3
    go_wp2_with fail
    refine CF.out.mono ?_
    rintro e w1 ⟨rfl, hb1⟩
    have H0 : Hid (GLoop t l w .nilIface (.slice none 0 0) (.int .i64 0) w1) := Lib.hid ⟨0, none, Nat.zero_le _, rfl, rfl, rfl, RowAt.nil, hb1⟩
    clear hb1
    go_wp2_with fail
    go_loopw [5, 6, 20] (GLoop t l w) (fun _ _ i _ => l.length - (intOf i).toNat)
    case atStart => exact H0.out
    case round =>
      obtain ⟨j, o, hk, rfl, hN, hOL, hMv, hB⟩ := hrel
      by_cases hlt : j < l.length
      · obtain ⟨b, off, u1, u2, rfl, hob, c0, c1, hu, hv⟩ := pair_get HR.out (List.getElem?_eq_getElem hlt)
        obtain ⟨U1, cu1, rfl⟩ := hu.form
        obtain ⟨U2, cu2, rfl⟩ := hv.form
        have hbl := World.block_lt_of_cell? w _ c0
        dsimp only at hbl
        have d0 := (hB.cell (p := ⟨b, off + j * 2, none⟩) hbl).trans c0
        have d1 := (hB.cell (p := ⟨b, off + j * 2 + 1, none⟩) hbl).trans c1
        have hbl2 : b < wr.heap.size := Nat.lt_of_lt_of_le hbl hB.size
        have h0 : (0 : Int) ≤ (j : Int) := by omega
        have h1 : (j : Int) < (l.length : Int) := by omega
        have hq := HBY.out l[j] (List.getElem_mem hlt)
        have hcs : Bw.come (l.take (j + 1)) = Bw.put (Bw.come (l.take j)) l[j] := by rw [take_succ_snoc hlt, come_snoc]
        have hmk := HM.out j
        have hmk1 := HM.out (j + 1)
        generalize l[j] = q at *
        obtain ⟨qx, qy⟩ := q
        dsimp only at *
        rw [hcs] at hmk1
        generalize hm : Bw.come (l.take j) = m at *
        obtain ⟨W1, hW1⟩ : ∃ W1, wr.alloc (.cells #[.slice U1 qx.length cu1, .slice U2 qy.length cu2] 31) = W1 := ⟨_, rfl⟩
        have hb1 : Below wr.heap.size wr W1 := by rw [← hW1]; (repeat (first | exact Below.refl _ _ | with_reducible assumption | refine Below.drew ?_ | refine b_drewN ?_ _ | (refine Below.alloc ?_ (by first | omega | (simp <;> omega)) _)))
        have hs1 : wr.heap.size < W1.heap.size := by rw [← hW1]; simp
        have x0 : W1.cell? ⟨wr.heap.size, 0, none⟩ = some (.slice U1 qx.length cu1) := by rw [← hW1]; exact cell_new wr 0 _ _ 0 _ rfl
        have x1 : W1.cell? ⟨wr.heap.size, 1, none⟩ = some (.slice U2 qy.length cu2) := by rw [← hW1]; exact cell_new wr 0 _ _ 1 _ rfl
        have hB1 := hB.trans (hb1.mono hB.size)
        have hBW : ∀ W, Below W1.heap.size W1 W → Below w.heap.size w W := fun W hW => hB1.trans (hW.mono hB1.size)
        have hbW : ∀ W, Below W1.heap.size W1 W → Below wr.heap.size wr W := fun W hW => hb1.trans (hW.mono hb1.size)
        have SK : Hid (∀ W, Below W1.heap.size W1 W → W.cell? ⟨wr.heap.size, 0, none⟩ = some (.slice U1 qx.length cu1) ∧ W.cell? ⟨wr.heap.size, 1, none⟩ = some (.slice U2 qy.length cu2)) := Lib.hid fun W hW => ⟨(hW.cell (p := ⟨wr.heap.size, 0, none⟩) hs1).trans x0, (hW.cell (p := ⟨wr.heap.size, 1, none⟩) hs1).trans x1⟩
        have HQ1 := Lib.hid (fun W (hW : Below W1.heap.size W1 W) => run_conv (P := Tryd.prog) 29 9 5 Tryd.underlying29 Tryd.underlying5 Tryd.underlying9 (hu.move goodByte (Moves.below (hBW W hW))))
        have HQ2 := Lib.hid (fun W (hW : Below W1.heap.size W1 W) => run_conv (P := Tryd.prog) 29 9 5 Tryd.underlying29 Tryd.underlying5 Tryd.underlying9 (hv.move goodByte (Moves.below (hBW W hW))))
        have CG := Lib.hid (fun W (hW : Below W1.heap.size W1 W) => rget_any (key := qx) (Nat.le_trans hmk.len (by decide)) (hMv.move goodSp (Moves.below (hbW W hW))))
        have CU := Lib.hid (fun W (hW : Below W1.heap.size W1 W) => rput_any (px := qx) (py := qy) (Nat.le_trans hmk.len (by decide)) hq.1 (fun q hq => (hmk.bytes q hq).1) (hMv.move goodSp (Moves.below (hbW W hW))) hmk.rises)
        have CH := Lib.hid (fun (W : World) (hW : Below W1.heap.size W1 W) => (thash_any hq.1 HT1.out (HTR.out.move goodNat64 (Moves.below (hBW W hW)))).mono (R' := fun e w' => e = .returned (.int .u64 (Bw.tabHash t qx : Nat)) ∧ Below W.heap.size W w') (fun _ _ h => ⟨h.1, h.2 ▸ Below.refl _ _⟩))
        have CP := Lib.hid (fun (W : World) (hW : Below W1.heap.size W1 W) => gput_trie (ok := AllB) (okb := AllB) (p := (qx, qy)) HTT.out hmk hq (ONodeAt.move (Moves.below (hbW W hW)) hN) hOL (hu.move goodByte (Moves.below (hBW W hW))) (hv.move goodByte (Moves.below (hBW W hW))) (fun _ _ => trivial) (HTAB.out.below HTAB.out.pos (hBW W hW)))
        have HBW := Lib.hid hBW
        have HLT := Lib.hid hlt
        have HW1 := Lib.hid hW1
        have HMK1 := Lib.hid hmk1
        have HCS := Lib.hid hcs
        obtain ⟨AM, cm, rfl⟩ := hMv.form
        have hnf := onode_form hN
        generalize hog : (Bw.get m qx).isSome = og at *
        have hgv : getV (Bw.get m qx) = .tuple #[str ((Bw.get m qx).getD []), .bool og] := by rw [← hog]; rfl
        rw [hgv] at CG
        generalize (Bw.get m qx).getD [] = gd at CG
        have hne : ((!og) == og) = false := by cases og <;> rfl
        clear hu hv c0 c1 hb1 hB1 hBW hbW hlt hW1 hmk1 hmk hcs hN hOL hMv hB hq hgv hog H0 CF CA
        simp only [str] at CG CH
        have hz1 := Below.refl W1.heap.size W1
        obtain ⟨y0, y1⟩ := SK.out W1 hz1
        have q1 : (convert 29 9 (.slice U1 qx.length cu1)).run Tryd.prog (wr.alloc (.cells #[.slice U1 qx.length cu1, .slice U2 qy.length cu2] 31)) = .ok (.string ⟨qx.toArray⟩) W1 := by rw [HW1.out]; exact HQ1.out W1 hz1
        go_wp2_with fail
        refine (CG.out W1 hz1).mono ?_
        rintro e w2 ⟨rfl, hb2⟩
        obtain ⟨z0, z1⟩ := SK.out w2 hb2
        have q2 := HQ2.out w2 hb2
        go_wp2_with fail
        refine (CU.out w2 hb2).mono ?_
        rintro e w3 ⟨mv3, rfl, hm3, hb3⟩
        have hb13 := hb2.trans (hb3.mono hb2.size)
        have hd3 := hb13.drew
        obtain ⟨s0, s1⟩ := SK.out _ hd3
        obtain ⟨A3, c3, rfl⟩ := hm3.form
        have HM3 := Lib.hid hm3
        clear hm3
        go_wp2_with fail
        go_region_held3 (fun W => W.cell? ⟨wr.heap.size, 0, none⟩ = some (.slice U1 qx.length cu1) ∧ W.cell? ⟨wr.heap.size, 1, none⟩ = some (.slice U2 qy.length cu2))
          (first | with_reducible exact SK.out _ hb15 | with_reducible exact SK.out _ hb14 | with_reducible exact SK.out _ hd3)
          ((first
            | (go_at_call 18; (with_reducible refine (CH.out _ hd3).mono ?_); rintro e w4 ⟨rfl, hb4⟩; have hb14 := hd3.trans (hb4.mono hd3.size))
            | (go_at_call 17; (with_reducible refine (CP.out _ hb14).mono ?_); rintro e w5 ⟨nv5, n5, rfl, hn5, hl5, hb5⟩; obtain ⟨t5, b5, rfl⟩ := hn5.form; have hb15 := hb14.trans (hb5.mono hb14.size))))
        have hb35 : Below w3.heap.size w3 w5 := ((Below.refl w3.heap.size w3).drew.trans (hb4.mono (Nat.le_refl _))).trans (hb5.mono (((Below.refl w3.heap.size w3).drew.trans (hb4.mono (Nat.le_refl _))).size))
        have hM5 : SPairsAt AllB w5 (.slice A3 (Bw.put m (qx, qy)).length c3) (Bw.put m (qx, qy)) := (HM3.out.move goodSp (Moves.below hb35)).move goodSp (Moves.weaken fun _ _ _ => trivial)
        have HB5 := Lib.hid (HBW.out w5 hb15)
        have CE := Lib.hid (rentries_any HT1.out (HTR.out.move goodNat64 (Moves.below HB5.out)) (Nat.le_trans HMK1.out.len (by decide)) (fun p hp => (HMK1.out.bytes p hp).1) hM5)
        have HL5 := Lib.hid hl5; have HN5 := Lib.hid hn5; have HM5 := Lib.hid hM5
        clear hb35 hM5 hl5 hn5 hb4 hb5 hb3 hb2 hb13 hd3 hb14 hb15 s0 s1 z0 z1 y0 y1 x0 x1 CG CU CH CP
        go_wp2_with fail
        refine CE.out.mono ?_
        rintro e w6 ⟨q6, rfl, hq6, hb6⟩
        have CLY : Hid (Calls Tryd.prog 20 #[q6, .int .i64 0] w6 (Gives w6 (LayTold w6 (Bw.absO (some n5))))) := Lib.hid (by
          rw [← olays_abs HTT.out HMK1.out HL5.out]
          exact rlay_any 13 0 _ _ q6 w6 rfl (by rw [Bw.length_entries]; exact Nat.le_trans HMK1.out.len (by decide)) HMK1.out.entries (entries_hash HTT.out) ⟨0, fun _ _ => Nat.mod_one _⟩ hq6)
        obtain ⟨A6, c6, rfl⟩ := hq6.form
        go_wp2_with fail
        refine CLY.out.mono ?_
        rintro e w7 ⟨q7, rfl, ⟨cs, rfl, hx7⟩, hb7⟩
        have hb57 := hb6.trans (hb7.mono hb6.size)
        have CS := Lib.hid (sameO_any (o := some n5) (ONodeAt.move (Moves.below hb57) HN5.out) (XAt.move (Moves.weaken fun _ _ _ => trivial) _ _ hx7) (olays_fit HMK1.out HL5.out))
        go_wp2_with fail
        refine CS.out.mono ?_
        rintro e w8 ⟨rfl, hb8⟩
        have HB58 := Lib.hid (hb57.trans (hb8.mono hb57.size))
        clear hb57 hb6 hb7 hb8 hq6 hx7
        go_wp2
        exact ⟨⟨_, some n5, HLT.out, int_succ HLT.out HL.out, ONodeAt.move (Moves.below HB58.out) HN5.out, by rw [HCS.out]; exact HL5.out, by rw [HCS.out]; exact HM5.out.move goodSp (Moves.below HB58.out), HB5.out.trans (HB58.out.mono HB5.out.size)⟩, less_succ HLT.out HL.out⟩
      · obtain rfl : j = l.length := by omega
        have CAW := Lib.hid (CA.out wr hB)
        have HB := Lib.hid hB
        clear hlt hB hN hOL hMv H0 CF CA
        go_wp2_with fail
        refine CAW.out.mono ?_
        rintro e w2 ⟨rfl, hb2⟩
        have HB2 := Lib.hid (HB.out.trans (hb2.mono HB.out.size))
        clear hb2
        go_wp2
        go_ret
        exact ⟨rfl, HB2.out⟩
end Go.Proofs.YtehkjnmnbplcoaaDoor
