/- trie.Pairs, Root. -/
import Derived.Test.YtadaoceidkagfaaGreatDoorTrieT
import Derived.Test.YtadaoceidkagfaaGreatDoorLSameA
import Derived.Test.YtadaoceidkagfaaGreatDoorHighA
namespace Go.Proofs.YtadaoceidkagfaaGreatDoor
open Go.RowKit Go.Bw
set_option maxRecDepth 100000 in
theorem ncollect_nil (w : World) : Calls Tryz.prog 50 #[.slice none 0 0, .nilIface] w fun e w' => e = .returned (.slice none 0 0) ∧ w' = w := by
  have t1 := @ta_nl; have t2 := @ta_nb; have t3 := @ta_nr
  go_enter Tryz.func50, Tryz.ntmps50
  go_wp2
  go_ret
  exact ⟨rfl, rfl⟩
set_option maxRecDepth 100000 in
theorem noprs_any (w : World) : Calls Tryz.prog 28 #[.nilIface] w (Gives w fun q w' => PairsAt (fun k => w.heap.size ≤ k) w' q []) := by
  have HE := Lib.hid (enters_of Tryz.func52 (by kernel_rfl) rfl)
  go_enter Tryz.func28, Tryz.ntmps28
  go_wp2_with fail
  refine (ncollect_nil w).mono ?_
  rintro e w1 ⟨rfl, rfl⟩
  have CO := Lib.hid (pown_any (ok := AllB) (l := []) (v := .slice none 0 0) (w := w1) (by decide) (fun p hp => by cases hp) RowAt.nil)
  go_wp2_with fail
  refine CO.out.mono ?_
  rintro e w2 ⟨v2, rfl, ⟨g, cap, rfl, hown2⟩, hb2⟩
  have CS := Lib.hid (sortp_any pairsc_any HE.out hown2 (by decide) List.Pairwise.nil)
  have HB2 := Lib.hid hb2
  have HG := Lib.hid (hown2.lt g rfl)
  clear hown2 hb2
  go_wp2_with fail
  refine CS.out.mono ?_
  rintro e w3 ⟨rfl, hown3, hg3⟩
  go_wp2
  go_ret
  exact ⟨_, rfl, hown3.row goodPair, HB2.out.grown hg3 HB2.out.size (fun k e => by cases e; exact HG.out.1)⟩
theorem unlike_two {l : List Bw.En} (h : Bw.Unlike l) {a b : Bw.En} (ha : a ∈ l) (hb : b ∈ l) (hne : a ≠ b) : a.2.1 ≠ b.2.1 := by
  induction l with
  | nil => simp at ha
  | cons x r ih =>
    obtain ⟨h1, h2⟩ := List.pairwise_cons.1 h
    rcases List.mem_cons.1 ha with ea | ha' <;> rcases List.mem_cons.1 hb with eb | hb'
    · exact absurd (ea.trans eb.symm) hne
    · rw [ea]; exact h1 b hb'
    · rw [eb]; exact fun e => h1 a ha' e.symm
    · exact ih h2 ha' hb'
theorem lays_prs {level : Nat} {n : Bw.N} {S : Bw.En → Prop} (h : Bw.Lays level n S) : (∀ a b, S a → S b → a ≠ b → a.2.1 ≠ b.2.1) →
    (∀ p, p ∈ n.pairs ↔ ∃ e, S e ∧ e.2 = p) ∧ n.pairs.Pairwise (fun a b => a.1 ≠ b.1) ∧ n.pairs.length = n.count := by
  induction h with
  | @leaf level h p S hs =>
    intro _
    refine ⟨fun q => ?_, List.pairwise_singleton _ _, rfl⟩
    simp only [Bw.N.pairs, List.mem_singleton]
    exact ⟨fun hq => ⟨(h, p), (hs _).2 rfl, hq.symm⟩, fun ⟨e, he, hq⟩ => by rw [← hq, (hs _).1 he]⟩
  | @bucket level h t S he hr h2 hs =>
    intro _
    exact ⟨fun q => ⟨fun hq => ⟨(h, q), (hs _).2 ⟨rfl, hq⟩, rfl⟩, fun ⟨e, he, hq⟩ => hq ▸ ((hs _).1 he).2⟩, List.Pairwise.imp (fun h => Bw.lt_ne h) hr, Bw.T.length_list t⟩
  | @branch level m kids S hm32 hl h2 hc hk ih =>
    intro hu
    have IH : ∀ (j : Nat) (hj : j < kids.length) (hb : j < (Bw.bitsOf m).length), (∀ p, p ∈ (kids[j]).pairs ↔ ∃ e, (S e ∧ Bw.chunkAt e.1 level = (Bw.bitsOf m)[j]) ∧ e.2 = p) ∧ (kids[j]).pairs.Pairwise (fun a b => a.1 ≠ b.1) ∧ (kids[j]).pairs.length = (kids[j]).count := fun j hj hb =>
      ih j _ _ (List.getElem?_eq_getElem hb) (List.getElem?_eq_getElem hj) fun a b ha hb' hne => hu a b ha.1 hb'.1 hne
    have hat : ∀ k ∈ kids, ∃ (j : Nat) (hj : j < kids.length), kids[j] = k := fun k hk => List.getElem_of_mem hk
    simp only [Bw.N.pairs, pairsL_flat, Bw.N.count]
    refine ⟨fun p => ⟨fun hp => ?_, fun ⟨e, he, hep⟩ => ?_⟩, ?_, ?_⟩
    · obtain ⟨k, hk', hpk⟩ := List.mem_flatMap.1 hp
      obtain ⟨j, hj, rfl⟩ := hat k hk'
      obtain ⟨e, he, hep⟩ := ((IH j hj (by omega)).1 p).1 hpk
      exact ⟨e, he.1, hep⟩
    · obtain ⟨j, hj, hje⟩ := List.getElem_of_mem (hc e he)
      exact List.mem_flatMap.2 ⟨kids[j]'(by omega), List.getElem_mem _, ((IH j (by omega) hj).1 p).2 ⟨e, ⟨he, hje.symm⟩, hep⟩⟩
    · rw [List.pairwise_flatMap]
      refine ⟨fun k hk' => ?_, ?_⟩
      · obtain ⟨j, hj, rfl⟩ := hat k hk'
        exact (IH j hj (by omega)).2.1
      · rw [List.pairwise_iff_getElem]
        intro i j hi hj hij x hx y hy
        obtain ⟨e1, he1, rfl⟩ := ((IH i hi (by omega)).1 x).1 hx
        obtain ⟨e2, he2, rfl⟩ := ((IH j hj (by omega)).1 y).1 hy
        refine hu e1 e2 he1.1 he2.1 fun e => ?_
        have h1 := he1.2
        rw [e, he2.2] at h1
        have := (List.getElem_inj (Bw.nodup_bitsOf m)).1 h1
        omega
    · have key : ∀ ks : List Bw.N, (∀ k ∈ ks, k ∈ kids) → (ks.flatMap Bw.N.pairs).length = Bw.N.countL ks := by
        intro ks
        induction ks with
        | nil => intro _; rfl
        | cons k r ihr =>
          intro hm
          obtain ⟨j, hj, e⟩ := hat k (hm k (by simp))
          have := (IH j hj (by omega)).2.2
          rw [e] at this
          rw [List.flatMap_cons, List.length_append, this, ihr fun x hx => hm x (by simp [hx]), Bw.N.countL]
      exact key kids fun _ h => h
/-- the pairs of a map's layout, in their order, are the map -/
theorem ents_prs {F : Bw.Bytes → Nat} {m : List Bw.PV} {n : Bw.N} (hm : MapOk m) (h : Bw.OLays 0 (some n) (Bw.ents F m)) : Bw.come n.pairs = m ∧ n.pairs.length = m.length ∧ n.pairs.Pairwise (fun a b => a.1 ≠ b.1) := by
  obtain ⟨h1, h2, h3⟩ := lays_prs (S := (· ∈ Bw.ents F m)) h fun a b ha hb hne => unlike_two (Bw.unlike_ents hm.rises) ha hb hne
  have hc : Bw.come n.pairs = m := Bw.come_alike hm.rises h2 fun x => by
    rw [h1 x]
    exact ⟨fun ⟨e, he, hx⟩ => hx ▸ (Bw.mem_ents.1 he).1, fun hx => ⟨(F x.1, x), Bw.mem_ents.2 ⟨hx, rfl⟩, rfl⟩⟩
  exact ⟨hc, h3.trans (ents_many (o := some n) hm h), h2⟩
set_option maxRecDepth 100000 in
theorem nprs_any {F : Bw.Bytes → Nat} {ok : Nat → Prop} {nv : Value} {o : Option Bw.N} {m : List Bw.PV} {w : World} (hm : MapOk m) (hl : m.length ≤ 1048576) (hn : ONodeAt nt ok w nv o) (hL : Bw.OLays 0 o (Bw.ents F m)) :
    Calls Tryz.prog 28 #[nv] w (Gives w fun q w' => PairsAt (fun k => w.heap.size ≤ k) w' q m) := by
  cases o with
  | none =>
    cases hn
    have hz : m = [] := List.length_eq_zero_iff.1 (by rw [← Bw.length_ents F m, show Bw.ents F m = [] from hL]; rfl)
    rw [hz]
    exact noprs_any w
  | some n =>
    obtain ⟨h1, h2, h3⟩ := ents_prs hm hL
    refine (npairs_any (ents_fit hm hL n rfl) hn (by rw [h2]; exact hl) h3).mono ?_
    rintro e w1 ⟨q, rfl, ⟨g, cap, rfl, hown⟩, hb⟩
    rw [h1] at hown
    exact ⟨_, rfl, hown.row goodPair, hb⟩
set_option maxRecDepth 100000 in
set_option maxHeartbeats 1000000 in
theorem tpairs_any {ok : Nat → Prop} {s : List UInt8} {nv : Value} {o : Option Bw.N} {m : List Bw.PV} {w : World} (hs : s.length = 16) (hm : MapOk m) (hl : m.length ≤ 1048576) (hn : ONodeAt nt ok w nv o) (hL : Bw.OLays 0 o (Bw.ents (Bw.sipHash s) m)) :
    Calls Tryz.prog 13 #[trieV s nv] w (Gives w fun q w' => PairsAt (fun k => w.heap.size ≤ k) w' q m) := by
  have CP := Lib.hid (fun (W : World) (hW : Below w.heap.size w W) => nprs_any (F := Bw.sipHash s) hm hl (hn.move (Moves.below hW)) hL)
  obtain ⟨a0, a1, a2, a3, a4, a5, a6, a7, a8, a9, aA, aB, aC, aD, aE, aF, hs16⟩ := mapE16 hs
  have htv : trieV s nv = .agg #[.int .u8 (a0.toNat : Nat), .int .u8 (a1.toNat : Nat), .int .u8 (a2.toNat : Nat), .int .u8 (a3.toNat : Nat), .int .u8 (a4.toNat : Nat), .int .u8 (a5.toNat : Nat), .int .u8 (a6.toNat : Nat), .int .u8 (a7.toNat : Nat), .int .u8 (a8.toNat : Nat), .int .u8 (a9.toNat : Nat), .int .u8 (aA.toNat : Nat), .int .u8 (aB.toNat : Nat), .int .u8 (aC.toNat : Nat), .int .u8 (aD.toNat : Nat), .int .u8 (aE.toNat : Nat), .int .u8 (aF.toNat : Nat), nv] := by rw [hs16]; rfl
  rw [htv]
  obtain ⟨wb, hwb⟩ : ∃ wb, w.alloc (.cells #[.int .u8 (a0.toNat : Nat), .int .u8 (a1.toNat : Nat), .int .u8 (a2.toNat : Nat), .int .u8 (a3.toNat : Nat), .int .u8 (a4.toNat : Nat), .int .u8 (a5.toNat : Nat), .int .u8 (a6.toNat : Nat), .int .u8 (a7.toNat : Nat), .int .u8 (a8.toNat : Nat), .int .u8 (a9.toNat : Nat), .int .u8 (aA.toNat : Nat), .int .u8 (aB.toNat : Nat), .int .u8 (aC.toNat : Nat), .int .u8 (aD.toNat : Nat), .int .u8 (aE.toNat : Nat), .int .u8 (aF.toNat : Nat), nv] 30) = wb := ⟨_, rfl⟩
  have hB : Below w.heap.size w wb := by rw [← hwb]; exact (Below.refl _ _).alloc (Nat.le_refl _) _
  have hc : wb.cell? ⟨w.heap.size, 16, none⟩ = some nv := (tri_of (by rw [← hwb]; exact heap_alloc_new w _)).2.2.2.2.2.2.2.2.2.2.2.2.2.2.2.2
  have HB := Lib.hid hB
  clear hs16 htv hm hl hn hL hB hs
  go_enter Tryz.func13, Tryz.ntmps13
  go_wp2_with (go_at_call 28; (with_reducible refine (CP.out _ HB.out).mono ?_); rintro e w2 ⟨q, rfl, hq, hb2⟩)
  go_ret
  exact ⟨_, rfl, hq.move goodPair (Moves.weaken fun k hk _ => Nat.le_trans HB.out.size hk), HB.out.trans (hb2.mono HB.out.size)⟩
set_option maxRecDepth 100000 in
set_option maxHeartbeats 1000000 in
theorem troot_any {s : List UInt8} {nv : Value} (hs : s.length = 16) (w : World) :
    Calls Tryz.prog 15 #[trieV s nv] w fun e w' => e = .returned nv ∧ Below w.heap.size w w' := by
  obtain ⟨a0, a1, a2, a3, a4, a5, a6, a7, a8, a9, aA, aB, aC, aD, aE, aF, hs16⟩ := mapE16 hs
  have htv : trieV s nv = .agg #[.int .u8 (a0.toNat : Nat), .int .u8 (a1.toNat : Nat), .int .u8 (a2.toNat : Nat), .int .u8 (a3.toNat : Nat), .int .u8 (a4.toNat : Nat), .int .u8 (a5.toNat : Nat), .int .u8 (a6.toNat : Nat), .int .u8 (a7.toNat : Nat), .int .u8 (a8.toNat : Nat), .int .u8 (a9.toNat : Nat), .int .u8 (aA.toNat : Nat), .int .u8 (aB.toNat : Nat), .int .u8 (aC.toNat : Nat), .int .u8 (aD.toNat : Nat), .int .u8 (aE.toNat : Nat), .int .u8 (aF.toNat : Nat), nv] := by rw [hs16]; rfl
  rw [htv]
  obtain ⟨wb, hwb⟩ : ∃ wb, w.alloc (.cells #[.int .u8 (a0.toNat : Nat), .int .u8 (a1.toNat : Nat), .int .u8 (a2.toNat : Nat), .int .u8 (a3.toNat : Nat), .int .u8 (a4.toNat : Nat), .int .u8 (a5.toNat : Nat), .int .u8 (a6.toNat : Nat), .int .u8 (a7.toNat : Nat), .int .u8 (a8.toNat : Nat), .int .u8 (a9.toNat : Nat), .int .u8 (aA.toNat : Nat), .int .u8 (aB.toNat : Nat), .int .u8 (aC.toNat : Nat), .int .u8 (aD.toNat : Nat), .int .u8 (aE.toNat : Nat), .int .u8 (aF.toNat : Nat), nv] 30) = wb := ⟨_, rfl⟩
  have hB : Below w.heap.size w wb := by rw [← hwb]; exact (Below.refl _ _).alloc (Nat.le_refl _) _
  have hc : wb.cell? ⟨w.heap.size, 16, none⟩ = some nv := (tri_of (by rw [← hwb]; exact heap_alloc_new w _)).2.2.2.2.2.2.2.2.2.2.2.2.2.2.2.2
  have HB := Lib.hid hB
  clear hs16 htv hB hs
  go_enter Tryz.func15, Tryz.ntmps15
  go_wp2
  go_ret
  exact ⟨rfl, HB.out⟩
end Go.Proofs.YtadaoceidkagfaaGreatDoor
