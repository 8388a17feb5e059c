
import Derived.Test.YtadaoceidkagfaaGreatDoorTrieT
import Derived.Test.YtadaoceidkagfaaGreatDoorLSameA
import Derived.Test.YtadaoceidkagfaaGreatDoorHighA
import Derived.Test.YtadaoceidkagfaaGreatDoorStepT
import Derived.Test.YtadaoceidkagfaaGreatDoorAw21
import Derived.Deep.RegionHeld3
import Derived.Test.YtadaoceidkagfaaGreatDoorEntA
import Derived.Stop.BytesEq
/- trie.Pairs, Root. -/
namespace Go.Proofs.YtadaoceidkagfaaGreatDoor
open Go.RowKit Go.Bw
set_option maxRecDepth 100000 in
theorem ncollect_nil (w : World) : Calls Tryz.prog 50 #[.slice none 0 0, .nilIface] w fun e w' => e = .returned (.slice none 0 0) /\ w' = w := by
  have t1 := @ta_nl; have t2 := @ta_nb; have t3 := @ta_nr
  go_enter Tryz.func50, Tryz.ntmps50
  go_wp2
  go_ret
  exact ⟨rfl, rfl⟩
set_option maxRecDepth 100000 in
theorem noprs_any (w : World) : Calls Tryz.prog 28 #[.nilIface] w (Gives w fun q w' => PairsAt (fun k => w.heap.size <= k) w' q []) := by
  have HE := Lib.hid (enters_of Tryz.func52 (by kernel_rfl) rfl)
  go_enter Tryz.func28, Tryz.ntmps28
  go_wp2_with fail
  refine (ncollect_nil w).mono ?_
  rintro e w1 ⟨rfl, rfl⟩
  have CO := Lib.hid (pown_any (ok := AllB) (l := []) (v := .slice none 0 0) (w := w1) (by decide) (fun p hp => by cases hp) RowAt.nil)
  go_wp2_with fail
  refine CO.out.mono ?_
  rintro e w2 ⟨v2, rfl, ⟨g, cap, rfl, hown2⟩, hb2⟩
  have CS := Lib.hid (sortp_any pairsc_any HE.out hown2 (by decide) List.Pairwise.nil)
  have HB2 := Lib.hid hb2
  have HG := Lib.hid (hown2.lt g rfl)
  clear hown2 hb2
  go_wp2_with fail
  refine CS.out.mono ?_
  rintro e w3 ⟨rfl, hown3, hg3⟩
  go_wp2
  go_ret
  exact ⟨_, rfl, hown3.row goodPair, HB2.out.grown hg3 HB2.out.size (fun k e => by cases e; exact HG.out.1)⟩
theorem unlike_two {l : List Bw.En} (h : Bw.Unlike l) {a b : Bw.En} (ha : a ∈ l) (hb : b ∈ l) (hne : a ≠ b) : a.2.1 ≠ b.2.1 := by
  induction l with
  | nil => simp at ha
  | cons x r ih =>
    obtain ⟨h1, h2⟩ := List.pairwise_cons.1 h
    rcases List.mem_cons.1 ha with ea | ha' <;> rcases List.mem_cons.1 hb with eb | hb'
    · exact absurd (ea.trans eb.symm) hne
    · rw [ea]; exact h1 b hb'
    · rw [eb]; exact fun e => h1 a ha' e.symm
    · exact ih h2 ha' hb'
theorem lays_prs {level : Nat} {n : Bw.N} {S : Bw.En -> Prop} (h : Bw.Lays level n S) : (∀ a b, S a -> S b -> a ≠ b -> a.2.1 ≠ b.2.1) ->
    (∀ p, p ∈ n.pairs ↔ ∃ e, S e /\ e.2 = p) /\ n.pairs.Pairwise (fun a b => a.1 ≠ b.1) /\ n.pairs.length = n.count := by
  induction h with
  | @leaf level h p S hs =>
    intro _
    refine ⟨fun q => ?_, List.pairwise_singleton _ _, rfl⟩
    simp only [Bw.N.pairs, List.mem_singleton]
    exact ⟨fun hq => ⟨(h, p), (hs _).2 rfl, hq.symm⟩, fun ⟨e, he, hq⟩ => by rw [<- hq, (hs _).1 he]⟩
  | @bucket level h t S he hr h2 hs =>
    intro _
    exact ⟨fun q => ⟨fun hq => ⟨(h, q), (hs _).2 ⟨rfl, hq⟩, rfl⟩, fun ⟨e, he, hq⟩ => hq ▸ ((hs _).1 he).2⟩, List.Pairwise.imp (fun h => Bw.lt_ne h) hr, Bw.T.length_list t⟩
  | @branch level m kids S hm32 hl h2 hc hk ih =>
    intro hu
    have IH : ∀ (j : Nat) (hj : j < kids.length) (hb : j < (Bw.bitsOf m).length), (∀ p, p ∈ (kids[j]).pairs ↔ ∃ e, (S e /\ Bw.chunkAt e.1 level = (Bw.bitsOf m)[j]) /\ e.2 = p) /\ (kids[j]).pairs.Pairwise (fun a b => a.1 ≠ b.1) /\ (kids[j]).pairs.length = (kids[j]).count := fun j hj hb =>
      ih j _ _ (List.getElem?_eq_getElem hb) (List.getElem?_eq_getElem hj) fun a b ha hb' hne => hu a b ha.1 hb'.1 hne
    have hat : ∀ k ∈ kids, ∃ (j : Nat) (hj : j < kids.length), kids[j] = k := fun k hk => List.getElem_of_mem hk
    simp only [Bw.N.pairs, pairsL_flat, Bw.N.count]
    refine ⟨fun p => ⟨fun hp => ?_, fun ⟨e, he, hep⟩ => ?_⟩, ?_, ?_⟩
    · obtain ⟨k, hk', hpk⟩ := List.mem_flatMap.1 hp
      obtain ⟨j, hj, rfl⟩ := hat k hk'
      obtain ⟨e, he, hep⟩ := ((IH j hj (by omega)).1 p).1 hpk
      exact ⟨e, he.1, hep⟩
    · obtain ⟨j, hj, hje⟩ := List.getElem_of_mem (hc e he)
      exact List.mem_flatMap.2 ⟨kids[j]'(by omega), List.getElem_mem _, ((IH j (by omega) hj).1 p).2 ⟨e, ⟨he, hje.symm⟩, hep⟩⟩
    · rw [List.pairwise_flatMap]
      refine ⟨fun k hk' => ?_, ?_⟩
      · obtain ⟨j, hj, rfl⟩ := hat k hk'
        exact (IH j hj (by omega)).2.1
      · rw [List.pairwise_iff_getElem]
        intro i j hi hj hij x hx y hy
        obtain ⟨e1, he1, rfl⟩ := ((IH i hi (by omega)).1 x).1 hx
        obtain ⟨e2, he2, rfl⟩ := ((IH j hj (by omega)).1 y).1 hy
        refine hu e1 e2 he1.1 he2.1 fun e => ?_
        have h1 := he1.2
        rw [e, he2.2] at h1
        have := (List.getElem_inj (Bw.nodup_bitsOf m)).1 h1
        omega
    · have key : ∀ ks : List Bw.N, (∀ k ∈ ks, k ∈ kids) -> (ks.flatMap Bw.N.pairs).length = Bw.N.countL ks := by
        intro ks
        induction ks with
        | nil => intro _; rfl
        | cons k r ihr =>
          intro hm
          obtain ⟨j, hj, e⟩ := hat k (hm k (by simp))
          have := (IH j hj (by omega)).2.2
          rw [e] at this
          rw [List.flatMap_cons, List.length_append, this, ihr fun x hx => hm x (by simp [hx]), Bw.N.countL]
      exact key kids fun _ h => h
theorem ents_prs {F : Bw.Bytes -> Nat} {m : List Bw.PV} {n : Bw.N} (hm : MapOk m) (h : Bw.OLays 0 (some n) (Bw.ents F m)) : Bw.come n.pairs = m /\ n.pairs.length = m.length /\ n.pairs.Pairwise (fun a b => a.1 ≠ b.1) := by
  obtain ⟨h1, h2, h3⟩ := lays_prs (S := (· ∈ Bw.ents F m)) h fun a b ha hb hne => unlike_two (Bw.unlike_ents hm.rises) ha hb hne
  have hc : Bw.come n.pairs = m := Bw.come_alike hm.rises h2 fun x => by
    rw [h1 x]
    exact ⟨fun ⟨e, he, hx⟩ => hx ▸ (Bw.mem_ents.1 he).1, fun hx => ⟨(F x.1, x), Bw.mem_ents.2 ⟨hx, rfl⟩, rfl⟩⟩
  exact ⟨hc, h3.trans (ents_many (o := some n) hm h), h2⟩
set_option maxRecDepth 100000 in
theorem nprs_any {F : Bw.Bytes -> Nat} {ok : Nat -> Prop} {nv : Value} {o : Option Bw.N} {m : List Bw.PV} {w : World} (hm : MapOk m) (hl : m.length <= 1048576) (hn : ONodeAt nt ok w nv o) (hL : Bw.OLays 0 o (Bw.ents F m)) :
    Calls Tryz.prog 28 #[nv] w (Gives w fun q w' => PairsAt (fun k => w.heap.size <= k) w' q m) := by
  cases o with
  | none =>
    cases hn
    have hz : m = [] := List.length_eq_zero_iff.1 (by rw [<- Bw.length_ents F m, show Bw.ents F m = [] from hL]; rfl)
    rw [hz]
    exact noprs_any w
  | some n =>
    obtain ⟨h1, h2, h3⟩ := ents_prs hm hL
    refine (npairs_any (ents_fit hm hL n rfl) hn (by rw [h2]; exact hl) h3).mono ?_
    rintro e w1 ⟨q, rfl, ⟨g, cap, rfl, hown⟩, hb⟩
    rw [h1] at hown
    exact ⟨_, rfl, hown.row goodPair, hb⟩
set_option maxRecDepth 100000 in
set_option maxHeartbeats 1000000 in
theorem tpairs_any {ok : Nat -> Prop} {s : List UInt8} {nv : Value} {o : Option Bw.N} {m : List Bw.PV} {w : World} (hs : s.length = 16) (hm : MapOk m) (hl : m.length <= 1048576) (hn : ONodeAt nt ok w nv o) (hL : Bw.OLays 0 o (Bw.ents (Bw.sipHash s) m)) :
    Calls Tryz.prog 13 #[trieV s nv] w (Gives w fun q w' => PairsAt (fun k => w.heap.size <= k) w' q m) := by
  have CP := Lib.hid (fun (W : World) (hW : Below w.heap.size w W) => nprs_any (F := Bw.sipHash s) hm hl (hn.move (Moves.below hW)) hL)
  obtain ⟨a0, a1, a2, a3, a4, a5, a6, a7, a8, a9, aA, aB, aC, aD, aE, aF, hs16⟩ := mapE16 hs
  have htv : trieV s nv = .agg #[.int .u8 (a0.toNat : Nat), .int .u8 (a1.toNat : Nat), .int .u8 (a2.toNat : Nat), .int .u8 (a3.toNat : Nat), .int .u8 (a4.toNat : Nat), .int .u8 (a5.toNat : Nat), .int .u8 (a6.toNat : Nat), .int .u8 (a7.toNat : Nat), .int .u8 (a8.toNat : Nat), .int .u8 (a9.toNat : Nat), .int .u8 (aA.toNat : Nat), .int .u8 (aB.toNat : Nat), .int .u8 (aC.toNat : Nat), .int .u8 (aD.toNat : Nat), .int .u8 (aE.toNat : Nat), .int .u8 (aF.toNat : Nat), nv] := by rw [hs16]; rfl
  rw [htv]
  obtain ⟨wb, hwb⟩ : ∃ wb, w.alloc (.cells #[.int .u8 (a0.toNat : Nat), .int .u8 (a1.toNat : Nat), .int .u8 (a2.toNat : Nat), .int .u8 (a3.toNat : Nat), .int .u8 (a4.toNat : Nat), .int .u8 (a5.toNat : Nat), .int .u8 (a6.toNat : Nat), .int .u8 (a7.toNat : Nat), .int .u8 (a8.toNat : Nat), .int .u8 (a9.toNat : Nat), .int .u8 (aA.toNat : Nat), .int .u8 (aB.toNat : Nat), .int .u8 (aC.toNat : Nat), .int .u8 (aD.toNat : Nat), .int .u8 (aE.toNat : Nat), .int .u8 (aF.toNat : Nat), nv] 30) = wb := ⟨_, rfl⟩
  have hB : Below w.heap.size w wb := by rw [<- hwb]; exact (Below.refl _ _).alloc (Nat.le_refl _) _
  have hc : wb.cell? ⟨w.heap.size, 16, none⟩ = some nv := (tri_of (by rw [<- hwb]; exact heap_alloc_new w _)).2.2.2.2.2.2.2.2.2.2.2.2.2.2.2.2
  have HB := Lib.hid hB
  clear hs16 htv hm hl hn hL hB hs
  go_enter Tryz.func13, Tryz.ntmps13
  go_wp2_with (go_at_call 28; (with_reducible refine (CP.out _ HB.out).mono ?_); rintro e w2 ⟨q, rfl, hq, hb2⟩)
  go_ret
  exact ⟨_, rfl, hq.move goodPair (Moves.weaken fun k hk _ => Nat.le_trans HB.out.size hk), HB.out.trans (hb2.mono HB.out.size)⟩
set_option maxRecDepth 100000 in
set_option maxHeartbeats 1000000 in
theorem troot_any {s : List UInt8} {nv : Value} (hs : s.length = 16) (w : World) :
    Calls Tryz.prog 15 #[trieV s nv] w fun e w' => e = .returned nv /\ Below w.heap.size w w' := by
  obtain ⟨a0, a1, a2, a3, a4, a5, a6, a7, a8, a9, aA, aB, aC, aD, aE, aF, hs16⟩ := mapE16 hs
  have htv : trieV s nv = .agg #[.int .u8 (a0.toNat : Nat), .int .u8 (a1.toNat : Nat), .int .u8 (a2.toNat : Nat), .int .u8 (a3.toNat : Nat), .int .u8 (a4.toNat : Nat), .int .u8 (a5.toNat : Nat), .int .u8 (a6.toNat : Nat), .int .u8 (a7.toNat : Nat), .int .u8 (a8.toNat : Nat), .int .u8 (a9.toNat : Nat), .int .u8 (aA.toNat : Nat), .int .u8 (aB.toNat : Nat), .int .u8 (aC.toNat : Nat), .int .u8 (aD.toNat : Nat), .int .u8 (aE.toNat : Nat), .int .u8 (aF.toNat : Nat), nv] := by rw [hs16]; rfl
  rw [htv]
  obtain ⟨wb, hwb⟩ : ∃ wb, w.alloc (.cells #[.int .u8 (a0.toNat : Nat), .int .u8 (a1.toNat : Nat), .int .u8 (a2.toNat : Nat), .int .u8 (a3.toNat : Nat), .int .u8 (a4.toNat : Nat), .int .u8 (a5.toNat : Nat), .int .u8 (a6.toNat : Nat), .int .u8 (a7.toNat : Nat), .int .u8 (a8.toNat : Nat), .int .u8 (a9.toNat : Nat), .int .u8 (aA.toNat : Nat), .int .u8 (aB.toNat : Nat), .int .u8 (aC.toNat : Nat), .int .u8 (aD.toNat : Nat), .int .u8 (aE.toNat : Nat), .int .u8 (aF.toNat : Nat), nv] 30) = wb := ⟨_, rfl⟩
  have hB : Below w.heap.size w wb := by rw [<- hwb]; exact (Below.refl _ _).alloc (Nat.le_refl _) _
  have hc : wb.cell? ⟨w.heap.size, 16, none⟩ = some nv := (tri_of (by rw [<- hwb]; exact heap_alloc_new w _)).2.2.2.2.2.2.2.2.2.2.2.2.2.2.2.2
  have HB := Lib.hid hB
  clear hs16 htv hB hs
  go_enter Tryz.func15, Tryz.ntmps15
  go_wp2
  go_ret
  exact ⟨rfl, HB.out⟩
end Go.Proofs.YtadaoceidkagfaaGreatDoor
/- A trie's variable, and a seed's, as a whole: loads and stores of its value. -/
namespace Go.Proofs.YtadaoceidkagfaaGreatDoor
open Go.RowKit Go.Bw
def trieL (s : List UInt8) (nv : Value) : List Value := s.map encB ++ [nv]
def seedL (s : List UInt8) : List Value := s.map encB
theorem trieL_length {s : List UInt8} (hs : s.length = 16) (nv : Value) : (trieL s nv).length = 17 := by simp [trieL, hs]
theorem seedL_length {s : List UInt8} (hs : s.length = 16) : (seedL s).length = 16 := by simp [seedL, hs]
theorem trieL_one {s : List UInt8} {nv : Value} (h : nv.oneCell' = true) : (trieL s nv).toArray.all (·.oneCell') = true := all_oneCell_toArray (fun v hv => by
  rcases List.mem_append.1 hv with h1 | h1
  · obtain ⟨b, _, rfl⟩ := List.mem_map.1 h1
    rfl
  · rw [List.mem_singleton.1 h1]; exact h)
theorem seedV_is (s : List UInt8) : seedV s = .agg (seedL s).toArray := rfl
structure TrieIn (W : World) (b : Nat) (s : List UInt8) (nv : Value) : Prop where
  rng : W.rangeAt b 0 (trieL s nv)
  there : W.there b 0 17
theorem rng_same {W W' : World} {B : Nat} {cs : List Value} (h : W'.heap[B]? = W.heap[B]?) (hr : W.rangeAt B 0 cs) : W'.rangeAt B 0 cs := fun j v hv => (World.cell?_of_block h).trans (hr j v hv)
theorem there_same {W W' : World} {B n : Nat} (h : W'.heap[B]? = W.heap[B]?) (hr : W.there B 0 n) : W'.there B 0 n := fun j hj => by
  have h1 := hr j hj
  refine ⟨by rw [World.cell?_of_block h]; exact h1.1, ?_⟩
  have h2 := h1.2
  simp only [World.frozen?, h] at h2 ⊢
  exact h2
theorem there_lt {W : World} {B n : Nat} (hr : W.there B 0 (n + 1)) : B < W.heap.size := by
  obtain ⟨u, hu⟩ := Option.isSome_iff_exists.1 (hr 0 (Nat.succ_pos _)).1
  exact World.block_lt_of_cell? W _ hu
theorem TrieIn.same {W W' : World} {b : Nat} {s : List UInt8} {nv : Value} (h : TrieIn W b s nv) (e : W'.heap[b]? = W.heap[b]?) : TrieIn W' b s nv := ⟨rng_same e h.rng, there_same e h.there⟩
theorem TrieIn.lt {W : World} {b : Nat} {s : List UInt8} {nv : Value} (h : TrieIn W b s nv) : b < W.heap.size := there_lt h.there
theorem TrieIn.below {W W' : World} {b : Nat} {s : List UInt8} {nv : Value} (h : TrieIn W b s nv) (hb : Below W.heap.size W W') : TrieIn W' b s nv := h.same (hb.block b h.lt)
theorem TrieIn.turns {W W' : World} {b : Nat} {s : List UInt8} {nv : Value} {mb : Option Nat} (h : TrieIn W b s nv) (hb : Turns W W' mb) (hn : some b ≠ mb) : TrieIn W' b s nv := h.same (hb.block b h.lt hn)
theorem TrieIn.put {W : World} {b : Nat} {s : List UInt8} (nv : Value) (hs : s.length = 16) (h : W.there b 0 17) : TrieIn (W.setCells b 0 (trieL s nv)) b s nv :=
  ⟨World.rangeAt_setCells_same _ _ _ _ (by rw [trieL_length hs]; exact h), World.there_setCells h _ _ _⟩
section
variable {ops : Array Oper} {rest : List Oper} {op : Oper} {a : Act} {w : World} {Q : Exit -> Act -> World -> Prop} {K : Act -> World -> Prop} {S : World -> Prop} {s : List UInt8} {nv : Value} {x y : Operand} {b : Nat}
theorem wpl_load_trie (hgd : op.guard = none) (ho : op.op = .load 30 x) (hx : a.eval x = .pointer (some ⟨b, 0, none⟩)) (hs : s.length = 16) (hc : TrieIn w b s nv)
    (h : wpList Tryz.prog ops Q rest (a.put op.dst (trieV s nv)) w) : wpList Tryz.prog ops Q (op :: rest) a w :=
  wpList_load_mid (P := Tryz.prog) hgd 30 x ho b 0 hx (trieL s nv) _ hc.rng Tryz.underlying30 rfl (trie_size.trans (congrArg some (trieL_length hs nv).symm)) h
theorem wpl_store_trie (hgd : op.guard = none) (ho : op.op = .store 30 x y) (hx : a.eval x = .pointer (some ⟨b, 0, none⟩)) (hy : a.eval y = trieV s nv) (hs : s.length = 16) (h1 : nv.oneCell' = true) (ht : w.there b 0 17)
    (h : wpList Tryz.prog ops Q rest (a.put op.dst undef) (w.setCells b 0 (trieL s nv))) : wpList Tryz.prog ops Q (op :: rest) a w :=
  wpList_store_mid (P := Tryz.prog) hgd 30 x y ho b 0 (trieL s nv).toArray hx hy (by rw [List.size_toArray, trieL_length hs]; exact ht) (by rw [List.size_toArray, trieL_length hs]; exact trie_size) (trieL_one h1) h
theorem wpl_load_seed (hgd : op.guard = none) (ho : op.op = .load 23 x) (hx : a.eval x = .pointer (some ⟨b, 0, none⟩)) (hs : s.length = 16) (hc : w.rangeAt b 0 (seedL s))
    (h : wpList Tryz.prog ops Q rest (a.put op.dst (seedV s)) w) : wpList Tryz.prog ops Q (op :: rest) a w :=
  wpList_load_mid (P := Tryz.prog) hgd 23 x ho b 0 hx (seedL s) _ hc Tryz.underlying23 rfl (seed_size.trans (congrArg some (seedL_length hs).symm)) h
theorem yieldsIf_load_seed (hw : Region.wanted op (yielded ops a.tmps) = true) (ho : op.op = .load 23 x) (hx : a.eval x = .pointer (some ⟨b, 0, none⟩)) (hs : s.length = 16) (hc : ∀ W, S W -> W.rangeAt b 0 (seedL s)) :
    YieldsIf Tryz.prog ops S op (seedV s) a :=
  yieldsIf_load_mid (P := Tryz.prog) hw 23 x ho b 0 hx (seedL s) _ hc Tryz.underlying23 rfl (seed_size.trans (congrArg some (seedL_length hs).symm))
end
theorem region_cut {P : Program} {id : Nat} {ops : Array Oper} {dr : Bool} {Q : Exit -> Act -> World -> Prop} {a : Act} {w : World} (R : Act -> Act -> World -> Prop)
    (h1 : (Code.region id ops dr).wp P (fun e a' w' => e = .normal /\ R a a' w') a w) (h2 : ∀ a' w', R a a' w' -> Q .normal a' w') : (Code.region id ops dr).wp P Q a w :=
  Code.wp_mono (fun e a' w' h => by obtain ⟨rfl, h⟩ := h; exact h2 a' w' h) h1
theorem seed_in {w : World} {s : List UInt8} : (w.alloc (.cells (seedL s).toArray 23)).rangeAt w.heap.size 0 (seedL s) := fun j v hv => by
  have h := cell_of_row (w.alloc (.cells (seedL s).toArray 23)) w.heap.size j _ _ (0, 0) (heap_alloc_new w _)
  rw [Nat.zero_add, h]
  simpa using hv
theorem trie_there (w : World) (C : Array Value) (t : TypeId) (hC : C.size = 17) : (w.alloc (.cells C t)).there w.heap.size 0 17 := there_of (heap_alloc_new w _) hC.symm
end Go.Proofs.YtadaoceidkagfaaGreatDoor
/- Two tries in two variables. -/
namespace Go.Proofs.YtadaoceidkagfaaGreatDoor
open Go.RowKit Go.Bw
abbrev Not2 (b1 b2 : Nat) : Nat -> Prop := fun k => k ≠ b1 /\ k ≠ b2
structure TwoAt (w : World) (b1 b2 : Nat) (s t : List UInt8) (m1 m2 : List Bw.PV) (na nb : Value) (oa ob : Option Bw.N) (W : World) : Prop where
  ne : b1 ≠ b2
  l1 : w.heap.size <= b1
  l2 : w.heap.size <= b2
  t1 : TrieIn W b1 s na
  t2 : TrieIn W b2 t nb
  n1 : ONodeAt nt (Not2 b1 b2) W na oa
  n2 : ONodeAt nt (Not2 b1 b2) W nb ob
  y1 : Bw.OLays 0 oa (Bw.ents (Bw.sipHash s) m1)
  y2 : Bw.OLays 0 ob (Bw.ents (Bw.sipHash t) m2)
  hB : Below w.heap.size w W
section
variable {w W W' : World} {b1 b2 : Nat} {s t : List UInt8} {m1 m2 m' : List Bw.PV} {na nb na' : Value} {oa ob oa' : Option Bw.N}
theorem TwoAt.below (h : TwoAt w b1 b2 s t m1 m2 na nb oa ob W) (hb : Below W.heap.size W W') : TwoAt w b1 b2 s t m1 m2 na nb oa ob W' :=
  ⟨h.ne, h.l1, h.l2, h.t1.below hb, h.t2.below hb, h.n1.move (Moves.below hb), h.n2.move (Moves.below hb), h.y1, h.y2, h.hB.trans (hb.mono h.hB.size)⟩
end
section
variable {P : Program} {ops : Array Oper} {Q : Exit -> Act -> World -> Prop} {md : Region.Mode} {S : World -> Prop}
theorem ready_cons {i : Nat} {d : Option Tmp} {op : Op} {ty : TypeId} {pos : String} {af : Array Edge} {g : Option (Nat × Bool)} {fuel : Nat} {listed : Array Bool} {a : Act} {w : World} {rs : List Nat} (hi : ops[i]? = some ⟨d, op, ty, pos, af, g⟩)
    (hw : Region.wanted ⟨d, op, ty, pos, af, g⟩ (yielded ops a.tmps) = true)
    (h : ∀ K' : Act -> World -> Prop, Shut (∀ a w, S w -> (S w -> wpAnyH P md ops Q S fuel (listed.setIfInBounds i true) a w) -> K' a w) -> Oper.wp P ⟨d, op, ty, pos, af, g⟩ a w K' Q) (hs : AllReadyH P md ops Q S fuel listed a w rs) : AllReadyH P md ops Q S fuel listed a w (i :: rs) :=
  AllReadyH.cons hi (fun K hK => by rw [if_pos hw]; exact h K hK) hs
end
end Go.Proofs.YtadaoceidkagfaaGreatDoor
/- One trie in a variable. (mkplays.py) -/
namespace Go.Proofs.YtadaoceidkagfaaGreatDoor
open Go.RowKit Go.Bw
abbrev Not1 (b : Nat) : Nat -> Prop := fun k => k ≠ b
structure OneAt (w : World) (b : Nat) (s : List UInt8) (m : List Bw.PV) (nv : Value) (o : Option Bw.N) (W : World) : Prop where
  lb : w.heap.size < b
  t : TrieIn W b s nv
  n : ONodeAt nt (Not1 b) W nv o
  y : Bw.OLays 0 o (Bw.ents (Bw.sipHash s) m)
  sd : W.rangeAt w.heap.size 0 (seedL s)
  hB : Below w.heap.size w W
section
variable {w W W' : World} {b : Nat} {s : List UInt8} {m m' : List Bw.PV} {nv nv' : Value} {o o' : Option Bw.N}
theorem OneAt.below (h : OneAt w b s m nv o W) (hb : Below W.heap.size W W') : OneAt w b s m nv o W' :=
  ⟨h.lb, h.t.below hb, h.n.move (Moves.below hb), h.y, rng_same (hb.block _ (Nat.lt_trans h.lb h.t.lt)) h.sd, h.hB.trans (hb.mono h.hB.size)⟩
theorem moves_set (b : Nat) (W : World) (cs : List Value) : Moves (Not1 b) (Not1 b) W (W.setCells b 0 cs) := fun _ hk _ => ⟨hk, World.other_setCells hk cs 0 W⟩
theorem OneAt.set (h : OneAt w b s m nv o W) (hs : s.length = 16) (hn : ONodeAt nt (Not1 b) W nv' o') (hy : Bw.OLays 0 o' (Bw.ents (Bw.sipHash s) m')) : OneAt w b s m' nv' o' (W.setCells b 0 (trieL s nv')) :=
  ⟨h.lb, TrieIn.put nv' hs h.t.there, hn.move (moves_set b W _), hy, rng_same (World.other_setCells (Nat.ne_of_lt h.lb) _ _ _) h.sd, World.below_setCells (Nat.le_of_lt h.lb) _ _ _ h.hB⟩
theorem OneAt.ins (h : OneAt w b s m nv o W) (hs : s.length = 16) (hm : MapOk m) {xv u1 u2 : Value} {q : Bw.PV} (hx : SPairsAt (Not1 b) W xv m) (hu : BytesAt AllB w u1 q.1) (hv : BytesAt AllB w u2 q.2)
    (hq : q.1.length <= 1048576 /\ q.2.length <= 1048576) (hT : Tab w) (hS : Sta w) : StepIn (Not1 b) (fun k => k < w.heap.size) none s m o q (0, 0) W nv xv u1 u2 (.pointer none) :=
  have hmb : Moves AllB (fun k => k < w.heap.size) w W := fun k _ hl => ⟨hl, h.hB.block k hl⟩
  { seed := hs, map := hm, node := h.n, lays := h.y, row := hx, b1 := hu.move goodByte hmb, b2 := hv.move goodByte hmb, p1 := hq.1, p2 := hq.2, meter := rfl, hokm := fun _ _ e => (by cases e), hokb := fun _ _ e => (by cases e), hmt := fun e => (by cases e),
    hok := fun k hk => by have := h.t.lt; show k ≠ b; omega, tab := hT.below hT.pos h.hB, sta := hS.below hS.pos h.hB, c1 := by decide, c2 := by decide }
theorem one_start {WA : World} (hwA : Below w.heap.size w WA) (hlb : w.heap.size < b) (_ : WA.heap.size <= b) (h1 : W.there b 0 17) (hs : s.length = 16) (hsd : W.rangeAt w.heap.size 0 (seedL s)) (hS : Below WA.heap.size WA W) :
    OneAt w b s [] .nilIface none (W.setCells b 0 (trieL s .nilIface)) :=
  ⟨hlb, TrieIn.put .nilIface hs h1, rfl, rfl, rng_same (World.other_setCells (Nat.ne_of_lt hlb) _ _ _) hsd, World.below_setCells (Nat.le_of_lt hlb) _ _ _ (hwA.trans (hS.mono hwA.size))⟩
end
end Go.Proofs.YtadaoceidkagfaaGreatDoor
