
import Derived.Test.YtadaoceidkagfaaGreatDoorOwn
import Derived.Test.YtadaoceidkagfaaGreatDoorTreeA
import Derived.Test.YtadaoceidkagfaaGreatDoorBwAll
import Derived.Test.YtadaoceidkagfaaGreatDoorBits1
namespace Go.Proofs.YtadaoceidkagfaaGreatDoor
open Go.RowKit Go.Bw
abbrev nt : NT := ⟨114, 117, 122⟩
set_option maxRecDepth 100000 in
set_option maxHeartbeats 400000 in
theorem leaf_any {ok : Nat -> Prop} {u v : Value} {p : Bw.PV} {h : Nat} (w : World) (hu : BytesAt ok w u p.1) (hv : BytesAt ok w v p.2) (h1 : p.1.length <= 1048576) (h2 : p.2.length <= 1048576) :
    Calls Tryz.prog 98 #[.int .u64 (h : Nat), .agg #[u, v]] w (Gives w fun r w' => NodeAt nt (fun k => w.heap.size <= k) w' r (.leaf h p)) := by
  have hB1 : Below w.heap.size w (w.alloc (.cells #[u, v] 62)) := by exact gB1
  have hB : Below w.heap.size w ((w.alloc (.cells #[u, v] 62)).alloc (.cells #[u, v] 62)) := by exact gB1
  have CO := Lib.hid (pown_any (ok := fun k => ok k \/ w.heap.size <= k) (l := [p]) (w := (w.alloc (.cells #[u, v] 62)).alloc (.cells #[u, v] 62)) (v := .slice (some ⟨w.heap.size + 1, 0, none⟩) 1 1) (by simp) (by intro q hq; simp only [List.mem_singleton] at hq; subst hq; exact ⟨h1, h2⟩)
    (RowAt.single goodPair (cs := #[u, v]) (t := 62) (fr := (0, 0)) (pairK_mk (hu.move goodByte ((Moves.weaken fun k hk _ => .inl hk).trans (Nat.le_refl _) (Moves.below hB))) (hv.move goodByte ((Moves.weaken fun k hk _ => .inl hk).trans (Nat.le_refl _) (Moves.below hB)))) (.inr (by omega)) (by rw [<- World.size_alloc w (.cells #[u, v] 62)]; exact heap_alloc_new _ _)))
  have HB := Lib.hid hB
  clear hu hv h1 h2 hB hB1
  go_enter Tryz.func98, Tryz.ntmps98
  go_wp2_with fail
  refine CO.out.mono ?_
  rintro e w1 ⟨q, rfl, ⟨g, c, rfl, hqo⟩, hb1⟩
  have hq := hqo.row goodPair
  clear hqo
  obtain ⟨b, o, u', v', hbo, hob, c0, c1, hu', hv'⟩ := pair_get hq (j := 0) (p := p) rfl
  cases hbo
  obtain ⟨U, cu, rfl⟩ := hu'.form
  obtain ⟨V, cv, rfl⟩ := hv'.form
  simp only [Nat.zero_mul, Nat.add_zero, Nat.zero_add] at c0 c1
  have hB1 : Below w.heap.size w w1 := HB.out.trans (hb1.mono (by simp; omega))
  have HB1 := Lib.hid hB1; have HU := Lib.hid hu'; have HV := Lib.hid hv'
  clear hB1 hu' hv' hq
  have hlen : (0 : Int) < ([p].length : Int) := by simp
  go_wp2
  go_ret
  have hB2 : Below w1.heap.size w1 (w1.alloc (.cells #[.int .u64 (h : Nat), .slice U p.1.length cu, .slice V p.2.length cv] 116)) := by exact gB1
  have hM : Moves _ (fun k => w.heap.size <= k) w1 _ := Moves.fresh (n := w.heap.size) (m := w.heap.size) (Nat.le_refl _) hB2
  refine ⟨_, rfl, ?_, HB1.out.trans (hB2.mono HB1.out.size)⟩
  simp only [NodeAt]
  refine ⟨w1.heap.size, _, _, rfl, ⟨HB1.out.size, by go_simp⟩, ⟨HB1.out.size, by go_simp⟩, ⟨HB1.out.size, by go_simp⟩, HU.out.move goodByte (Moves.fresh (by simp; omega) hB2), HV.out.move goodByte (Moves.fresh (by simp; omega) hB2)⟩
open Go.RowKit Go.Bw
set_option maxRecDepth 100000 in
set_option maxHeartbeats 400000 in
theorem bucket_any {ok : Nat -> Prop} {t : Bw.T} {h : Nat} {tv : Value} {w : World} (ht : TreeAt ok w tv t) (hp : ∀ p ∈ t.list, p.1.length <= 1048576 /\ p.2.length <= 1048576) (hok : ∀ k, w.heap.size <= k -> ok k) :
    Calls Tryz.prog 96 #[.int .u64 (h : Nat), tv] w (Gives w fun r w' => ONodeAt nt ok w' r (Bw.bucketO h t)) := by
  obtain ⟨A, rfl⟩ := ht.form
  have CS := Lib.hid (size_any ht)
  have HOK := Lib.hid hok
  by_cases h0 : t.size = 0
  · have hz : ((t.size : Int) == 0) = true := by simp [h0]
    have HF := Lib.hid (show Bw.bucketO h t = none by unfold Bw.bucketO; rw [if_pos h0])
    clear ht hp hok h0
    go_enter Tryz.func96, Tryz.ntmps96
    go_wp2_with fail
    refine CS.out.mono ?_
    rintro e w1 ⟨rfl, rfl⟩
    go_wp2
    go_ret
    exact ⟨_, rfl, by rw [HF.out]; rfl, Below.refl _ _⟩
  · have hz : ((t.size : Int) == 0) = false := beq_eq_false_iff_ne.2 (by omega)
    by_cases h1 : t.size = 1
    · have hz1 : ((t.size : Int) == 1) = true := by simp [h1]
      cases t with
      | nil => exact absurd rfl h0
      | node l p r =>
        have HF := Lib.hid (show Bw.bucketO h (.node l p r) = some (.leaf h p) by unfold Bw.bucketO; rw [if_neg h0, if_pos h1]; rfl)
        have hm := hp p (by simp [Bw.T.list])
        have CR := Lib.hid (root_node ht hm.1 hm.2)
        have HM := Lib.hid hm
        clear ht hp hok h0 h1 hm
        go_enter Tryz.func96, Tryz.ntmps96
        go_wp2_with fail
        refine CS.out.mono ?_
        rintro e w1 ⟨rfl, rfl⟩
        go_wp2_with fail
        refine CR.out.mono ?_
        rintro e w1 ⟨q, rfl, ⟨u', v', rfl, hu', hv'⟩, hb1⟩
        have CL := Lib.hid (leaf_any (h := h) w1 hu' hv' HM.out.1 HM.out.2)
        have HB1 := Lib.hid hb1
        clear hu' hv' hb1
        go_wp2_with fail
        refine CL.out.mono ?_
        rintro e w2 ⟨q, rfl, hq, hb2⟩
        obtain ⟨t9, b9, rfl⟩ := hq.form
        have HQ := Lib.hid hq
        have HB2 := Lib.hid hb2
        clear hq hb2
        go_wp2
        go_ret
        exact ⟨_, rfl, by rw [HF.out]; exact NodeAt.move (Moves.weaken fun k hk _ => HOK.out k (Nat.le_trans HB1.out.size hk)) _ _ HQ.out, HB1.out.trans (HB2.out.mono HB1.out.size)⟩
    · have hz1 : ((t.size : Int) == 1) = false := beq_eq_false_iff_ne.2 (by omega)
      have HF := Lib.hid (show Bw.bucketO h t = some (.bucket h t) by unfold Bw.bucketO; rw [if_neg h0, if_neg h1])
      have HT := Lib.hid ht
      clear ht hp hok h0 h1
      go_enter Tryz.func96, Tryz.ntmps96
      go_wp2_with fail
      refine CS.out.mono ?_
      rintro e w1 ⟨rfl, rfl⟩
      go_wp2
      go_ret
      have hB : Below w.heap.size w (w.alloc (.cells #[.int .u64 (h : Nat), .pointer A] 119)) := by exact gB1
      refine ⟨_, rfl, ?_, hB⟩
      rw [HF.out]
      simp only [ONodeAt, NodeAt]
      exact ⟨w.heap.size, .pointer A, rfl, ⟨HOK.out _ (Nat.le_refl _), by go_simp⟩, ⟨HOK.out _ (Nat.le_refl _), by go_simp⟩, HT.out.move (Moves.below hB)⟩
open Go.RowKit Go.Bw
theorem infoN : (Tryz.prog.info? 28).map (fun i => (i.zero, i.size, i.bytes)) = some (some .nilIface, 1, 16) := by kernel_rfl
set_option maxRecDepth 100000 in
set_option maxHeartbeats 400000 in
theorem cloneN {ok : Nat -> Prop} {v : Value} {l : List (Option Bw.N)} (w : World) (hv : NodesAt nt ok w v l) (hl : l.length <= 1048576) (hok : ∀ k, w.heap.size <= k -> ok k) :
    Calls Tryz.prog 153 #[v] w (Gives w fun v' w' => OwnAt 28 1 (nodeK nt) ok w' w.heap.size v' l) := by
  obtain ⟨A, c, rfl, hc1, hc2, hc3, hc4, hc5⟩ := hv
  cases A with
  | none =>
    obtain rfl : c = 0 := hc3 rfl
    obtain rfl : l = [] := List.eq_nil_of_length_eq_zero (by omega)
    clear hc1 hc2 hc3 hc4 hc5 hl
    have he := fun (w : World) => Lib.run_eql_slice_nil (P := Tryz.prog) w 124 28 none 0 0 0 0 Tryz.underlying124
    go_enter Tryz.func153, Tryz.ntmps153
    go_wp2
    go_ret
    exact ⟨_, rfl, OwnAt.nil, Below.refl _ _⟩
  | some ad =>
    obtain ⟨b, o, sp⟩ := ad
    have he := fun (w : World) => Lib.run_eql_slice_nil (P := Tryz.prog) w 124 28 (some ⟨b, o, sp⟩) l.length c 0 0 Tryz.underlying124
    have hv : NodesAt nt ok w (.slice (some ⟨b, o, sp⟩) l.length c) l := ⟨_, c, rfl, hc1, hc2, hc3, hc4, hc5⟩
    have HL := Lib.hid hl; clear hl
    obtain ⟨i0, hi, hz0, hz1, hz2⟩ := info_parts infoN
    have HI := Lib.hid hi; have HZ0 := Lib.hid hz0; have HZ1 := Lib.hid hz1; have HZ2 := Lib.hid hz2
    clear hi hz0 hz1 hz2
    obtain ⟨news, hr, hn⟩ : ∃ news, Reps (nodeK nt ok w) 1 l news /\ ∀ j u, news[j]? = some u -> w.cell? ((⟨b, o, sp⟩ : Addr).add j) = some u := by
      by_cases h0 : l = []
      · subst h0; exact ⟨[], Reps.nil _ _, fun j u h => by simp at h⟩
      · obtain rfl : sp = none := hc4 _ rfl h0
        obtain ⟨news, hr, hn⟩ := RowAt.news_all (goodNode nt) hv
        exact ⟨news, hr, fun j u hj => by rw [add_none]; exact (hn j u hj).2⟩
    clear hc1 hc2 hc3 hc4 hc5
    have hB : Below w.heap.size w (w.alloc (.cells #[] 28)) := by exact gB1
    have HR := Lib.hid (hr.move (goodNode nt) (ok' := fun k => ok k /\ some k ≠ (Value.slice (some ⟨w.heap.size, 0, none⟩) 0 0).ownBlock) (fun k hk hl => ⟨⟨hk, fun e => by cases e; exact Nat.lt_irrefl _ hl⟩, hB.block k hl⟩))
    have HN : Hid (∀ j u, news[j]? = some u -> (w.alloc (.cells #[] 28)).cell? ((⟨b, o, sp⟩ : Addr).add j) = some u) := Lib.hid fun j u hj => by
      have h1 := hn j u hj
      exact (hB.cell (World.block_lt_of_cell? w _ h1)).trans h1
    have HB := Lib.hid hB
    have HOK := Lib.hid hok
    clear hr hn hv hB hok
    go_enter Tryz.func153, Tryz.ntmps153
    go_wp2_with (at_builtin; refine wp_app (goodNode nt) rfl (.tmp 5) (.tmp 6) 124 rfl w.heap.size 28 i0 .nilIface 16 Tryz.underlying124 HI.out HZ0.out HZ1.out HZ2.out rfl (by decide) _ [] rfl (OwnAt.made (ok := ok) (HOK.out _ (Nat.le_refl _)) (Nat.le_refl _)) ⟨b, o, sp⟩ l.length c l news rfl rfl HN.out HR.out (fun k hk => HOK.out k (by simp at hk; omega)) (by have := HL.out; simp; omega) (by decide) (by simp) ?_; intro v' w' hown' hg hat)
    go_ret
    exact ⟨_, rfl, hown', HB.out.grown hg (by simp) (fun k hk => by cases hk; exact Nat.le_refl _)⟩
open Go.RowKit Go.Bw
theorem kind_leaf (a : Addr) (w : World) : Calls Tryz.prog 175 #[.pointer (some a)] w fun e w' => e = .returned (.int .i64 1) /\ w = w' := by
  go_enter Tryz.func175, Tryz.ntmps175
  go_wp2
  go_ret
  exact ⟨rfl, rfl⟩
theorem kind_bucket (a : Addr) (w : World) : Calls Tryz.prog 177 #[.pointer (some a)] w fun e w' => e = .returned (.int .i64 2) /\ w = w' := by
  go_enter Tryz.func177, Tryz.ntmps177
  go_wp2
  go_ret
  exact ⟨rfl, rfl⟩
theorem kind_branch (a : Addr) (w : World) : Calls Tryz.prog 179 #[.pointer (some a)] w fun e w' => e = .returned (.int .i64 3) /\ w = w' := by
  go_enter Tryz.func179, Tryz.ntmps179
  go_wp2
  go_ret
  exact ⟨rfl, rfl⟩
theorem count_leaf (a : Addr) (w : World) : Calls Tryz.prog 174 #[.pointer (some a)] w fun e w' => e = .returned (.int .i64 1) /\ w = w' := by
  go_enter Tryz.func174, Tryz.ntmps174
  go_wp2
  go_ret
  exact ⟨rfl, rfl⟩
theorem count_branch (b : Nat) (v : Int) (w : World) (h : w.cell? ⟨b, 2, none⟩ = some (.int .i64 v)) : Calls Tryz.prog 178 #[.pointer (some ⟨b, 0, none⟩)] w fun e w' => e = .returned (.int .i64 v) /\ w = w' := by
  go_enter Tryz.func178, Tryz.ntmps178
  go_wp2
  go_ret
  exact ⟨rfl, rfl⟩
theorem count_bucket {ok : Nat -> Prop} {tv : Value} {t : Bw.T} (b : Nat) (w : World) (h : w.cell? ⟨b, 1, none⟩ = some tv) (ht : TreeAt ok w tv t) : Calls Tryz.prog 176 #[.pointer (some ⟨b, 0, none⟩)] w fun e w' => e = .returned (.int .i64 (t.size : Nat)) /\ w = w' := by
  obtain ⟨A, rfl⟩ := ht.form
  have C := Lib.hid (size_any ht)
  clear ht
  go_enter Tryz.func176, Tryz.ntmps176
  go_wp2_with fail
  refine C.out.mono ?_
  rintro e w' ⟨rfl, rfl⟩
  go_wp2
  go_ret
  exact ⟨rfl, rfl⟩
end Go.Proofs.YtadaoceidkagfaaGreatDoor
