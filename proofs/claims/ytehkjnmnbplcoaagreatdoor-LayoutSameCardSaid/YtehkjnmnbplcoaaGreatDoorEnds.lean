
import Derived.Test.YtehkjnmnbplcoaaGreatDoorShape
import Derived.Test.YtehkjnmnbplcoaaGreatDoorPairs
import Derived.Deep.RegionLaw
namespace Go.Proofs.YtehkjnmnbplcoaaGreatDoor
open Go.RowKit Go.Bw

/-- append(v, ys...) at a step of a region that draws its order -/
theorem st_app {α : Type} {d : Knd α} {P : Program} {ops : Array Oper} {Q : Exit → Act → World → Prop} {o : Oper} {a : Act} {w : World} {ok : Nat → Prop} {K : Act → World → Prop} {E : Prop} {sz : Nat} (hd : _root_.Go.Bw.Good sz d) (hgd : o.guard = none) (s x : Operand) (t : TypeId)
    (ho : o.op = .call { callee := .builtin .append, args := #[s, x], argTypes := #[t, t] })
    (base : Nat) (e : TypeId) (i : TypeInfo) (z : Value) (bytes : Nat) (ht : P.underlying t = some (.slice e)) (hi : P.info? e = some i) (hz : i.zero = some z)
    (hsize : i.size = sz) (hby : i.bytes = bytes) (hzs : z.cells.size = sz) (hsz : 0 < sz)
    (v : Value) (xs : List α) (hs : a.eval s = v) (hown : OwnAt e sz d ok w base v xs)
    (ad : Addr) (m c : Nat) (ys : List α) (news : List Value) (hx : a.eval x = .slice (some ad) m c) (hm : ys.length = m)
    (hnews : ∀ j u, news[j]? = some u → w.cell? (ad.add j) = some u) (hreps : Reps (d (fun k => ok k ∧ some k ≠ v.ownBlock) w) sz ys news)
    (hok : ∀ k, w.heap.size ≤ k → ok k) (hbytes : (xs.length + m) * bytes ≤ 140737488355328) (hb0 : 0 < bytes) (hbase : base ≤ w.heap.size)
    (h : ∀ v' w', OwnAt e sz d ok w' base v' (xs ++ ys) → w.grownBy w' v.ownBlock → (v'.ownBlock = v.ownBlock ∨ v'.ownBlock = some w.heap.size) → K (a.put o.dst v') w') :
    if Region.wanted o (yielded ops a.tmps) = true then Oper.wp P o a w K Q else E := by
  have hw : Region.wanted o (yielded ops a.tmps) = true := by simp [Region.wanted, hgd]
  rw [if_pos hw]
  exact wpo_app hd s x t ho base e i z bytes ht hi hz hsize hby hzs hsz v xs hs hown ad m c ys news hx hm hnews hreps hok hbytes hb0 hbase h

/-- Pairs, of what holds just the pairs l, which rise -/
theorem epairs_any {ok : Nat → Prop} {nv : Value} {n : Bw.N} {l : List Bw.PV} {w : World} (hf : n.fit) (hn : NodeAt nt ok w nv n) (he : n.pairs = l) (hl : l.length ≤ 1048576) (hr : Bw.Rises l) :
    Calls Tryz.prog 57 #[nv] w fun e w' => ∃ g cap news, e = .returned (.slice (some ⟨g, 0, none⟩) l.length cap) ∧ Reps (pairK (fun k => w.heap.size ≤ k) w') 2 l news ∧ (∀ j u, news[j]? = some u → w'.cell? ((⟨g, 0, none⟩ : Addr).add j) = some u) ∧ Below w.heap.size w w' := by
  subst he
  have hu : n.pairs.Pairwise fun a b => a.1 ≠ b.1 := List.Pairwise.imp (fun h => Bw.lt_ne h) hr
  refine (npairs_any hf hn hl hu).mono ?_
  rintro e w' ⟨q, rfl, ⟨g, cap, rfl, hq⟩, hb⟩
  rw [Bw.come_alike hr hu (fun _ => Iff.rfl)] at hq
  obtain ⟨news, h1, h2⟩ := RowAt.news_all goodPair (hq.row goodPair)
  exact ⟨g, cap, news, rfl, h1, fun j u hj => by rw [add_none]; exact (h2 j u hj).2, hb⟩

abbrev InvEnds := InvRow 31 23 2 pairK Bw.heldOf

set_option maxRecDepth 100000 in
set_option maxHeartbeats 2000000 in
theorem ends1_leaf {w0 W : World} {lv b : Nat} {h : Nat} {p : Bw.PV} {pre : List (Bw.N × Nat)} (hi : InvEnds w0 w0.heap.size pre W) (hlen : (Bw.heldOf pre).length + ([p]).length < 1099511627776) (hf : Bw.N.fit (.leaf h p))
    (hn : NodeAt nt (fun k => k < w0.heap.size) W (.iface 123 (.pointer (some ⟨b, 0, none⟩))) (.leaf h p)) :
    Calls Tryz.prog 56 #[.iface 123 (.pointer (some ⟨b, 0, none⟩)), .int .i64 (lv : Nat), .pointer (some ⟨w0.heap.size, 0, none⟩)] W fun e' w' => e' = .returned (.tuple #[]) ∧ InvEnds w0 w0.heap.size (pre ++ [(.leaf h p, lv)]) w' ∧ Tame w0.heap.size w0.heap.size 31 W w' := by
  have hh1 : [p].length ≤ 1048576 := by simp
  have hh2 : Bw.Rises [p] := by simp [Bw.Rises]
  have CP := Lib.hid (fun (V : World) (hV : Below W.heap.size W V) => (epairs_any (l := [p]) hf (NodeAt.move (Moves.below hV) _ _ hn) rfl hh1 hh2).mono (R' := fun e w' => ∃ g cap news, e = .returned (.slice (some ⟨g, 0, none⟩) ([p]).length cap) ∧ Reps (pairK (fun k => W.heap.size ≤ k) w') 2 ([p]) news ∧ (∀ j u, news[j]? = some u → w'.cell? ((⟨g, 0, none⟩ : Addr).add j) = some u) ∧ Below V.heap.size V w')
    (fun e w' ⟨g, cap, news, h1, h2, h3, h4⟩ => ⟨g, cap, news, h1, h2.move goodPair (Moves.weaken fun k hk _ => Nat.le_trans hV.size hk), h3, h4⟩))
  have hm := kindm_leaf
  have CK := Lib.hid (fun V => kind_leaf ⟨b, 0, none⟩ V)
  have HY := Lib.hid (show Bw.heldOf (pre ++ [(.leaf h p, lv)]) = Bw.heldOf pre ++ [p] by rw [Bw.heldOf_append]; simp [Bw.heldOf, Bw.N.held])
  clear hn hf hh1 hh2
  obtain ⟨vo, hbo, hown, hB⟩ := hi
  obtain ⟨i0, hi, hz0, hz1, hz2⟩ := info_parts infoP
  have HI := Lib.hid hi; have HZ0 := Lib.hid hz0; have HZ1 := Lib.hid hz1; have HZ2 := Lib.hid hz2
  obtain ⟨AA, cc, rfl⟩ := (hown.row goodPair).form
  have c0 := hbo.cell; have f0 := hbo.frozen
  have hol := hbo.lt
  have HL := Lib.hid hlen
  have HOWN := Lib.hid hown; have HB := Lib.hid hB; have HBO := Lib.hid hbo
  clear hown hB hi hz0 hz1 hz2 hbo hlen
  generalize hps : Bw.heldOf pre = ps at *
  have HPS := Lib.hid hps
  clear hps
  go_enter Tryz.func56, Tryz.ntmps56
  go_wp2_with (first
    | (go_at_call 139; refine (CK.out _).mono ?_; rintro e w1 ⟨rfl, rfl⟩))
  go_region_law
    ((first
      | (go_simp; go_at_call 57; (with_reducible refine (CP.out _ (by (repeat (first | exact Below.refl _ _ | with_reducible assumption | refine Below.drew ?_ | (refine Below.alloc ?_ (by simp) _) | (refine Below.alloc ?_ (by simp; omega) _))))).mono ?_); rintro e w2 ⟨g, cap, news, rfl, hr2, hc2, hb2⟩; have hw2 : Below W.heap.size W w2 := Below.trans (b := W.drew) (by (repeat (first | exact Below.refl _ _ | with_reducible assumption | refine Below.drew ?_ | (refine Below.alloc ?_ (by simp) _) | (refine Below.alloc ?_ (by simp; omega) _)))) hb2; have k0 : w2.cell? ⟨w0.heap.size, 0, none⟩ = some (.slice AA ps.length cc) := (hw2.cell (p := ⟨w0.heap.size, 0, none⟩) hol).trans c0; have kf : w2.frozen? ⟨w0.heap.size, 0, none⟩ = false := (hw2.frozen (p := ⟨w0.heap.size, 0, none⟩) hol).trans f0; have hol1 : w0.heap.size < w2.heap.size := Nat.lt_of_lt_of_le hol hw2.size; have hne0 : ¬ (w0.heap.size = w2.heap.size) := Nat.ne_of_lt hol1; have hnw := World.new_ne w2 ⟨w0.heap.size, 0, none⟩ k0)
      | (refine st_app goodPair rfl (.tmp 8) (.tmp 10) 23 rfl w0.heap.size 31 i0 _ 48 Tryz.underlying23 HI.out HZ0.out HZ1.out HZ2.out rfl (by decide) (.slice AA ps.length cc) ps rfl (HOWN.out.move goodPair (Moves.below hw2)) ⟨g, 0, none⟩ _ cap [p] news rfl rfl hc2 (hr2.move goodPair (Moves.weaken fun k hk _ => ⟨⟨Nat.le_trans (Nat.le_of_lt hol) hk, fun e => by omega⟩, fun e => by have := (HOWN.out.lt k e.symm).2; omega⟩)) (fun k hk => ⟨Nat.le_trans (Nat.le_of_lt hol1) hk, fun e => by omega⟩) (by have := HL.out; simp only [List.length_singleton] at *; omega) (by decide) (Nat.le_of_lt hol1) ?_; intro v3 w3 hown3 hg3 hat3; obtain ⟨A3, c3, rfl⟩ := (hown3.row goodPair).form; have hne : some w0.heap.size ≠ (Value.slice AA ps.length cc).ownBlock := (fun e => (HOWN.out.1 _ e.symm).2 rfl); have k0 : w3.cell? ⟨w0.heap.size, 0, none⟩ = some (.slice AA ps.length cc) := hg3.cell k0 hne; have kf : w3.frozen? ⟨w0.heap.size, 0, none⟩ = false := (hg3.frozen_far ⟨w0.heap.size, 0, none⟩ hol1 hne).trans kf)
      ))
  all_goals go_wp2
  all_goals go_end0
  all_goals refine ⟨rfl, ?_, ?_⟩
  all_goals first
    | exact ((Tame.of_below hw2).trans (tame_put (HOWN.out.move goodPair (Moves.below hw2)) (Nat.le_refl _) (Nat.le_refl _) hg3))
    | (refine ⟨.slice A3 (ps ++ [p]).length c3, ?_, ?_, ?_⟩
       · rw [List.length_append]; exact Boxed.set _ (Boxed.kept ((hw2.block _ hol).trans HBO.out) hg3 hne)
       · rw [HY.out]; exact OwnAt.move goodPair (Moves.set (p := ⟨w0.heap.size, 0, none⟩) _ (fun k hk => hk.2)) hown3
       · exact ((HB.out.trans (hw2.mono HB.out.size)).grown hg3 (Nat.le_of_lt hol1) (fun k e => (HOWN.out.lt k e).1)).setCell (Nat.le_refl _) _)

set_option maxRecDepth 100000 in
set_option maxHeartbeats 2000000 in
theorem ends1_bucket {w0 W : World} {lv b : Nat} {h : Nat} {t : Bw.T} {pre : List (Bw.N × Nat)} (hi : InvEnds w0 w0.heap.size pre W) (hlen : (Bw.heldOf pre).length + (t.list).length < 1099511627776) (hf : Bw.N.fit (.bucket h t))
    (hn : NodeAt nt (fun k => k < w0.heap.size) W (.iface 126 (.pointer (some ⟨b, 0, none⟩))) (.bucket h t)) :
    Calls Tryz.prog 56 #[.iface 126 (.pointer (some ⟨b, 0, none⟩)), .int .i64 (lv : Nat), .pointer (some ⟨w0.heap.size, 0, none⟩)] W fun e' w' => e' = .returned (.tuple #[]) ∧ InvEnds w0 w0.heap.size (pre ++ [(.bucket h t, lv)]) w' ∧ Tame w0.heap.size w0.heap.size 31 W w' := by
  have hf' := hf
  simp only [Bw.N.fit] at hf'
  have hh1 : t.list.length ≤ 1048576 := by rw [Bw.T.length_list]; exact hf'.2.2.2
  have hh2 : Bw.Rises t.list := hf'.2.1
  clear hf'
  have CP := Lib.hid (fun (V : World) (hV : Below W.heap.size W V) => (epairs_any (l := t.list) hf (NodeAt.move (Moves.below hV) _ _ hn) rfl hh1 hh2).mono (R' := fun e w' => ∃ g cap news, e = .returned (.slice (some ⟨g, 0, none⟩) (t.list).length cap) ∧ Reps (pairK (fun k => W.heap.size ≤ k) w') 2 (t.list) news ∧ (∀ j u, news[j]? = some u → w'.cell? ((⟨g, 0, none⟩ : Addr).add j) = some u) ∧ Below V.heap.size V w')
    (fun e w' ⟨g, cap, news, h1, h2, h3, h4⟩ => ⟨g, cap, news, h1, h2.move goodPair (Moves.weaken fun k hk _ => Nat.le_trans hV.size hk), h3, h4⟩))
  have hm := kindm_bucket
  have CK := Lib.hid (fun V => kind_bucket ⟨b, 0, none⟩ V)
  have HY := Lib.hid (show Bw.heldOf (pre ++ [(.bucket h t, lv)]) = Bw.heldOf pre ++ t.list by rw [Bw.heldOf_append]; simp [Bw.heldOf, Bw.N.held])
  clear hn hf hh1 hh2
  obtain ⟨vo, hbo, hown, hB⟩ := hi
  obtain ⟨i0, hi, hz0, hz1, hz2⟩ := info_parts infoP
  have HI := Lib.hid hi; have HZ0 := Lib.hid hz0; have HZ1 := Lib.hid hz1; have HZ2 := Lib.hid hz2
  obtain ⟨AA, cc, rfl⟩ := (hown.row goodPair).form
  have c0 := hbo.cell; have f0 := hbo.frozen
  have hol := hbo.lt
  have HL := Lib.hid hlen
  have HOWN := Lib.hid hown; have HB := Lib.hid hB; have HBO := Lib.hid hbo
  clear hown hB hi hz0 hz1 hz2 hbo hlen
  generalize hps : Bw.heldOf pre = ps at *
  have HPS := Lib.hid hps
  clear hps
  go_enter Tryz.func56, Tryz.ntmps56
  go_wp2_with (first
    | (go_at_call 141; refine (CK.out _).mono ?_; rintro e w1 ⟨rfl, rfl⟩))
  go_region_law
    ((first
      | (go_simp; go_at_call 57; (with_reducible refine (CP.out _ (by (repeat (first | exact Below.refl _ _ | with_reducible assumption | refine Below.drew ?_ | (refine Below.alloc ?_ (by simp) _) | (refine Below.alloc ?_ (by simp; omega) _))))).mono ?_); rintro e w2 ⟨g, cap, news, rfl, hr2, hc2, hb2⟩; have hw2 : Below W.heap.size W w2 := Below.trans (b := W.drew) (by (repeat (first | exact Below.refl _ _ | with_reducible assumption | refine Below.drew ?_ | (refine Below.alloc ?_ (by simp) _) | (refine Below.alloc ?_ (by simp; omega) _)))) hb2; have k0 : w2.cell? ⟨w0.heap.size, 0, none⟩ = some (.slice AA ps.length cc) := (hw2.cell (p := ⟨w0.heap.size, 0, none⟩) hol).trans c0; have kf : w2.frozen? ⟨w0.heap.size, 0, none⟩ = false := (hw2.frozen (p := ⟨w0.heap.size, 0, none⟩) hol).trans f0; have hol1 : w0.heap.size < w2.heap.size := Nat.lt_of_lt_of_le hol hw2.size; have hne0 : ¬ (w0.heap.size = w2.heap.size) := Nat.ne_of_lt hol1; have hnw := World.new_ne w2 ⟨w0.heap.size, 0, none⟩ k0)
      | (refine st_app goodPair rfl (.tmp 8) (.tmp 10) 23 rfl w0.heap.size 31 i0 _ 48 Tryz.underlying23 HI.out HZ0.out HZ1.out HZ2.out rfl (by decide) (.slice AA ps.length cc) ps rfl (HOWN.out.move goodPair (Moves.below hw2)) ⟨g, 0, none⟩ _ cap t.list news rfl rfl hc2 (hr2.move goodPair (Moves.weaken fun k hk _ => ⟨⟨Nat.le_trans (Nat.le_of_lt hol) hk, fun e => by omega⟩, fun e => by have := (HOWN.out.lt k e.symm).2; omega⟩)) (fun k hk => ⟨Nat.le_trans (Nat.le_of_lt hol1) hk, fun e => by omega⟩) (by have := HL.out; simp only [List.length_singleton] at *; omega) (by decide) (Nat.le_of_lt hol1) ?_; intro v3 w3 hown3 hg3 hat3; obtain ⟨A3, c3, rfl⟩ := (hown3.row goodPair).form; have hne : some w0.heap.size ≠ (Value.slice AA ps.length cc).ownBlock := (fun e => (HOWN.out.1 _ e.symm).2 rfl); have k0 : w3.cell? ⟨w0.heap.size, 0, none⟩ = some (.slice AA ps.length cc) := hg3.cell k0 hne; have kf : w3.frozen? ⟨w0.heap.size, 0, none⟩ = false := (hg3.frozen_far ⟨w0.heap.size, 0, none⟩ hol1 hne).trans kf)
      ))
  all_goals go_wp2
  all_goals go_end0
  all_goals refine ⟨rfl, ?_, ?_⟩
  all_goals first
    | exact ((Tame.of_below hw2).trans (tame_put (HOWN.out.move goodPair (Moves.below hw2)) (Nat.le_refl _) (Nat.le_refl _) hg3))
    | (refine ⟨.slice A3 (ps ++ t.list).length c3, ?_, ?_, ?_⟩
       · rw [List.length_append]; exact Boxed.set _ (Boxed.kept ((hw2.block _ hol).trans HBO.out) hg3 hne)
       · rw [HY.out]; exact OwnAt.move goodPair (Moves.set (p := ⟨w0.heap.size, 0, none⟩) _ (fun k hk => hk.2)) hown3
       · exact ((HB.out.trans (hw2.mono HB.out.size)).grown hg3 (Nat.le_of_lt hol1) (fun k e => (HOWN.out.lt k e).1)).setCell (Nat.le_refl _) _)

set_option maxRecDepth 100000 in
set_option maxHeartbeats 1000000 in
theorem ends1_branch {w0 W : World} {lv b m : Nat} {kids : List Bw.N} {pre : List (Bw.N × Nat)} (hi : InvEnds w0 w0.heap.size pre W) :
    Calls Tryz.prog 56 #[.iface 131 (.pointer (some ⟨b, 0, none⟩)), .int .i64 (lv : Nat), .pointer (some ⟨w0.heap.size, 0, none⟩)] W fun e' w' => e' = .returned (.tuple #[]) ∧ InvEnds w0 w0.heap.size (pre ++ [(.branch m kids, lv)]) w' ∧ Tame w0.heap.size w0.heap.size 31 W w' := by
  have hm := kindm_branch
  have CK := Lib.hid (fun V => kind_branch ⟨b, 0, none⟩ V)
  have HY := Lib.hid (show Bw.heldOf (pre ++ [(.branch m kids, lv)]) = Bw.heldOf pre by rw [Bw.heldOf_append]; simp [Bw.heldOf, Bw.N.held])
  have HI := Lib.hid hi
  clear hi
  go_enter Tryz.func56, Tryz.ntmps56
  go_wp2_with (go_at_call 143; refine (CK.out _).mono ?_; rintro e w1 ⟨rfl, rfl⟩)
  go_end0
  refine ⟨rfl, ?_, Tame.refl _ _ _ _⟩
  obtain ⟨vo, h1, h2, h3⟩ := HI.out
  exact ⟨vo, h1, by rw [HY.out]; exact h2, h3⟩
end Go.Proofs.YtehkjnmnbplcoaaGreatDoor
