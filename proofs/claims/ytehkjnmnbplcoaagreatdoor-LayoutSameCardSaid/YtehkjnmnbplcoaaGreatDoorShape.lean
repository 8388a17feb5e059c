
import Derived.Test.YtehkjnmnbplcoaaGreatDoorEachL
import Derived.Deep.RegionLaw
import Derived.Deep.AppendLies
namespace Go.Proofs.YtehkjnmnbplcoaaGreatDoor
open Go.RowKit Go.Bw

/-! ### rows that lie in a box, whatever is turned that is no cells -/
/-- what an element's cells say hangs on cells alone -/
def Steady {α : Type} (d : Knd α) : Prop := ∀ (ok : Nat → Prop) (W W' : World) (row : Option Nat) (x : α) (cs : List Value), d ok W x cs → W.grownBy W' row → (∀ r, row = some r → ∃ o : Obj, W.heap[r]? = some o ∧ o.isCells = false) → d ok W' x cs

theorem steady_imm {α : Type} (enc : α → Value) : Steady (immK enc) := fun _ _ _ _ _ _ h _ _ => h
theorem steady_spot : Steady spotK := fun _ _ _ _ _ _ h _ _ => h
theorem steady_row {α : Type} {sz : Nat} {d : Knd α} (hd : Steady d) {ok : Nat → Prop} {W W' : World} {row : Option Nat} {v : Value} {xs : List α} (h : RowAt sz d ok W v xs) (hg : W.grownBy W' row)
    (hr : ∀ r, row = some r → ∃ o : Obj, W.heap[r]? = some o ∧ o.isCells = false) : RowAt sz d ok W' v xs := by
  obtain ⟨A, c, h1, h2, h3, h4, h5, h6⟩ := h
  refine ⟨A, c, h1, h2, h3, h4, h5, fun j x hj => ?_⟩
  obtain ⟨ad, cs, e, hx, hc⟩ := h6 j x hj
  exact ⟨ad, cs, e, hd _ _ _ _ _ _ hx hg hr, fun i u hu => ⟨(hc i u hu).1, cell_kept (hc i u hu).2 hg hr⟩⟩
theorem steady_sl {α : Type} {sz : Nat} {d : Knd α} (hd : Steady d) : Steady (slK sz d) := by
  rintro ok W W' row x cs ⟨v, rfl, h⟩ hg hr
  exact ⟨v, rfl, steady_row hd h hg hr⟩
theorem steady_pr {α β : Type} {d : Knd α} {f : Knd β} (hd : Steady d) (hf : Steady f) : Steady (prK d f) := by
  rintro ok W W' row x cs ⟨a, b, rfl, h1, h2⟩ hg hr
  exact ⟨a, b, rfl, hd _ _ _ _ _ _ h1 hg hr, hf _ _ _ _ _ _ h2 hg hr⟩
theorem steady_pair : Steady pairK := steady_pr (steady_sl (steady_imm _)) (steady_sl (steady_imm _))

theorem own_steady {α : Type} {e sz base : Nat} {d : Knd α} (hd : Steady d) {ok : Nat → Prop} {W W' : World} {row : Option Nat} {v : Value} {xs : List α} (h : OwnAt e sz d ok W base v xs) (hg : W.grownBy W' row)
    (hr : ∀ r, row = some r → ∃ o : Obj, W.heap[r]? = some o ∧ o.isCells = false) : OwnAt e sz d ok W' base v xs := by
  obtain ⟨hok, inner, ho, hreps⟩ := h
  refine ⟨hok, inner, ho.kept hg ?_, hreps.imp fun x cs hx => hd _ _ _ _ _ _ hx hg hr⟩
  rcases ho.2 with ⟨rfl, _⟩ | ⟨g, cap, cur, rfl, _, hgb, _⟩
  · exact .inl rfl
  · refine .inr fun e' => ?_
    obtain ⟨o, ho, hc⟩ := hr g (by simpa [Value.ownBlock] using e'.symm)
    rw [hgb] at ho; cases ho; cases hc

/-- a variable o of the call's own, in which a row of the call's own lies -/
def InvRow {α : Type} (e te sz : Nat) (d : Knd α) (f : List (Bw.N × Nat) → List α) (w0 : World) (o : Nat) (pre : List (Bw.N × Nat)) (W : World) : Prop :=
  ∃ vo, Boxed W o te vo ∧ OwnAt e sz d (fun k => w0.heap.size ≤ k ∧ k ≠ o) W w0.heap.size vo (f pre) ∧ Below w0.heap.size w0 W

theorem InvRow.low {α : Type} {e te sz : Nat} {d : Knd α} {f : List (Bw.N × Nat) → List α} {w0 : World} {o : Nat} {pre : List (Bw.N × Nat)} {W : World} (h : InvRow e te sz d f w0 o pre W) (hT : Tab w0) :
    w0.heap.size ≤ W.heap.size ∧ Tab W ∧ ∃ b, W.heap[o]? = some b ∧ b.isCells = true := by
  obtain ⟨vo, hb, _, hB⟩ := h
  exact ⟨hB.size, hT.below hT.pos hB, _, hb, rfl⟩

theorem InvRow.own {α : Type} {e te sz : Nat} {d : Knd α} (hd : Steady d) {f : List (Bw.N × Nat) → List α} {w0 : World} {o : Nat} : OwnFrom w0.heap.size (InvRow e te sz d f w0 o) := by
  rintro pre X Y row ⟨vo, hb, hown, hB⟩ hg hr
  refine ⟨vo, hb.kept hg (fun e' => ?_), own_steady hd hown hg (fun r e => (hr r e).2), hB.grown hg hB.size (fun r e => (hr r e).1)⟩
  obtain ⟨_, o', ho, hc⟩ := hr o e'.symm
  rw [show X.heap[o]? = _ from hb] at ho; cases ho; cases hc

/-- a row that grew, and was put back into its variable: nothing else was turned -/
theorem tame_put {n o e base sz : Nat} {α : Type} {d : Knd α} {ok : Nat → Prop} {W W' : World} {v u : Value} {xs : List α} (hown : OwnAt e sz d ok W base v xs) (hn : n ≤ base) (ho : n ≤ o) (hg : W.grownBy W' v.ownBlock) : Tame n o e W (W'.setCell ⟨o, 0, none⟩ u) := by
  refine ⟨hg.os, hg.tape, hg.output, by simpa using hg.size, fun k hk hc => ?_⟩
  have hko : k ≠ o := by rcases hc with h | ⟨h, _⟩ <;> omega
  refine (Below.heap_setCell W' ⟨o, 0, none⟩ u k hko).trans (hg.block k hk fun he => ?_)
  obtain ⟨_, inner, how, _⟩ := hown
  rcases how.2 with ⟨rfl, _⟩ | ⟨g, cap, cur, rfl, hb, hgb, _⟩
  · simp [Value.ownBlock] at he
  · obtain rfl : k = g := by simpa [Value.ownBlock] using he
    rcases hc with h | ⟨_, h⟩
    · omega
    · exact h ⟨cur, (0, 0), hgb⟩

theorem infoSpot : (Tryz.prog.info? 75).map (fun i => (i.zero, i.size, i.bytes)) = some (some (.agg #[.int .i64 0, .int .i64 0, .int .u64 0, .int .u32 0, .int .i64 0]), 5, 40) := by kernel_rfl

abbrev InvShape := InvRow 75 71 5 spotK Bw.spotsOf

set_option maxRecDepth 100000 in
set_option maxHeartbeats 2000000 in
theorem shape1_leaf {w0 W : World} {lv b : Nat} {h : Nat} {p : Bw.PV} {pre : List (Bw.N × Nat)} (hi : InvShape w0 w0.heap.size pre W) (hlen : pre.length < 1099511627776)
    (hn : NodeAt nt (fun k => k < w0.heap.size) W (.iface 123 (.pointer (some ⟨b, 0, none⟩))) (.leaf h p)) :
    Calls Tryz.prog 52 #[.iface 123 (.pointer (some ⟨b, 0, none⟩)), .int .i64 (lv : Nat), .pointer (some ⟨w0.heap.size, 0, none⟩)] W fun e' w' => e' = .returned (.tuple #[]) ∧ InvShape w0 w0.heap.size (pre ++ [(.leaf h p, lv)]) w' ∧ Tame w0.heap.size w0.heap.size 75 W w' := by
  have CH := Lib.hid (hash_any (n := some (.leaf h p)) hn)
  have CM := Lib.hid (map_any (n := some (.leaf h p)) hn)
  have CC := Lib.hid (fun (V : World) (_ : Below W.heap.size W V) => (count_leaf ⟨b, 0, none⟩ V).mono (R' := fun e w' => e = .returned (.int .i64 1) ∧ Below V.heap.size V w') (fun _ _ h => ⟨h.1, h.2 ▸ Below.refl _ _⟩))
  have hm := kindm_leaf; have hm2 := method_leaf
  have CK := Lib.hid (fun V => kind_leaf ⟨b, 0, none⟩ V)
  have HY := Lib.hid (show Bw.spotsOf (pre ++ [(.leaf h p, lv)]) = Bw.spotsOf pre ++ [(lv, 1, h, 0, 1)] by rw [Bw.spotsOf_append]; rfl)
  simp only [hashO, mapO] at CH CM
  clear hn
  obtain ⟨vo, hbo, hown, hB⟩ := hi
  obtain ⟨i0, hi, hz0, hz1, hz2⟩ := info_parts infoSpot
  have HI := Lib.hid hi; have HZ0 := Lib.hid hz0; have HZ1 := Lib.hid hz1; have HZ2 := Lib.hid hz2
  obtain ⟨AA, cc, rfl⟩ := (hown.row goodSpot).form
  have c0 := hbo.cell; have f0 := hbo.frozen
  have hol := hbo.lt
  have hsl : (Bw.spotsOf pre).length = pre.length := by simp [Bw.spotsOf]
  have HL : Hid ((Bw.spotsOf pre).length < 1099511627776) := Lib.hid (by omega)
  have HOWN := Lib.hid hown; have HB := Lib.hid hB; have HBO := Lib.hid hbo
  clear hown hB hi hz0 hz1 hz2 hbo hlen hsl
  generalize hps : Bw.spotsOf pre = ps at *
  have HPS := Lib.hid hps
  clear hps
  go_enter Tryz.func52, Tryz.ntmps52
  go_wp2_with (first
    | (go_at_call 33; refine CH.out.mono ?_; rintro e w1 ⟨rfl, rfl⟩)
    | (go_at_call 36; refine CM.out.mono ?_; rintro e w1 ⟨rfl, rfl⟩))
  go_region_law
    ((first
      | (go_simp; go_at_call 139; (with_reducible refine (CK.out _).mono ?_); rintro e w2 ⟨rfl, rfl⟩)
      | (go_simp; go_at_call 138; (with_reducible refine (CC.out _ (by (repeat (first | exact Below.refl _ _ | with_reducible assumption | refine Below.drew ?_ | (refine Below.alloc ?_ (by simp) _) | (refine Below.alloc ?_ (by simp; omega) _))))).mono ?_); rintro e w2 ⟨rfl, hb2⟩; have hw2 : Below W.heap.size W w2 := Below.trans (b := W.drew) (by (repeat (first | exact Below.refl _ _ | with_reducible assumption | refine Below.drew ?_ | (refine Below.alloc ?_ (by simp) _) | (refine Below.alloc ?_ (by simp; omega) _)))) hb2; have k0 : w2.cell? ⟨w0.heap.size, 0, none⟩ = some (.slice AA ps.length cc) := (hw2.cell (p := ⟨w0.heap.size, 0, none⟩) hol).trans c0; have kf : w2.frozen? ⟨w0.heap.size, 0, none⟩ = false := (hw2.frozen (p := ⟨w0.heap.size, 0, none⟩) hol).trans f0; have hol1 : w0.heap.size < w2.heap.size := Nat.lt_of_lt_of_le hol hw2.size; have hne0 : ¬ (w0.heap.size = w2.heap.size) := Nat.ne_of_lt hol1; have hnw := World.new_ne w2 ⟨w0.heap.size, 0, none⟩ k0)
      | (refine st_app1 goodSpot rfl (.tmp 19) (.tmp 28) 71 rfl w0.heap.size 75 i0 _ 40 Tryz.underlying71 HI.out HZ0.out HZ1.out HZ2.out rfl (by decide) _ ps rfl (HOWN.out.move goodSpot (Moves.below hw2)) (lv, 1, h, 0, 1) _ 75 rfl rfl (fun k hk => ⟨Nat.le_trans (Nat.le_of_lt hol1) hk, fun e => by omega⟩) (by have := HL.out; omega) (by decide) (Nat.le_of_lt hol1) ?_; intro v3 w3 hown3 hb3 hat3 hg3; obtain ⟨A3, c3, rfl⟩ := (hown3.row goodSpot).form; have hne : some w0.heap.size ≠ (Value.slice AA ps.length cc).ownBlock := (fun e => (HOWN.out.1 _ e.symm).2 rfl); have k0 : w3.cell? ⟨w0.heap.size, 0, none⟩ = some (.slice AA ps.length cc) := hg3.cell k0 hne; have kf : w3.frozen? ⟨w0.heap.size, 0, none⟩ = false := (hg3.frozen_far ⟨w0.heap.size, 0, none⟩ hol1 hne).trans kf)
      ))
  all_goals go_wp2
  all_goals go_end0
  all_goals refine ⟨rfl, ?_, ?_⟩
  all_goals first
    | exact ((Tame.of_below hw2).trans (tame_put (HOWN.out.move goodSpot (Moves.below hw2)) (Nat.le_refl _) (Nat.le_refl _) hg3))
    | (refine ⟨.slice A3 (ps ++ [(lv, 1, h, 0, 1)]).length c3, ?_, ?_, ?_⟩
       · rw [List.length_append]; exact Boxed.set _ (Boxed.kept ((hw2.block _ hol).trans HBO.out) hg3 hne)
       · rw [HY.out]; exact OwnAt.move goodSpot (Moves.set (p := ⟨w0.heap.size, 0, none⟩) _ (fun k hk => hk.2)) hown3
       · exact ((HB.out.trans (hw2.mono HB.out.size)).trans hb3).setCell (Nat.le_refl _) _)

set_option maxRecDepth 100000 in
set_option maxHeartbeats 2000000 in
theorem shape1_bucket {w0 W : World} {lv b : Nat} {h : Nat} {t : Bw.T} {pre : List (Bw.N × Nat)} (hi : InvShape w0 w0.heap.size pre W) (hlen : pre.length < 1099511627776)
    (hn : NodeAt nt (fun k => k < w0.heap.size) W (.iface 126 (.pointer (some ⟨b, 0, none⟩))) (.bucket h t)) :
    Calls Tryz.prog 52 #[.iface 126 (.pointer (some ⟨b, 0, none⟩)), .int .i64 (lv : Nat), .pointer (some ⟨w0.heap.size, 0, none⟩)] W fun e' w' => e' = .returned (.tuple #[]) ∧ InvShape w0 w0.heap.size (pre ++ [(.bucket h t, lv)]) w' ∧ Tame w0.heap.size w0.heap.size 75 W w' := by
  have CH := Lib.hid (hash_any (n := some (.bucket h t)) hn)
  have CM := Lib.hid (map_any (n := some (.bucket h t)) hn)
  have hn' := hn
  simp only [NodeAt] at hn'
  obtain ⟨b', tv, e, _, h1, ht⟩ := hn'
  cases e
  have CC := Lib.hid (fun (V : World) (hV : Below W.heap.size W V) => (count_bucket b V (h1.move (Moves.below hV)).2 (ht.move (Moves.below hV))).mono (R' := fun e w' => e = .returned (.int .i64 (t.size : Nat)) ∧ Below V.heap.size V w') (fun _ _ h => ⟨h.1, h.2 ▸ Below.refl _ _⟩))
  clear h1 ht
  have hm := kindm_bucket; have hm2 := method_bucket
  have CK := Lib.hid (fun V => kind_bucket ⟨b, 0, none⟩ V)
  have HY := Lib.hid (show Bw.spotsOf (pre ++ [(.bucket h t, lv)]) = Bw.spotsOf pre ++ [(lv, 2, h, 0, t.size)] by rw [Bw.spotsOf_append]; rfl)
  simp only [hashO, mapO] at CH CM
  clear hn
  obtain ⟨vo, hbo, hown, hB⟩ := hi
  obtain ⟨i0, hi, hz0, hz1, hz2⟩ := info_parts infoSpot
  have HI := Lib.hid hi; have HZ0 := Lib.hid hz0; have HZ1 := Lib.hid hz1; have HZ2 := Lib.hid hz2
  obtain ⟨AA, cc, rfl⟩ := (hown.row goodSpot).form
  have c0 := hbo.cell; have f0 := hbo.frozen
  have hol := hbo.lt
  have hsl : (Bw.spotsOf pre).length = pre.length := by simp [Bw.spotsOf]
  have HL : Hid ((Bw.spotsOf pre).length < 1099511627776) := Lib.hid (by omega)
  have HOWN := Lib.hid hown; have HB := Lib.hid hB; have HBO := Lib.hid hbo
  clear hown hB hi hz0 hz1 hz2 hbo hlen hsl
  generalize hps : Bw.spotsOf pre = ps at *
  have HPS := Lib.hid hps
  clear hps
  go_enter Tryz.func52, Tryz.ntmps52
  go_wp2_with (first
    | (go_at_call 33; refine CH.out.mono ?_; rintro e w1 ⟨rfl, rfl⟩)
    | (go_at_call 36; refine CM.out.mono ?_; rintro e w1 ⟨rfl, rfl⟩))
  go_region_law
    ((first
      | (go_simp; go_at_call 141; (with_reducible refine (CK.out _).mono ?_); rintro e w2 ⟨rfl, rfl⟩)
      | (go_simp; go_at_call 140; (with_reducible refine (CC.out _ (by (repeat (first | exact Below.refl _ _ | with_reducible assumption | refine Below.drew ?_ | (refine Below.alloc ?_ (by simp) _) | (refine Below.alloc ?_ (by simp; omega) _))))).mono ?_); rintro e w2 ⟨rfl, hb2⟩; have hw2 : Below W.heap.size W w2 := Below.trans (b := W.drew) (by (repeat (first | exact Below.refl _ _ | with_reducible assumption | refine Below.drew ?_ | (refine Below.alloc ?_ (by simp) _) | (refine Below.alloc ?_ (by simp; omega) _)))) hb2; have k0 : w2.cell? ⟨w0.heap.size, 0, none⟩ = some (.slice AA ps.length cc) := (hw2.cell (p := ⟨w0.heap.size, 0, none⟩) hol).trans c0; have kf : w2.frozen? ⟨w0.heap.size, 0, none⟩ = false := (hw2.frozen (p := ⟨w0.heap.size, 0, none⟩) hol).trans f0; have hol1 : w0.heap.size < w2.heap.size := Nat.lt_of_lt_of_le hol hw2.size; have hne0 : ¬ (w0.heap.size = w2.heap.size) := Nat.ne_of_lt hol1; have hnw := World.new_ne w2 ⟨w0.heap.size, 0, none⟩ k0)
      | (refine st_app1 goodSpot rfl (.tmp 19) (.tmp 28) 71 rfl w0.heap.size 75 i0 _ 40 Tryz.underlying71 HI.out HZ0.out HZ1.out HZ2.out rfl (by decide) _ ps rfl (HOWN.out.move goodSpot (Moves.below hw2)) (lv, 2, h, 0, t.size) _ 75 rfl rfl (fun k hk => ⟨Nat.le_trans (Nat.le_of_lt hol1) hk, fun e => by omega⟩) (by have := HL.out; omega) (by decide) (Nat.le_of_lt hol1) ?_; intro v3 w3 hown3 hb3 hat3 hg3; obtain ⟨A3, c3, rfl⟩ := (hown3.row goodSpot).form; have hne : some w0.heap.size ≠ (Value.slice AA ps.length cc).ownBlock := (fun e => (HOWN.out.1 _ e.symm).2 rfl); have k0 : w3.cell? ⟨w0.heap.size, 0, none⟩ = some (.slice AA ps.length cc) := hg3.cell k0 hne; have kf : w3.frozen? ⟨w0.heap.size, 0, none⟩ = false := (hg3.frozen_far ⟨w0.heap.size, 0, none⟩ hol1 hne).trans kf)
      ))
  all_goals go_wp2
  all_goals go_end0
  all_goals refine ⟨rfl, ?_, ?_⟩
  all_goals first
    | exact ((Tame.of_below hw2).trans (tame_put (HOWN.out.move goodSpot (Moves.below hw2)) (Nat.le_refl _) (Nat.le_refl _) hg3))
    | (refine ⟨.slice A3 (ps ++ [(lv, 2, h, 0, t.size)]).length c3, ?_, ?_, ?_⟩
       · rw [List.length_append]; exact Boxed.set _ (Boxed.kept ((hw2.block _ hol).trans HBO.out) hg3 hne)
       · rw [HY.out]; exact OwnAt.move goodSpot (Moves.set (p := ⟨w0.heap.size, 0, none⟩) _ (fun k hk => hk.2)) hown3
       · exact ((HB.out.trans (hw2.mono HB.out.size)).trans hb3).setCell (Nat.le_refl _) _)

set_option maxRecDepth 100000 in
set_option maxHeartbeats 2000000 in
theorem shape1_branch {w0 W : World} {lv b : Nat} {m : Nat} {kids : List Bw.N} {pre : List (Bw.N × Nat)} (hi : InvShape w0 w0.heap.size pre W) (hlen : pre.length < 1099511627776)
    (hn : NodeAt nt (fun k => k < w0.heap.size) W (.iface 131 (.pointer (some ⟨b, 0, none⟩))) (.branch m kids)) :
    Calls Tryz.prog 52 #[.iface 131 (.pointer (some ⟨b, 0, none⟩)), .int .i64 (lv : Nat), .pointer (some ⟨w0.heap.size, 0, none⟩)] W fun e' w' => e' = .returned (.tuple #[]) ∧ InvShape w0 w0.heap.size (pre ++ [(.branch m kids, lv)]) w' ∧ Tame w0.heap.size w0.heap.size 75 W w' := by
  have CH := Lib.hid (hash_any (n := some (.branch m kids)) hn)
  have CM := Lib.hid (map_any (n := some (.branch m kids)) hn)
  have hn' := hn
  simp only [NodeAt] at hn'
  obtain ⟨b', _, _, _, e, _, _, h2, _⟩ := hn'
  cases e
  have CC := Lib.hid (fun (V : World) (hV : Below W.heap.size W V) => (count_branch b _ V (h2.move (Moves.below hV)).2).mono (R' := fun e w' => e = .returned (.int .i64 (Bw.N.countL kids : Nat)) ∧ Below V.heap.size V w') (fun _ _ h => ⟨h.1, h.2 ▸ Below.refl _ _⟩))
  clear h2
  have hm := kindm_branch; have hm2 := method_branch
  have CK := Lib.hid (fun V => kind_branch ⟨b, 0, none⟩ V)
  have HY := Lib.hid (show Bw.spotsOf (pre ++ [(.branch m kids, lv)]) = Bw.spotsOf pre ++ [(lv, 3, 0, m, Bw.N.countL kids)] by rw [Bw.spotsOf_append]; rfl)
  simp only [hashO, mapO] at CH CM
  clear hn
  obtain ⟨vo, hbo, hown, hB⟩ := hi
  obtain ⟨i0, hi, hz0, hz1, hz2⟩ := info_parts infoSpot
  have HI := Lib.hid hi; have HZ0 := Lib.hid hz0; have HZ1 := Lib.hid hz1; have HZ2 := Lib.hid hz2
  obtain ⟨AA, cc, rfl⟩ := (hown.row goodSpot).form
  have c0 := hbo.cell; have f0 := hbo.frozen
  have hol := hbo.lt
  have hsl : (Bw.spotsOf pre).length = pre.length := by simp [Bw.spotsOf]
  have HL : Hid ((Bw.spotsOf pre).length < 1099511627776) := Lib.hid (by omega)
  have HOWN := Lib.hid hown; have HB := Lib.hid hB; have HBO := Lib.hid hbo
  clear hown hB hi hz0 hz1 hz2 hbo hlen hsl
  generalize hps : Bw.spotsOf pre = ps at *
  have HPS := Lib.hid hps
  clear hps
  go_enter Tryz.func52, Tryz.ntmps52
  go_wp2_with (first
    | (go_at_call 33; refine CH.out.mono ?_; rintro e w1 ⟨rfl, rfl⟩)
    | (go_at_call 36; refine CM.out.mono ?_; rintro e w1 ⟨rfl, rfl⟩))
  go_region_law
    ((first
      | (go_simp; go_at_call 143; (with_reducible refine (CK.out _).mono ?_); rintro e w2 ⟨rfl, rfl⟩)
      | (go_simp; go_at_call 142; (with_reducible refine (CC.out _ (by (repeat (first | exact Below.refl _ _ | with_reducible assumption | refine Below.drew ?_ | (refine Below.alloc ?_ (by simp) _) | (refine Below.alloc ?_ (by simp; omega) _))))).mono ?_); rintro e w2 ⟨rfl, hb2⟩; have hw2 : Below W.heap.size W w2 := Below.trans (b := W.drew) (by (repeat (first | exact Below.refl _ _ | with_reducible assumption | refine Below.drew ?_ | (refine Below.alloc ?_ (by simp) _) | (refine Below.alloc ?_ (by simp; omega) _)))) hb2; have k0 : w2.cell? ⟨w0.heap.size, 0, none⟩ = some (.slice AA ps.length cc) := (hw2.cell (p := ⟨w0.heap.size, 0, none⟩) hol).trans c0; have kf : w2.frozen? ⟨w0.heap.size, 0, none⟩ = false := (hw2.frozen (p := ⟨w0.heap.size, 0, none⟩) hol).trans f0; have hol1 : w0.heap.size < w2.heap.size := Nat.lt_of_lt_of_le hol hw2.size; have hne0 : ¬ (w0.heap.size = w2.heap.size) := Nat.ne_of_lt hol1; have hnw := World.new_ne w2 ⟨w0.heap.size, 0, none⟩ k0)
      | (refine st_app1 goodSpot rfl (.tmp 19) (.tmp 28) 71 rfl w0.heap.size 75 i0 _ 40 Tryz.underlying71 HI.out HZ0.out HZ1.out HZ2.out rfl (by decide) _ ps rfl (HOWN.out.move goodSpot (Moves.below hw2)) (lv, 3, 0, m, Bw.N.countL kids) _ 75 rfl rfl (fun k hk => ⟨Nat.le_trans (Nat.le_of_lt hol1) hk, fun e => by omega⟩) (by have := HL.out; omega) (by decide) (Nat.le_of_lt hol1) ?_; intro v3 w3 hown3 hb3 hat3 hg3; obtain ⟨A3, c3, rfl⟩ := (hown3.row goodSpot).form; have hne : some w0.heap.size ≠ (Value.slice AA ps.length cc).ownBlock := (fun e => (HOWN.out.1 _ e.symm).2 rfl); have k0 : w3.cell? ⟨w0.heap.size, 0, none⟩ = some (.slice AA ps.length cc) := hg3.cell k0 hne; have kf : w3.frozen? ⟨w0.heap.size, 0, none⟩ = false := (hg3.frozen_far ⟨w0.heap.size, 0, none⟩ hol1 hne).trans kf)
      ))
  all_goals go_wp2
  all_goals go_end0
  all_goals refine ⟨rfl, ?_, ?_⟩
  all_goals first
    | exact ((Tame.of_below hw2).trans (tame_put (HOWN.out.move goodSpot (Moves.below hw2)) (Nat.le_refl _) (Nat.le_refl _) hg3))
    | (refine ⟨.slice A3 (ps ++ [(lv, 3, 0, m, Bw.N.countL kids)]).length c3, ?_, ?_, ?_⟩
       · rw [List.length_append]; exact Boxed.set _ (Boxed.kept ((hw2.block _ hol).trans HBO.out) hg3 hne)
       · rw [HY.out]; exact OwnAt.move goodSpot (Moves.set (p := ⟨w0.heap.size, 0, none⟩) _ (fun k hk => hk.2)) hown3
       · exact ((HB.out.trans (hw2.mono HB.out.size)).trans hb3).setCell (Nat.le_refl _) _)

end Go.Proofs.YtehkjnmnbplcoaaGreatDoor
