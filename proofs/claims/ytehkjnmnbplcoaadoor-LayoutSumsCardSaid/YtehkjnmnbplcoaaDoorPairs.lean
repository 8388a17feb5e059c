
import Derived.Test.YtehkjnmnbplcoaaDoorColl
import Derived.Test.YtehkjnmnbplcoaaDoorBwAll
import Derived.Shelf.SlSortCmp.WholeK
namespace Go.Proofs.YtehkjnmnbplcoaaDoor
open Go.RowKit Go.Bw Go.Shelf Go.Proofs

def sortPRen : Go.Shelf.Ren := ⟨fun | 6 => 63 | 15 => 103 | 14 => 102 | 28 => 128 | 29 => 129 | 20 => 120 | 21 => 121 | 22 => 122 | 23 => 123 | 24 => 124 | 25 => 125 | 26 => 126 | 27 => 127 | 46 => 132 | 47 => 133 | 48 => 134 | 49 => 135 | 50 => 136 | 57 => 139 | n => n, fun | 22 => 23 | 24 => 31 | 25 => 120 | 3 => 3 | 39 => 171 | 0 => 0 | 53 => 67 | 55 => 39 | 4 => 4 | 46 => 184 | 45 => 183 | 50 => 128 | 5 => 5 | 9 => 9 | 66 => 190 | 70 => 194 | 76 => 196 | 77 => 197 | n => n, fun | n => n⟩
theorem sortP : Go.Proofs.SlLaysF0.n6 Tryd.prog sortPRen := {
  mixed := by kernel_rfl
  f6 := ⟨Tryd.f63.name, by decide, Tryd.func63.trans (congrArg some (by kernel_rfl))⟩
  f14 := ⟨Tryd.f102.name, by decide, Tryd.func102.trans (congrArg some (by kernel_rfl))⟩
  f15 := Tryd.func103.trans (congrArg some (by kernel_rfl))
  f20 := ⟨Tryd.f120.name, by decide, Tryd.func120.trans (congrArg some (by kernel_rfl))⟩
  f21 := ⟨Tryd.f121.name, by decide, Tryd.func121.trans (congrArg some (by kernel_rfl))⟩
  f22 := ⟨Tryd.f122.name, by decide, Tryd.func122.trans (congrArg some (by kernel_rfl))⟩
  f23 := ⟨Tryd.f123.name, by decide, Tryd.func123.trans (congrArg some (by kernel_rfl))⟩
  f24 := ⟨Tryd.f124.name, by decide, Tryd.func124.trans (congrArg some (by kernel_rfl))⟩
  f25 := ⟨Tryd.f125.name, by decide, Tryd.func125.trans (congrArg some (by kernel_rfl))⟩
  f26 := ⟨Tryd.f126.name, by decide, Tryd.func126.trans (congrArg some (by kernel_rfl))⟩
  f27 := ⟨Tryd.f127.name, by decide, Tryd.func127.trans (congrArg some (by kernel_rfl))⟩
  f28 := Tryd.func128.trans (congrArg some (by kernel_rfl))
  f29 := Tryd.func129.trans (congrArg some (by kernel_rfl))
  f46 := ⟨Tryd.f132.name, by decide, Tryd.func132.trans (congrArg some (by kernel_rfl))⟩
  f47 := Tryd.func133.trans (congrArg some (by kernel_rfl))
  f48 := Tryd.func134.trans (congrArg some (by kernel_rfl))
  f49 := ⟨Tryd.f135.name, by decide, Tryd.func135.trans (congrArg some (by kernel_rfl))⟩
  f50 := ⟨Tryd.f136.name, by decide, Tryd.func136.trans (congrArg some (by kernel_rfl))⟩
  f57 := ⟨Tryd.f139.name, by decide, Tryd.func139.trans (congrArg some (by kernel_rfl))⟩
  t0 := Tryd.underlying0
  a0 := Tryd.isAgg0
  z0 := Tryd.sizeOf0
  v0 := Tryd.zeroValue0
  t3 := Tryd.underlying3
  a3 := Tryd.isAgg3
  z3 := Tryd.sizeOf3
  v3 := Tryd.zeroValue3
  t4 := Tryd.underlying4
  a4 := Tryd.isAgg4
  z4 := Tryd.sizeOf4
  v4 := Tryd.zeroValue4
  t5 := Tryd.underlying5
  a5 := Tryd.isAgg5
  z5 := Tryd.sizeOf5
  v5 := Tryd.zeroValue5
  t9 := Tryd.underlying9
  a9 := Tryd.isAgg9
  z9 := Tryd.sizeOf9
  v9 := Tryd.zeroValue9
  t22 := Tryd.underlying23
  a22 := Tryd.isAgg23
  z22 := Tryd.sizeOf23
  v22 := Tryd.zeroValue23
  t25 := Tryd.underlying120
  a25 := Tryd.isAgg120
  z25 := Tryd.sizeOf120
  v25 := Tryd.zeroValue120
  t39 := Tryd.underlying171
  a39 := Tryd.isAgg171
  z39 := Tryd.sizeOf171
  v39 := Tryd.zeroValue171
  t45 := Tryd.underlying183
  a45 := Tryd.isAgg183
  z45 := Tryd.sizeOf183
  v45 := Tryd.zeroValue183
  t46 := Tryd.underlying184
  a46 := Tryd.isAgg184
  z46 := Tryd.sizeOf184
  v46 := Tryd.zeroValue184
  t50 := Tryd.underlying128
  a50 := Tryd.isAgg128
  z50 := Tryd.sizeOf128
  v50 := Tryd.zeroValue128
  t53 := Tryd.underlying67
  a53 := Tryd.isAgg67
  z53 := Tryd.sizeOf67
  v53 := Tryd.zeroValue67
  t55 := Tryd.underlying39
  a55 := Tryd.isAgg39
  z55 := Tryd.sizeOf39
  v55 := Tryd.zeroValue39
  t66 := Tryd.underlying190
  a66 := Tryd.isAgg190
  z66 := Tryd.sizeOf190
  v66 := Tryd.zeroValue190
  t70 := Tryd.underlying194
  a70 := Tryd.isAgg194
  z70 := Tryd.sizeOf194
  v70 := Tryd.zeroValue194
  t76 := Tryd.underlying196
  a76 := Tryd.isAgg196
  z76 := Tryd.sizeOf196
  v76 := Tryd.zeroValue196
  t77 := Tryd.underlying197
  a77 := Tryd.isAgg197
  z77 := Tryd.sizeOf197
  v77 := Tryd.zeroValue197 }

/-- a closure that compares two pairs by their keys -/
def CmpKeys (K : Nat) : Prop := ∀ (ok ok' : Nat → Prop) (u v u' v' : Value) (a b : Bw.Bytes) (w : World), BytesAt ok w u a → BytesAt ok' w v b →
  Calls Tryd.prog K #[.agg #[u, u'], .agg #[v, v']] w fun e w' => e = .returned (.int .i64 (Lib.compareBytes a b)) ∧ w' = (w.alloc (.cells #[u, u'] 31)).alloc (.cells #[v, v'] 31)

open Go.Sort in
theorem cmpLaysK {K : Nat} (hK : CmpKeys K) {ok : Nat → Prop} {w : World} {g size : Nat} (hlt : g < w.heap.size) : CmpLays Tryd.prog K #[] (El.enc (ok := fun k => ok k ∧ some k ≠ some g) (w := w)) 2 El.cf g 0 size w := by
  intro m os dk _ x y
  have hgr : w.grownBy (sortWorldK El.enc 2 w g 0 m dk os) (some g) := grown_sortWorld hlt m dk os
  have mv : Moves (fun k => ok k ∧ some k ≠ some g) (fun k => ok k ∧ some k ≠ some g) w (sortWorldK El.enc 2 w g 0 m dk os) := fun k hk hl => ⟨hk, hgr.block k hl hk.2⟩
  refine (hK _ _ _ _ _ _ _ _ _ (x.hu.move goodByte mv) (y.hu.move goodByte mv)).mono ?_
  rintro e w' ⟨rfl, rfl⟩
  exact ⟨rfl, 0, _, by rw [alloc_eq_grow, alloc_eq_grow, grow_grow]; rfl⟩

theorem swoEl {ok : Nat → Prop} {w : World} : Go.Sort.SWO (ltOf (El.cf (ok := ok) (w := w))) where
  irrefl := fun x => by
    have := el_less x x
    cases h : ltOf El.cf x x with
    | false => rfl
    | true => exact absurd (this.1 h) (Bw.lt_irrefl _)
  trans := fun x y z h1 h2 => (el_less x z).2 (Bw.lt_trans ((el_less x y).1 h1) ((el_less y z).1 h2))
  ntrans := fun x y z h1 h2 => by
    cases h : ltOf El.cf x z with
    | false => rfl
    | true =>
      have h3 := (el_less x z).1 h
      have n1 : ¬ Bw.lt x.p.1 y.p.1 := fun e => by rw [(el_less x y).2 e] at h1; cases h1
      have n2 : ¬ Bw.lt y.p.1 z.p.1 := fun e => by rw [(el_less y z).2 e] at h2; cases h2
      exact absurd h3 (Bw.not_lt_trans n2 n1)

set_option maxHeartbeats 400000 in
theorem sortp_any {K : Nat} (hK : CmpKeys K) (eg : ∀ args w, (callFunc K args).run Tryd.prog w = .ok (.enter K args) w) {ok : Nat → Prop} {w : World} {base g n cap : Nat} {xs : List Bw.PV}
    (hown : OwnAt 31 2 pairK ok w base (.slice (some ⟨g, 0, none⟩) n cap) xs) (hn : xs.length ≤ 1048576) (hu : xs.Pairwise fun a b => a.1 ≠ b.1) :
    Calls Tryd.prog 63 #[.slice (some ⟨g, 0, none⟩) n cap, .func (.func K) #[] #[]] w fun e w' =>
      e = .returned (.tuple #[]) ∧ OwnAt 31 2 pairK ok w' base (.slice (some ⟨g, 0, none⟩) n cap) (Bw.come xs) ∧ w.grownBy w' (some g) := by
  have hown' := hown
  obtain ⟨_, inner, ho, hr0⟩ := hown'
  have hr : Reps (pairK (fun k => ok k ∧ some k ≠ some g) w) 2 xs inner := hr0
  clear hr0
  have hlt := (ho.lt g rfl).2
  obtain ⟨ds, hds, hel⟩ := els_of_reps hr
  have hlen : ds.length = xs.length := by rw [← hds, List.length_map]
  rw [← hlen] at ho
  have hH := holds_of_own (ok' := ok) ho hel
  have hnn : n = ds.toArray.size := by
    rcases ho.2 with ⟨h, _⟩ | ⟨g', cap', cur, he, _⟩
    · cases h
    · injection he
  have hcon := AnyQ.slices_SortFunc sortP 2 Tryd.isAgg31 Tryd.sizeOf31 El.enc El.enc_len El.enc_one El.cf swoEl K #[] g 0 cap ds.toArray w eg (cmpLaysK hK hlt) hH hlt (by simp [hlen]; omega)
  rw [← hnn] at hcon
  refine Calls.mono hcon ?_
  rintro e w' ⟨rfl, d', m, os, ⟨hsz, _, hperm⟩, hsort, rfl⟩
  have e1 : d'.extract 0 ds.toArray.size = d' := by rw [← hsz]; exact Array.extract_size
  have e2 : ds.toArray.extract 0 ds.toArray.size = ds.toArray := Array.extract_size
  rw [hnn, e1, e2, List.toList_toArray] at hperm
  have hfin := own_of_sorted hown (d := d') (m := m) (by rw [hsz]; simp [hlen]) os
  have hp : (d'.toList.map El.p).Perm xs := by rw [← hds]; exact hperm.map _
  have hun : (d'.toList.map El.p).Pairwise fun a b => a.1 ≠ b.1 := (hp.pairwise_iff (fun h e => h e.symm)).2 hu
  have hri : Bw.Rises (d'.toList.map El.p) := by
    rw [List.pairwise_map] at hun
    unfold Bw.Rises
    rw [List.pairwise_map, List.pairwise_iff_getElem] at *
    intro i j hi hj hij
    have hi' : i < d'.size := by simpa using hi
    have hj' : j < d'.size := by simpa using hj
    have hs := hsort i j (Nat.zero_le _) hij (by omega)
    rw [getElem!_pos d' j hj', getElem!_pos d' i hi'] at hs
    have hne := hun i j hi hj hij
    simp only [Array.getElem_toList] at hne ⊢
    rcases Bw.lt_or d'[i].p.1 d'[j].p.1 with h | h | h
    · exact h
    · exact absurd h hne
    · rw [(el_less _ _).2 h] at hs; cases hs
  have hc : d'.toList.map El.p = Bw.come xs := Bw.rises_ext hri (Bw.rises_come xs) fun x => by rw [Bw.mem_come_iff hu, hp.mem_iff]
  rw [hc] at hfin
  exact ⟨rfl, hfin⟩

set_option maxRecDepth 100000 in
set_option maxHeartbeats 400000 in
theorem pairsc_any : CmpKeys 64 := by
  intro ok ok' u v u' v' a b w hu hv
  have hB : Go.RowKit.Below w.heap.size w ((w.alloc (.cells #[u, u'] 31)).alloc (.cells #[v, v'] 31)) := by (repeat (first | exact Below.refl _ _ | with_reducible assumption | refine Below.drew ?_ | (refine Below.alloc ?_ (by simp) _) | (refine Below.alloc ?_ (by simp; omega) _)))
  have HC := Lib.hid (kcmp_any _ (hu.move goodByte (Moves.below hB)) (hv.move goodByte (Moves.below hB)))
  clear hu hv hB
  generalize Lib.compareBytes a b = r at *
  go_enter Tryd.func64, Tryd.ntmps64
  go_wp2_with fail
  refine HC.out.mono ?_
  rintro e w1 ⟨rfl, rfl⟩
  go_wp2
  go_ret
  exact ⟨rfl, rfl⟩

theorem fit_pairs (n : Bw.N) : n.fit → ∀ p ∈ n.pairs, p.1.length ≤ 1048576 ∧ p.2.length ≤ 1048576 := by
  refine Bw.N.ind (P := fun n => n.fit → ∀ p ∈ n.pairs, p.1.length ≤ 1048576 ∧ p.2.length ≤ 1048576) ?_ ?_ ?_ n
  · intro h p hf q hq
    simp only [Bw.N.pairs, List.mem_singleton] at hq
    subst hq
    exact hf
  · intro h t hf q hq
    simp only [Bw.N.fit] at hf
    exact hf.2.2.1 q hq
  · intro m kids ih hf q hq
    simp only [Bw.N.fit, Bw.N.fitL_iff] at hf
    simp only [Bw.N.pairs, pairsL_flat, List.mem_flatMap] at hq
    obtain ⟨k, hk, hq⟩ := hq
    exact ih k hk (hf.2.2 k hk) q hq

theorem own_rebase {α : Type} {e sz base base' : Nat} {d : Knd α} {ok : Nat → Prop} {w : World} {v : Value} {xs : List α} (h : OwnAt e sz d ok w base v xs) (hb : base' ≤ base) : OwnAt e sz d ok w base' v xs := by
  obtain ⟨h1, inner, ho, hr⟩ := h
  exact ⟨h1, inner, ⟨ho.1, ho.2.imp id fun ⟨g, c, cur, k1, k2, k3⟩ => ⟨g, c, cur, k1, Nat.le_trans hb k2, k3⟩⟩, hr⟩

set_option maxRecDepth 100000 in
set_option maxHeartbeats 1000000 in
theorem npairs_any {ok : Nat → Prop} {nv : Value} {n : Bw.N} {w : World} (hf : n.fit) (hn : NodeAt nt ok w nv n) (hl : n.pairs.length ≤ 1048576) (hu : n.pairs.Pairwise fun a b => a.1 ≠ b.1) :
    Calls Tryd.prog 31 #[nv] w (Gives w fun q w' => ∃ g cap, q = .slice (some ⟨g, 0, none⟩) n.pairs.length cap ∧ OwnAt 31 2 pairK (fun k => w.heap.size ≤ k) w' w.heap.size q (Bw.come n.pairs)) := by
  have CC := Lib.hid (collect_any n hf nv (.slice none 0 0) [] w.heap.size w OwnAt.nil (Nat.le_refl _) (NodeAt.move (Moves.weaken fun k _ hl => hl) _ _ hn) (by simpa using hl))
  have HL := Lib.hid hl
  have HF := Lib.hid (fit_pairs n hf)
  have HU := Lib.hid hu
  have hE := enters_of Tryd.func64 (by kernel_rfl) rfl
  have HE := Lib.hid hE
  obtain ⟨tn, bn, rfl⟩ := hn.form
  clear hn hl hu hf hE
  rw [List.nil_append] at CC
  generalize n.pairs = l at *
  go_enter Tryd.func31, Tryd.ntmps31
  go_wp2_with fail
  refine CC.out.mono ?_
  rintro e w1 ⟨v1, rfl, hown1, hb1⟩
  have CO := Lib.hid (pown_any HL.out HF.out (hown1.row goodPair))
  obtain ⟨A1, c1, rfl⟩ := (hown1.row goodPair).form
  have HB1 := Lib.hid hb1
  clear hown1 hb1
  go_wp2_with fail
  refine CO.out.mono ?_
  rintro e w2 ⟨v2, rfl, ⟨g, cap, rfl, hown2⟩, hb2⟩
  have CS := Lib.hid (sortp_any pairsc_any HE.out hown2 HL.out HU.out)
  have HB2 := Lib.hid (HB1.out.trans (hb2.mono HB1.out.size))
  have HG := Lib.hid (hown2.lt g rfl)
  have HS1 := Lib.hid HB1.out.size
  clear hown2 hb2
  go_wp2_with fail
  refine CS.out.mono ?_
  rintro e w3 ⟨rfl, hown3, hg3⟩
  go_wp2
  go_ret
  refine ⟨_, rfl, ⟨g, cap, rfl, ?_⟩, HB2.out.grown hg3 HB2.out.size (fun k e => by cases e; exact Nat.le_trans HS1.out HG.out.1)⟩
  have h3 : OwnAt 31 2 pairK (fun k => w.heap.size ≤ k) w3 w1.heap.size (.slice (some ⟨g, 0, none⟩) l.length cap) (Bw.come l) := hown3.move goodPair (Moves.weaken fun k hk _ => Nat.le_trans HS1.out hk)
  exact own_rebase h3 HS1.out
end Go.Proofs.YtehkjnmnbplcoaaDoor
