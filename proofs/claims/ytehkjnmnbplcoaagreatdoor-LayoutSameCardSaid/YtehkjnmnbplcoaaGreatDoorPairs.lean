
import Derived.Test.YtehkjnmnbplcoaaGreatDoorColl
import Derived.Test.YtehkjnmnbplcoaaGreatDoorBwAll
import Derived.Shelf.SlSortCmp.WholeK
namespace Go.Proofs.YtehkjnmnbplcoaaGreatDoor
open Go.RowKit Go.Bw Go.Shelf Go.Proofs

def sortPRen : Go.Shelf.Ren := ⟨fun | 6 => 82 | 15 => 99 | 14 => 98 | 28 => 112 | 29 => 113 | 20 => 104 | 21 => 105 | 22 => 106 | 23 => 107 | 24 => 108 | 25 => 109 | 26 => 110 | 27 => 111 | 46 => 115 | 47 => 116 | 48 => 117 | 49 => 118 | 50 => 119 | 57 => 120 | n => n, fun | 22 => 23 | 24 => 31 | 25 => 149 | 3 => 3 | 39 => 158 | 0 => 0 | 53 => 72 | 55 => 32 | 4 => 4 | 46 => 162 | 45 => 161 | 50 => 166 | 5 => 5 | 9 => 9 | 66 => 169 | 70 => 173 | 76 => 175 | 77 => 176 | n => n, fun | n => n⟩
theorem sortP : Go.Proofs.SlLaysF0.n6 Tryz.prog sortPRen := {
  mixed := by kernel_rfl
  f6 := ⟨Tryz.f82.name, by decide, Tryz.func82.trans (congrArg some (by kernel_rfl))⟩
  f14 := ⟨Tryz.f98.name, by decide, Tryz.func98.trans (congrArg some (by kernel_rfl))⟩
  f15 := Tryz.func99.trans (congrArg some (by kernel_rfl))
  f20 := ⟨Tryz.f104.name, by decide, Tryz.func104.trans (congrArg some (by kernel_rfl))⟩
  f21 := ⟨Tryz.f105.name, by decide, Tryz.func105.trans (congrArg some (by kernel_rfl))⟩
  f22 := ⟨Tryz.f106.name, by decide, Tryz.func106.trans (congrArg some (by kernel_rfl))⟩
  f23 := ⟨Tryz.f107.name, by decide, Tryz.func107.trans (congrArg some (by kernel_rfl))⟩
  f24 := ⟨Tryz.f108.name, by decide, Tryz.func108.trans (congrArg some (by kernel_rfl))⟩
  f25 := ⟨Tryz.f109.name, by decide, Tryz.func109.trans (congrArg some (by kernel_rfl))⟩
  f26 := ⟨Tryz.f110.name, by decide, Tryz.func110.trans (congrArg some (by kernel_rfl))⟩
  f27 := ⟨Tryz.f111.name, by decide, Tryz.func111.trans (congrArg some (by kernel_rfl))⟩
  f28 := Tryz.func112.trans (congrArg some (by kernel_rfl))
  f29 := Tryz.func113.trans (congrArg some (by kernel_rfl))
  f46 := ⟨Tryz.f115.name, by decide, Tryz.func115.trans (congrArg some (by kernel_rfl))⟩
  f47 := Tryz.func116.trans (congrArg some (by kernel_rfl))
  f48 := Tryz.func117.trans (congrArg some (by kernel_rfl))
  f49 := ⟨Tryz.f118.name, by decide, Tryz.func118.trans (congrArg some (by kernel_rfl))⟩
  f50 := ⟨Tryz.f119.name, by decide, Tryz.func119.trans (congrArg some (by kernel_rfl))⟩
  f57 := ⟨Tryz.f120.name, by decide, Tryz.func120.trans (congrArg some (by kernel_rfl))⟩
  t0 := Tryz.underlying0
  a0 := Tryz.isAgg0
  z0 := Tryz.sizeOf0
  v0 := Tryz.zeroValue0
  t3 := Tryz.underlying3
  a3 := Tryz.isAgg3
  z3 := Tryz.sizeOf3
  v3 := Tryz.zeroValue3
  t4 := Tryz.underlying4
  a4 := Tryz.isAgg4
  z4 := Tryz.sizeOf4
  v4 := Tryz.zeroValue4
  t5 := Tryz.underlying5
  a5 := Tryz.isAgg5
  z5 := Tryz.sizeOf5
  v5 := Tryz.zeroValue5
  t9 := Tryz.underlying9
  a9 := Tryz.isAgg9
  z9 := Tryz.sizeOf9
  v9 := Tryz.zeroValue9
  t22 := Tryz.underlying23
  a22 := Tryz.isAgg23
  z22 := Tryz.sizeOf23
  v22 := Tryz.zeroValue23
  t25 := Tryz.underlying149
  a25 := Tryz.isAgg149
  z25 := Tryz.sizeOf149
  v25 := Tryz.zeroValue149
  t39 := Tryz.underlying158
  a39 := Tryz.isAgg158
  z39 := Tryz.sizeOf158
  v39 := Tryz.zeroValue158
  t45 := Tryz.underlying161
  a45 := Tryz.isAgg161
  z45 := Tryz.sizeOf161
  v45 := Tryz.zeroValue161
  t46 := Tryz.underlying162
  a46 := Tryz.isAgg162
  z46 := Tryz.sizeOf162
  v46 := Tryz.zeroValue162
  t50 := Tryz.underlying166
  a50 := Tryz.isAgg166
  z50 := Tryz.sizeOf166
  v50 := Tryz.zeroValue166
  t53 := Tryz.underlying72
  a53 := Tryz.isAgg72
  z53 := Tryz.sizeOf72
  v53 := Tryz.zeroValue72
  t55 := Tryz.underlying32
  a55 := Tryz.isAgg32
  z55 := Tryz.sizeOf32
  v55 := Tryz.zeroValue32
  t66 := Tryz.underlying169
  a66 := Tryz.isAgg169
  z66 := Tryz.sizeOf169
  v66 := Tryz.zeroValue169
  t70 := Tryz.underlying173
  a70 := Tryz.isAgg173
  z70 := Tryz.sizeOf173
  v70 := Tryz.zeroValue173
  t76 := Tryz.underlying175
  a76 := Tryz.isAgg175
  z76 := Tryz.sizeOf175
  v76 := Tryz.zeroValue175
  t77 := Tryz.underlying176
  a77 := Tryz.isAgg176
  z77 := Tryz.sizeOf176
  v77 := Tryz.zeroValue176 }

/-- a closure that compares two pairs by their keys -/
def CmpKeys (K : Nat) : Prop := ∀ (ok ok' : Nat → Prop) (u v u' v' : Value) (a b : Bw.Bytes) (w : World), BytesAt ok w u a → BytesAt ok' w v b →
  Calls Tryz.prog K #[.agg #[u, u'], .agg #[v, v']] w fun e w' => e = .returned (.int .i64 (Lib.compareBytes a b)) ∧ w' = (w.alloc (.cells #[u, u'] 31)).alloc (.cells #[v, v'] 31)

open Go.Sort in
theorem cmpLaysK {K : Nat} (hK : CmpKeys K) {ok : Nat → Prop} {w : World} {g size : Nat} (hlt : g < w.heap.size) : CmpLays Tryz.prog K #[] (El.enc (ok := fun k => ok k ∧ some k ≠ some g) (w := w)) 2 El.cf g 0 size w := by
  intro m os dk _ x y
  have hgr : w.grownBy (sortWorldK El.enc 2 w g 0 m dk os) (some g) := grown_sortWorld hlt m dk os
  have mv : Moves (fun k => ok k ∧ some k ≠ some g) (fun k => ok k ∧ some k ≠ some g) w (sortWorldK El.enc 2 w g 0 m dk os) := fun k hk hl => ⟨hk, hgr.block k hl hk.2⟩
  refine (hK _ _ _ _ _ _ _ _ _ (x.hu.move goodByte mv) (y.hu.move goodByte mv)).mono ?_
  rintro e w' ⟨rfl, rfl⟩
  exact ⟨rfl, 0, _, by rw [alloc_eq_grow, alloc_eq_grow, grow_grow]; rfl⟩

theorem swoEl {ok : Nat → Prop} {w : World} : Go.Sort.SWO (ltOf (El.cf (ok := ok) (w := w))) where
  irrefl := fun x => by
    have := el_less x x
    cases h : ltOf El.cf x x with
    | false => rfl
    | true => exact absurd (this.1 h) (Bw.lt_irrefl _)
  trans := fun x y z h1 h2 => (el_less x z).2 (Bw.lt_trans ((el_less x y).1 h1) ((el_less y z).1 h2))
  ntrans := fun x y z h1 h2 => by
    cases h : ltOf El.cf x z with
    | false => rfl
    | true =>
      have h3 := (el_less x z).1 h
      have n1 : ¬ Bw.lt x.p.1 y.p.1 := fun e => by rw [(el_less x y).2 e] at h1; cases h1
      have n2 : ¬ Bw.lt y.p.1 z.p.1 := fun e => by rw [(el_less y z).2 e] at h2; cases h2
      exact absurd h3 (Bw.not_lt_trans n2 n1)

set_option maxHeartbeats 400000 in
theorem sortp_any {K : Nat} (hK : CmpKeys K) (eg : ∀ args w, (callFunc K args).run Tryz.prog w = .ok (.enter K args) w) {ok : Nat → Prop} {w : World} {base g n cap : Nat} {xs : List Bw.PV}
    (hown : OwnAt 31 2 pairK ok w base (.slice (some ⟨g, 0, none⟩) n cap) xs) (hn : xs.length ≤ 1048576) (hu : xs.Pairwise fun a b => a.1 ≠ b.1) :
    Calls Tryz.prog 82 #[.slice (some ⟨g, 0, none⟩) n cap, .func (.func K) #[] #[]] w fun e w' =>
      e = .returned (.tuple #[]) ∧ OwnAt 31 2 pairK ok w' base (.slice (some ⟨g, 0, none⟩) n cap) (Bw.come xs) ∧ w.grownBy w' (some g) := by
  have hown' := hown
  obtain ⟨_, inner, ho, hr0⟩ := hown'
  have hr : Reps (pairK (fun k => ok k ∧ some k ≠ some g) w) 2 xs inner := hr0
  clear hr0
  have hlt := (ho.lt g rfl).2
  obtain ⟨ds, hds, hel⟩ := els_of_reps hr
  have hlen : ds.length = xs.length := by rw [← hds, List.length_map]
  rw [← hlen] at ho
  have hH := holds_of_own (ok' := ok) ho hel
  have hnn : n = ds.toArray.size := by
    rcases ho.2 with ⟨h, _⟩ | ⟨g', cap', cur, he, _⟩
    · cases h
    · injection he
  have hcon := AnyQ.slices_SortFunc sortP 2 Tryz.isAgg31 Tryz.sizeOf31 El.enc El.enc_len El.enc_one El.cf swoEl K #[] g 0 cap ds.toArray w eg (cmpLaysK hK hlt) hH hlt (by simp [hlen]; omega)
  rw [← hnn] at hcon
  refine Calls.mono hcon ?_
  rintro e w' ⟨rfl, d', m, os, ⟨hsz, _, hperm⟩, hsort, rfl⟩
  have e1 : d'.extract 0 ds.toArray.size = d' := by rw [← hsz]; exact Array.extract_size
  have e2 : ds.toArray.extract 0 ds.toArray.size = ds.toArray := Array.extract_size
  rw [hnn, e1, e2, List.toList_toArray] at hperm
  have hfin := own_of_sorted hown (d := d') (m := m) (by rw [hsz]; simp [hlen]) os
  have hp : (d'.toList.map El.p).Perm xs := by rw [← hds]; exact hperm.map _
  have hun : (d'.toList.map El.p).Pairwise fun a b => a.1 ≠ b.1 := (hp.pairwise_iff (fun h e => h e.symm)).2 hu
  have hri : Bw.Rises (d'.toList.map El.p) := by
    rw [List.pairwise_map] at hun
    unfold Bw.Rises
    rw [List.pairwise_map, List.pairwise_iff_getElem] at *
    intro i j hi hj hij
    have hi' : i < d'.size := by simpa using hi
    have hj' : j < d'.size := by simpa using hj
    have hs := hsort i j (Nat.zero_le _) hij (by omega)
    rw [getElem!_pos d' j hj', getElem!_pos d' i hi'] at hs
    have hne := hun i j hi hj hij
    simp only [Array.getElem_toList] at hne ⊢
    rcases Bw.lt_or d'[i].p.1 d'[j].p.1 with h | h | h
    · exact h
    · exact absurd h hne
    · rw [(el_less _ _).2 h] at hs; cases hs
  have hc : d'.toList.map El.p = Bw.come xs := Bw.rises_ext hri (Bw.rises_come xs) fun x => by rw [Bw.mem_come_iff hu, hp.mem_iff]
  rw [hc] at hfin
  exact ⟨rfl, hfin⟩

set_option maxRecDepth 100000 in
set_option maxHeartbeats 400000 in
theorem pairsc_any : CmpKeys 83 := by
  intro ok ok' u v u' v' a b w hu hv
  have hB : Go.RowKit.Below w.heap.size w ((w.alloc (.cells #[u, u'] 31)).alloc (.cells #[v, v'] 31)) := by (repeat (first | exact Below.refl _ _ | with_reducible assumption | refine Below.drew ?_ | (refine Below.alloc ?_ (by simp) _) | (refine Below.alloc ?_ (by simp; omega) _)))
  have HC := Lib.hid (kcmp_any _ (hu.move goodByte (Moves.below hB)) (hv.move goodByte (Moves.below hB)))
  clear hu hv hB
  generalize Lib.compareBytes a b = r at *
  go_enter Tryz.func83, Tryz.ntmps83
  go_wp2_with fail
  refine HC.out.mono ?_
  rintro e w1 ⟨rfl, rfl⟩
  go_wp2
  go_ret
  exact ⟨rfl, rfl⟩

theorem fit_pairs (n : Bw.N) : n.fit → ∀ p ∈ n.pairs, p.1.length ≤ 1048576 ∧ p.2.length ≤ 1048576 := by
  refine Bw.N.ind (P := fun n => n.fit → ∀ p ∈ n.pairs, p.1.length ≤ 1048576 ∧ p.2.length ≤ 1048576) ?_ ?_ ?_ n
  · intro h p hf q hq
    simp only [Bw.N.pairs, List.mem_singleton] at hq
    subst hq
    exact hf
  · intro h t hf q hq
    simp only [Bw.N.fit] at hf
    exact hf.2.2.1 q hq
  · intro m kids ih hf q hq
    simp only [Bw.N.fit, Bw.N.fitL_iff] at hf
    simp only [Bw.N.pairs, pairsL_flat, List.mem_flatMap] at hq
    obtain ⟨k, hk, hq⟩ := hq
    exact ih k hk (hf.2.2 k hk) q hq

theorem own_rebase {α : Type} {e sz base base' : Nat} {d : Knd α} {ok : Nat → Prop} {w : World} {v : Value} {xs : List α} (h : OwnAt e sz d ok w base v xs) (hb : base' ≤ base) : OwnAt e sz d ok w base' v xs := by
  obtain ⟨h1, inner, ho, hr⟩ := h
  exact ⟨h1, inner, ⟨ho.1, ho.2.imp id fun ⟨g, c, cur, k1, k2, k3⟩ => ⟨g, c, cur, k1, Nat.le_trans hb k2, k3⟩⟩, hr⟩

set_option maxRecDepth 100000 in
set_option maxHeartbeats 1000000 in
theorem npairs_any {ok : Nat → Prop} {nv : Value} {n : Bw.N} {w : World} (hf : n.fit) (hn : NodeAt nt ok w nv n) (hl : n.pairs.length ≤ 1048576) (hu : n.pairs.Pairwise fun a b => a.1 ≠ b.1) :
    Calls Tryz.prog 57 #[nv] w (Gives w fun q w' => ∃ g cap, q = .slice (some ⟨g, 0, none⟩) n.pairs.length cap ∧ OwnAt 31 2 pairK (fun k => w.heap.size ≤ k) w' w.heap.size q (Bw.come n.pairs)) := by
  have CC := Lib.hid (collect_any n hf nv (.slice none 0 0) [] w.heap.size w OwnAt.nil (Nat.le_refl _) (NodeAt.move (Moves.weaken fun k _ hl => hl) _ _ hn) (by simpa using hl))
  have HL := Lib.hid hl
  have HF := Lib.hid (fit_pairs n hf)
  have HU := Lib.hid hu
  have hE := enters_of Tryz.func83 (by kernel_rfl) rfl
  have HE := Lib.hid hE
  obtain ⟨tn, bn, rfl⟩ := hn.form
  clear hn hl hu hf hE
  rw [List.nil_append] at CC
  generalize n.pairs = l at *
  go_enter Tryz.func57, Tryz.ntmps57
  go_wp2_with fail
  refine CC.out.mono ?_
  rintro e w1 ⟨v1, rfl, hown1, hb1⟩
  have CO := Lib.hid (pown_any HL.out HF.out (hown1.row goodPair))
  obtain ⟨A1, c1, rfl⟩ := (hown1.row goodPair).form
  have HB1 := Lib.hid hb1
  clear hown1 hb1
  go_wp2_with fail
  refine CO.out.mono ?_
  rintro e w2 ⟨v2, rfl, ⟨g, cap, rfl, hown2⟩, hb2⟩
  have CS := Lib.hid (sortp_any pairsc_any HE.out hown2 HL.out HU.out)
  have HB2 := Lib.hid (HB1.out.trans (hb2.mono HB1.out.size))
  have HG := Lib.hid (hown2.lt g rfl)
  have HS1 := Lib.hid HB1.out.size
  clear hown2 hb2
  go_wp2_with fail
  refine CS.out.mono ?_
  rintro e w3 ⟨rfl, hown3, hg3⟩
  go_wp2
  go_ret
  refine ⟨_, rfl, ⟨g, cap, rfl, ?_⟩, HB2.out.grown hg3 HB2.out.size (fun k e => by cases e; exact Nat.le_trans HS1.out HG.out.1)⟩
  have h3 : OwnAt 31 2 pairK (fun k => w.heap.size ≤ k) w3 w1.heap.size (.slice (some ⟨g, 0, none⟩) l.length cap) (Bw.come l) := hown3.move goodPair (Moves.weaken fun k hk _ => Nat.le_trans HS1.out hk)
  exact own_rebase h3 HS1.out
end Go.Proofs.YtehkjnmnbplcoaaGreatDoor
