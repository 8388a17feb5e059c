
import Derived.Test.YtkblhilaeecdlaaColl
import Derived.Test.YtkblhilaeecdlaaBwAll
import Derived.Shelf.SlSortCmp.WholeK
namespace Go.Proofs.Ytkblhilaeecdlaa
open Go.RowKit Go.Bw Go.Shelf Go.Proofs

def sortPRen : Go.Shelf.Ren := ⟨fun | 6 => 37 | 15 => 59 | 14 => 58 | 28 => 75 | 29 => 76 | 20 => 67 | 21 => 68 | 22 => 69 | 23 => 70 | 24 => 71 | 25 => 72 | 26 => 73 | 27 => 74 | 46 => 79 | 47 => 80 | 48 => 81 | 49 => 82 | 50 => 83 | 57 => 85 | n => n, fun | 22 => 44 | 24 => 54 | 25 => 82 | 3 => 3 | 39 => 112 | 0 => 0 | 53 => 46 | 55 => 27 | 4 => 4 | 46 => 119 | 45 => 118 | 50 => 123 | 5 => 5 | 9 => 9 | 66 => 125 | 70 => 129 | 76 => 131 | 77 => 132 | n => n, fun | n => n⟩
theorem sortP : Go.Proofs.SlLaysF0.n6 Try.prog sortPRen := {
  mixed := by kernel_rfl
  f6 := ⟨Try.f37.name, by decide, Try.func37.trans (congrArg some (by kernel_rfl))⟩
  f14 := ⟨Try.f58.name, by decide, Try.func58.trans (congrArg some (by kernel_rfl))⟩
  f15 := Try.func59.trans (congrArg some (by kernel_rfl))
  f20 := ⟨Try.f67.name, by decide, Try.func67.trans (congrArg some (by kernel_rfl))⟩
  f21 := ⟨Try.f68.name, by decide, Try.func68.trans (congrArg some (by kernel_rfl))⟩
  f22 := ⟨Try.f69.name, by decide, Try.func69.trans (congrArg some (by kernel_rfl))⟩
  f23 := ⟨Try.f70.name, by decide, Try.func70.trans (congrArg some (by kernel_rfl))⟩
  f24 := ⟨Try.f71.name, by decide, Try.func71.trans (congrArg some (by kernel_rfl))⟩
  f25 := ⟨Try.f72.name, by decide, Try.func72.trans (congrArg some (by kernel_rfl))⟩
  f26 := ⟨Try.f73.name, by decide, Try.func73.trans (congrArg some (by kernel_rfl))⟩
  f27 := ⟨Try.f74.name, by decide, Try.func74.trans (congrArg some (by kernel_rfl))⟩
  f28 := Try.func75.trans (congrArg some (by kernel_rfl))
  f29 := Try.func76.trans (congrArg some (by kernel_rfl))
  f46 := ⟨Try.f79.name, by decide, Try.func79.trans (congrArg some (by kernel_rfl))⟩
  f47 := Try.func80.trans (congrArg some (by kernel_rfl))
  f48 := Try.func81.trans (congrArg some (by kernel_rfl))
  f49 := ⟨Try.f82.name, by decide, Try.func82.trans (congrArg some (by kernel_rfl))⟩
  f50 := ⟨Try.f83.name, by decide, Try.func83.trans (congrArg some (by kernel_rfl))⟩
  f57 := ⟨Try.f85.name, by decide, Try.func85.trans (congrArg some (by kernel_rfl))⟩
  t0 := Try.underlying0
  a0 := Try.isAgg0
  z0 := Try.sizeOf0
  v0 := Try.zeroValue0
  t3 := Try.underlying3
  a3 := Try.isAgg3
  z3 := Try.sizeOf3
  v3 := Try.zeroValue3
  t4 := Try.underlying4
  a4 := Try.isAgg4
  z4 := Try.sizeOf4
  v4 := Try.zeroValue4
  t5 := Try.underlying5
  a5 := Try.isAgg5
  z5 := Try.sizeOf5
  v5 := Try.zeroValue5
  t9 := Try.underlying9
  a9 := Try.isAgg9
  z9 := Try.sizeOf9
  v9 := Try.zeroValue9
  t22 := Try.underlying44
  a22 := Try.isAgg44
  z22 := Try.sizeOf44
  v22 := Try.zeroValue44
  t25 := Try.underlying82
  a25 := Try.isAgg82
  z25 := Try.sizeOf82
  v25 := Try.zeroValue82
  t39 := Try.underlying112
  a39 := Try.isAgg112
  z39 := Try.sizeOf112
  v39 := Try.zeroValue112
  t45 := Try.underlying118
  a45 := Try.isAgg118
  z45 := Try.sizeOf118
  v45 := Try.zeroValue118
  t46 := Try.underlying119
  a46 := Try.isAgg119
  z46 := Try.sizeOf119
  v46 := Try.zeroValue119
  t50 := Try.underlying123
  a50 := Try.isAgg123
  z50 := Try.sizeOf123
  v50 := Try.zeroValue123
  t53 := Try.underlying46
  a53 := Try.isAgg46
  z53 := Try.sizeOf46
  v53 := Try.zeroValue46
  t55 := Try.underlying27
  a55 := Try.isAgg27
  z55 := Try.sizeOf27
  v55 := Try.zeroValue27
  t66 := Try.underlying125
  a66 := Try.isAgg125
  z66 := Try.sizeOf125
  v66 := Try.zeroValue125
  t70 := Try.underlying129
  a70 := Try.isAgg129
  z70 := Try.sizeOf129
  v70 := Try.zeroValue129
  t76 := Try.underlying131
  a76 := Try.isAgg131
  z76 := Try.sizeOf131
  v76 := Try.zeroValue131
  t77 := Try.underlying132
  a77 := Try.isAgg132
  z77 := Try.sizeOf132
  v77 := Try.zeroValue132 }

/-- a closure that compares two pairs by their keys -/
def CmpKeys (K : Nat) : Prop := ∀ (ok ok' : Nat → Prop) (u v u' v' : Value) (a b : Bw.Bytes) (w : World), BytesAt ok w u a → BytesAt ok' w v b →
  Calls Try.prog K #[.agg #[u, u'], .agg #[v, v']] w fun e w' => e = .returned (.int .i64 (Lib.compareBytes a b)) ∧ w' = (w.alloc (.cells #[u, u'] 54)).alloc (.cells #[v, v'] 54)

open Go.Sort in
theorem cmpLaysK {K : Nat} (hK : CmpKeys K) {ok : Nat → Prop} {w : World} {g size : Nat} (hlt : g < w.heap.size) : CmpLays Try.prog K #[] (El.enc (ok := fun k => ok k ∧ some k ≠ some g) (w := w)) 2 El.cf g 0 size w := by
  intro m os dk _ x y
  have hgr : w.grownBy (sortWorldK El.enc 2 w g 0 m dk os) (some g) := grown_sortWorld hlt m dk os
  have mv : Moves (fun k => ok k ∧ some k ≠ some g) (fun k => ok k ∧ some k ≠ some g) w (sortWorldK El.enc 2 w g 0 m dk os) := fun k hk hl => ⟨hk, hgr.block k hl hk.2⟩
  refine (hK _ _ _ _ _ _ _ _ _ (x.hu.move goodByte mv) (y.hu.move goodByte mv)).mono ?_
  rintro e w' ⟨rfl, rfl⟩
  exact ⟨rfl, 0, _, by rw [alloc_eq_grow, alloc_eq_grow, grow_grow]; rfl⟩

theorem swoEl {ok : Nat → Prop} {w : World} : Go.Sort.SWO (ltOf (El.cf (ok := ok) (w := w))) where
  irrefl := fun x => by
    have := el_less x x
    cases h : ltOf El.cf x x with
    | false => rfl
    | true => exact absurd (this.1 h) (Bw.lt_irrefl _)
  trans := fun x y z h1 h2 => (el_less x z).2 (Bw.lt_trans ((el_less x y).1 h1) ((el_less y z).1 h2))
  ntrans := fun x y z h1 h2 => by
    cases h : ltOf El.cf x z with
    | false => rfl
    | true =>
      have h3 := (el_less x z).1 h
      have n1 : ¬ Bw.lt x.p.1 y.p.1 := fun e => by rw [(el_less x y).2 e] at h1; cases h1
      have n2 : ¬ Bw.lt y.p.1 z.p.1 := fun e => by rw [(el_less y z).2 e] at h2; cases h2
      exact absurd h3 (Bw.not_lt_trans n2 n1)

set_option maxHeartbeats 400000 in
theorem sortp_any {K : Nat} (hK : CmpKeys K) (eg : ∀ args w, (callFunc K args).run Try.prog w = .ok (.enter K args) w) {ok : Nat → Prop} {w : World} {base g n cap : Nat} {xs : List Bw.PV}
    (hown : OwnAt 54 2 pairK ok w base (.slice (some ⟨g, 0, none⟩) n cap) xs) (hn : xs.length ≤ 1048576) (hu : xs.Pairwise fun a b => a.1 ≠ b.1) :
    Calls Try.prog 37 #[.slice (some ⟨g, 0, none⟩) n cap, .func (.func K) #[] #[]] w fun e w' =>
      e = .returned (.tuple #[]) ∧ OwnAt 54 2 pairK ok w' base (.slice (some ⟨g, 0, none⟩) n cap) (Bw.come xs) ∧ w.grownBy w' (some g) := by
  have hown' := hown
  obtain ⟨_, inner, ho, hr0⟩ := hown'
  have hr : Reps (pairK (fun k => ok k ∧ some k ≠ some g) w) 2 xs inner := hr0
  clear hr0
  have hlt := (ho.lt g rfl).2
  obtain ⟨ds, hds, hel⟩ := els_of_reps hr
  have hlen : ds.length = xs.length := by rw [← hds, List.length_map]
  rw [← hlen] at ho
  have hH := holds_of_own (ok' := ok) ho hel
  have hnn : n = ds.toArray.size := by
    rcases ho.2 with ⟨h, _⟩ | ⟨g', cap', cur, he, _⟩
    · cases h
    · injection he
  have hcon := AnyQ.slices_SortFunc sortP 2 Try.isAgg54 Try.sizeOf54 El.enc El.enc_len El.enc_one El.cf swoEl K #[] g 0 cap ds.toArray w eg (cmpLaysK hK hlt) hH hlt (by simp [hlen]; omega)
  rw [← hnn] at hcon
  refine Calls.mono hcon ?_
  rintro e w' ⟨rfl, d', m, os, ⟨hsz, _, hperm⟩, hsort, rfl⟩
  have e1 : d'.extract 0 ds.toArray.size = d' := by rw [← hsz]; exact Array.extract_size
  have e2 : ds.toArray.extract 0 ds.toArray.size = ds.toArray := Array.extract_size
  rw [hnn, e1, e2, List.toList_toArray] at hperm
  have hfin := own_of_sorted hown (d := d') (m := m) (by rw [hsz]; simp [hlen]) os
  have hp : (d'.toList.map El.p).Perm xs := by rw [← hds]; exact hperm.map _
  have hun : (d'.toList.map El.p).Pairwise fun a b => a.1 ≠ b.1 := (hp.pairwise_iff (fun h e => h e.symm)).2 hu
  have hri : Bw.Rises (d'.toList.map El.p) := by
    rw [List.pairwise_map] at hun
    unfold Bw.Rises
    rw [List.pairwise_map, List.pairwise_iff_getElem] at *
    intro i j hi hj hij
    have hi' : i < d'.size := by simpa using hi
    have hj' : j < d'.size := by simpa using hj
    have hs := hsort i j (Nat.zero_le _) hij (by omega)
    rw [getElem!_pos d' j hj', getElem!_pos d' i hi'] at hs
    have hne := hun i j hi hj hij
    simp only [Array.getElem_toList] at hne ⊢
    rcases Bw.lt_or d'[i].p.1 d'[j].p.1 with h | h | h
    · exact h
    · exact absurd h hne
    · rw [(el_less _ _).2 h] at hs; cases hs
  have hc : d'.toList.map El.p = Bw.come xs := Bw.rises_ext hri (Bw.rises_come xs) fun x => by rw [Bw.mem_come_iff hu, hp.mem_iff]
  rw [hc] at hfin
  exact ⟨rfl, hfin⟩

set_option maxRecDepth 100000 in
set_option maxHeartbeats 400000 in
theorem pairsc_any : CmpKeys 38 := by
  intro ok ok' u v u' v' a b w hu hv
  have hB : Go.RowKit.Below w.heap.size w ((w.alloc (.cells #[u, u'] 54)).alloc (.cells #[v, v'] 54)) := by (repeat (first | exact Below.refl _ _ | with_reducible assumption | refine Below.drew ?_ | (refine Below.alloc ?_ (by simp) _) | (refine Below.alloc ?_ (by simp; omega) _)))
  have HC := Lib.hid (kcmp_any _ (hu.move goodByte (Moves.below hB)) (hv.move goodByte (Moves.below hB)))
  clear hu hv hB
  generalize Lib.compareBytes a b = r at *
  go_enter Try.func38, Try.ntmps38
  go_wp2_with fail
  refine HC.out.mono ?_
  rintro e w1 ⟨rfl, rfl⟩
  go_wp2
  go_ret
  exact ⟨rfl, rfl⟩

theorem fit_pairs (n : Bw.N) : n.fit → ∀ p ∈ n.pairs, p.1.length ≤ 1048576 ∧ p.2.length ≤ 1048576 := by
  refine Bw.N.ind (P := fun n => n.fit → ∀ p ∈ n.pairs, p.1.length ≤ 1048576 ∧ p.2.length ≤ 1048576) ?_ ?_ ?_ n
  · intro h p hf q hq
    simp only [Bw.N.pairs, List.mem_singleton] at hq
    subst hq
    exact hf
  · intro h t hf q hq
    simp only [Bw.N.fit] at hf
    exact hf.2.2.1 q hq
  · intro m kids ih hf q hq
    simp only [Bw.N.fit, Bw.N.fitL_iff] at hf
    simp only [Bw.N.pairs, pairsL_flat, List.mem_flatMap] at hq
    obtain ⟨k, hk, hq⟩ := hq
    exact ih k hk (hf.2.2 k hk) q hq

theorem own_rebase {α : Type} {e sz base base' : Nat} {d : Knd α} {ok : Nat → Prop} {w : World} {v : Value} {xs : List α} (h : OwnAt e sz d ok w base v xs) (hb : base' ≤ base) : OwnAt e sz d ok w base' v xs := by
  obtain ⟨h1, inner, ho, hr⟩ := h
  exact ⟨h1, inner, ⟨ho.1, ho.2.imp id fun ⟨g, c, cur, k1, k2, k3⟩ => ⟨g, c, cur, k1, Nat.le_trans hb k2, k3⟩⟩, hr⟩

set_option maxRecDepth 100000 in
set_option maxHeartbeats 1000000 in
theorem npairs_any {ok : Nat → Prop} {nv : Value} {n : Bw.N} {w : World} (hf : n.fit) (hn : NodeAt nt ok w nv n) (hl : n.pairs.length ≤ 1048576) (hu : n.pairs.Pairwise fun a b => a.1 ≠ b.1) :
    Calls Try.prog 15 #[nv] w (Gives w fun q w' => ∃ g cap, q = .slice (some ⟨g, 0, none⟩) n.pairs.length cap ∧ OwnAt 54 2 pairK (fun k => w.heap.size ≤ k) w' w.heap.size q (Bw.come n.pairs)) := by
  have CC := Lib.hid (collect_any n hf nv (.slice none 0 0) [] w.heap.size w OwnAt.nil (Nat.le_refl _) (NodeAt.move (Moves.weaken fun k _ hl => hl) _ _ hn) (by simpa using hl))
  have HL := Lib.hid hl
  have HF := Lib.hid (fit_pairs n hf)
  have HU := Lib.hid hu
  have hE := enters_of Try.func38 (by kernel_rfl) rfl
  have HE := Lib.hid hE
  obtain ⟨tn, bn, rfl⟩ := hn.form
  clear hn hl hu hf hE
  rw [List.nil_append] at CC
  generalize n.pairs = l at *
  go_enter Try.func15, Try.ntmps15
  go_wp2_with fail
  refine CC.out.mono ?_
  rintro e w1 ⟨v1, rfl, hown1, hb1⟩
  have CO := Lib.hid (pown_any HL.out HF.out (hown1.row goodPair))
  obtain ⟨A1, c1, rfl⟩ := (hown1.row goodPair).form
  have HB1 := Lib.hid hb1
  clear hown1 hb1
  go_wp2_with fail
  refine CO.out.mono ?_
  rintro e w2 ⟨v2, rfl, ⟨g, cap, rfl, hown2⟩, hb2⟩
  have CS := Lib.hid (sortp_any pairsc_any HE.out hown2 HL.out HU.out)
  have HB2 := Lib.hid (HB1.out.trans (hb2.mono HB1.out.size))
  have HG := Lib.hid (hown2.lt g rfl)
  have HS1 := Lib.hid HB1.out.size
  clear hown2 hb2
  go_wp2_with fail
  refine CS.out.mono ?_
  rintro e w3 ⟨rfl, hown3, hg3⟩
  go_wp2
  go_ret
  refine ⟨_, rfl, ⟨g, cap, rfl, ?_⟩, HB2.out.grown hg3 HB2.out.size (fun k e => by cases e; exact Nat.le_trans HS1.out HG.out.1)⟩
  have h3 : OwnAt 54 2 pairK (fun k => w.heap.size ≤ k) w3 w1.heap.size (.slice (some ⟨g, 0, none⟩) l.length cap) (Bw.come l) := hown3.move goodPair (Moves.weaken fun k hk _ => Nat.le_trans HS1.out hk)
  exact own_rebase h3 HS1.out
end Go.Proofs.Ytkblhilaeecdlaa
