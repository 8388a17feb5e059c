
import Derived.Test.YtehkjnmnbplcoaaDoorNode2
import Derived.Test.YtehkjnmnbplcoaaDoorBwAll
namespace Go.Proofs.YtehkjnmnbplcoaaDoor
open Go.RowKit Go.Bw

theorem infoN : (Tryd.prog.info? 27).map (fun i => (i.zero, i.size, i.bytes)) = some (some .nilIface, 1, 16) := by kernel_rfl

set_option maxRecDepth 100000 in
set_option maxHeartbeats 400000 in
theorem cloneN {ok : Nat → Prop} {v : Value} {l : List (Option Bw.N)} (w : World) (hv : NodesAt nt ok w v l) (hl : l.length ≤ 1048576) (hok : ∀ k, w.heap.size ≤ k → ok k) :
    Calls Tryd.prog 119 #[v] w (Gives w fun v' w' => OwnAt 27 1 (nodeK nt) ok w' w.heap.size v' l) := by
  obtain ⟨A, c, rfl, hc1, hc2, hc3, hc4, hc5⟩ := hv
  cases A with
  | none =>
    obtain rfl : c = 0 := hc3 rfl
    obtain rfl : l = [] := List.eq_nil_of_length_eq_zero (by omega)
    clear hc1 hc2 hc3 hc4 hc5 hl
    have he := fun (w : World) => Lib.run_eql_slice_nil (P := Tryd.prog) w 50 27 none 0 0 0 0 Tryd.underlying50
    go_enter Tryd.func119, Tryd.ntmps119
    go_wp2
    go_ret
    exact ⟨_, rfl, OwnAt.nil, Below.refl _ _⟩
  | some ad =>
    obtain ⟨b, o, sp⟩ := ad
    have he := fun (w : World) => Lib.run_eql_slice_nil (P := Tryd.prog) w 50 27 (some ⟨b, o, sp⟩) l.length c 0 0 Tryd.underlying50
    have hv : NodesAt nt ok w (.slice (some ⟨b, o, sp⟩) l.length c) l := ⟨_, c, rfl, hc1, hc2, hc3, hc4, hc5⟩
    have HL := Lib.hid hl; clear hl
    obtain ⟨i0, hi, hz0, hz1, hz2⟩ := info_parts infoN
    have HI := Lib.hid hi; have HZ0 := Lib.hid hz0; have HZ1 := Lib.hid hz1; have HZ2 := Lib.hid hz2
    clear hi hz0 hz1 hz2
    obtain ⟨news, hr, hn⟩ : ∃ news, Reps (nodeK nt ok w) 1 l news ∧ ∀ j u, news[j]? = some u → w.cell? ((⟨b, o, sp⟩ : Addr).add j) = some u := by
      by_cases h0 : l = []
      · subst h0; exact ⟨[], Reps.nil _ _, fun j u h => by simp at h⟩
      · obtain rfl : sp = none := hc4 _ rfl h0
        obtain ⟨news, hr, hn⟩ := RowAt.news_all (goodNode nt) hv
        exact ⟨news, hr, fun j u hj => by rw [add_none]; exact (hn j u hj).2⟩
    clear hc1 hc2 hc3 hc4 hc5
    have hB : Below w.heap.size w (w.alloc (.cells #[] 27)) := by (repeat (first | exact Below.refl _ _ | with_reducible assumption | refine Below.drew ?_ | (refine Below.alloc ?_ (by simp) _) | (refine Below.alloc ?_ (by simp; omega) _)))
    have HR := Lib.hid (hr.move (goodNode nt) (ok' := fun k => ok k ∧ some k ≠ (Value.slice (some ⟨w.heap.size, 0, none⟩) 0 0).ownBlock) (fun k hk hl => ⟨⟨hk, fun e => by cases e; exact Nat.lt_irrefl _ hl⟩, hB.block k hl⟩))
    have HN : Hid (∀ j u, news[j]? = some u → (w.alloc (.cells #[] 27)).cell? ((⟨b, o, sp⟩ : Addr).add j) = some u) := Lib.hid fun j u hj => by
      have h1 := hn j u hj
      exact (hB.cell (World.block_lt_of_cell? w _ h1)).trans h1
    have HB := Lib.hid hB
    have HOK := Lib.hid hok
    clear hr hn hv hB hok
    go_enter Tryd.func119, Tryd.ntmps119
    go_wp2_with (at_builtin; refine wp_app (goodNode nt) rfl (.tmp 5) (.tmp 6) 50 rfl w.heap.size 27 i0 .nilIface 16 Tryd.underlying50 HI.out HZ0.out HZ1.out HZ2.out rfl (by decide) _ [] rfl (OwnAt.made (ok := ok) (HOK.out _ (Nat.le_refl _)) (Nat.le_refl _)) ⟨b, o, sp⟩ l.length c l news rfl rfl HN.out HR.out (fun k hk => HOK.out k (by simp at hk; omega)) (by have := HL.out; simp; omega) (by decide) (by simp) ?_; intro v' w' hown' hg hat)
    go_ret
    exact ⟨_, rfl, hown', HB.out.grown hg (by simp) (fun k hk => by cases hk; exact Nat.le_refl _)⟩
end Go.Proofs.YtehkjnmnbplcoaaDoor
