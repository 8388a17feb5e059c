
import Derived.Test.YtadaoceidkagfaaGreatDoorGwith
import Derived.Test.YtadaoceidkagfaaGreatDoorChunk
namespace Go.Proofs.YtadaoceidkagfaaGreatDoor
open Go.RowKit Go.Bw
def _root_.Bw.ofBits (l : List Nat) : Nat := l.foldl (fun m i => m ||| 2 ^ i) 0
theorem _root_.Bw.ofBits_lt : ∀ (l : List Nat), (∀ x ∈ l, x < 32) -> Bw.ofBits l < 4294967296 := by
  intro l h
  unfold Bw.ofBits
  suffices hs : ∀ (l : List Nat) (m : Nat), m < 4294967296 -> (∀ x ∈ l, x < 32) -> l.foldl (fun m i => m ||| 2 ^ i) m < 4294967296 from hs l 0 (by decide) h
  intro l
  induction l with
  | nil => intro m hm _; exact hm
  | cons x r ih => intro m hm hx; exact ih _ (Bw.or_lt hm (hx x (by simp))) (fun y hy => hx y (by simp [hy]))
theorem _root_.Bw.ofBits_succ {l : List Nat} {k : Nat} (h : k < l.length) : Bw.ofBits (l.take (k + 1)) = Bw.ofBits (l.take k) ||| 2 ^ l[k] := by
  unfold Bw.ofBits
  rw [take_succ_snoc h, List.foldl_append]; rfl
theorem _root_.Go.Bw.Reps.two {α : Type} {R : α -> List Value -> Prop} {x y : α} {u v : Value} (hx : R x [u]) (hy : R y [v]) : Reps R 1 [x, y] [u, v] := (Reps.one (sz := 1) hx rfl).append (Reps.one (sz := 1) hy rfl)
theorem _root_.Go.Bw.RowAt.ofBlock {α : Type} {sz : Nat} {d : Knd α} {ok : Nat -> Prop} {W : World} {g n : Nat} {cs : Array Value} {t : TypeId} {fr : Nat × Nat} {xs : List α} (hn : n = xs.length) (hm : xs.length <= maxLen) (hr : Reps (d ok W) sz xs cs.toList) (hb : ok g) (hh : W.heap[g]? = some (.cells cs t fr)) :
    RowAt sz d ok W (.slice (some ⟨g, 0, none⟩) n n) xs := by
  subst hn
  refine ⟨_, _, rfl, Nat.le_refl _, hm, (fun h => by cases h), (fun ad h _ => by cases h; rfl), fun j y hj => ?_⟩
  refine ⟨_, _, rfl, hr.2 j y hj, fun i u hu => ⟨hb, ?_⟩⟩
  unfold World.cell?
  simp only [hh]
  rw [List.getElem?_take] at hu
  split at hu
  · rw [List.getElem?_drop] at hu
    simp only [Nat.zero_add]
    rw [<- hu]; simp
  · cases hu
def FkRel (l : List Nat) (m i : Value) : Prop := ∃ k : Nat, k <= l.length /\ i = .int .i64 k /\ m = .int .u32 (Bw.ofBits (l.take k) : Nat)
set_option maxRecDepth 100000 in
set_option maxHeartbeats 1000000 in
theorem bof_any {ok : Nat -> Prop} {l : List Nat} {v : Value} {w : World} (hr : NatsAt ok w v l) (hl : l.length <= 1048576) (h32 : ∀ x ∈ l, x < 32) :
    Calls Tryz.prog 128 #[v] w fun e w' => e = .returned (.int .u32 (Bw.ofBits l : Nat)) /\ w = w' := by
  obtain ⟨A, c, rfl⟩ := hr.form
  have HR := Lib.hid hr
  have HL := Lib.hid hl
  have H32 := Lib.hid h32
  have H0 : Hid (FkRel l (.int .u32 0) (.int .i64 0)) := Lib.hid ⟨0, Nat.zero_le _, rfl, rfl⟩
  clear hr hl h32
  go_enter Tryz.func128, Tryz.ntmps128
  go_wp2
  go_loop [3, 8] (FkRel l) (fun _ i => l.length - (intOf i).toNat)
  case atStart => exact H0.out
  case round =>
    obtain ⟨k, hk, rfl, rfl⟩ := hrel
    by_cases hlt : k < l.length
    · obtain ⟨b, o, cs, hA, hd, hc⟩ := HR.out.get (List.getElem?_eq_getElem hlt)
      obtain rfl := hd
      subst hA
      have c0 := (hc 0 _ rfl).2
      simp only [Nat.mul_one, Nat.add_zero, encN] at c0
      have hx := H32.out l[k] (List.getElem_mem hlt)
      have hm := Bw.ofBits_lt (l.take k) (fun x hx => H32.out x (List.mem_of_mem_take hx))
      have CW := Lib.hid (bwith_any (Bw.ofBits (l.take k)) l[k] w hm hx)
      have HS := Lib.hid (Bw.ofBits_succ hlt)
      rw [<- HS.out] at CW
      generalize Bw.ofBits (l.take k) = m0 at *
      have h0 : (0 : Int) <= (k : Int) := by omega
      have h1 : (k : Int) < (l.length : Int) := by omega
      clear hm hx hc
      go_wp2_with (go_at_call 147; refine CW.out.mono ?_; rintro e w' ⟨rfl, rfl⟩)
      exact ⟨⟨k + 1, hlt, int_succ hlt HL.out, rfl⟩, less_succ hlt HL.out⟩
    · obtain rfl : k = l.length := by omega
      rw [List.take_length]
      go_wp2
      go_ret
      exact ⟨rfl, rfl⟩
theorem _root_.Bw.forkO_some {a b : Bw.N} {g h : Nat} (hne : g ≠ h) (hg : g < 18446744073709551616) (hh : h < 18446744073709551616) : ∀ f level, level + f = 13 -> g % 32 ^ level = h % 32 ^ level -> ∃ n, Bw.forkO f a g b h level = some n /\ n.count = a.count + b.count := by
  intro f
  induction f with
  | zero =>
    intro level hl he
    have : level = 13 := by omega
    subst this
    exact absurd (Bw.hash_end hg hh he) hne
  | succ f ih =>
    intro level hl he
    simp only [Bw.forkO]
    by_cases hc : Bw.chunkAt g level = Bw.chunkAt h level
    · rw [if_pos hc]
      obtain ⟨k, hk, hn⟩ := ih (level + 1) (by omega) (Bw.chunk_inj he hc)
      exact ⟨_, by rw [hk]; exact Bw.branchO_one (Bw.chunkAt_lt g level), by simp [Bw.N.count, Bw.N.countL, hn]⟩
    · rw [if_neg hc]
      by_cases hlt : Bw.chunkAt h level < Bw.chunkAt g level
      · rw [if_pos hlt]
        exact ⟨_, by rw [Nat.or_comm]; exact Bw.branchO_two hlt (Bw.chunkAt_lt g level), by simp [Bw.N.count, Bw.N.countL]; omega⟩
      · rw [if_neg hlt]
        exact ⟨_, Bw.branchO_two (by omega) (Bw.chunkAt_lt h level), by simp [Bw.N.count, Bw.N.countL]⟩
theorem _root_.Bw.ofBits_one (c : Nat) : Bw.ofBits [c] = 2 ^ c := by simp [Bw.ofBits]
theorem _root_.Bw.ofBits_two (c d : Nat) : Bw.ofBits [c, d] = 2 ^ c ||| 2 ^ d := by simp [Bw.ofBits]
def ForkAns (ok : Nat -> Prop) (w : World) (n : Bw.N) (e : Ending) (w' : World) : Prop := ∃ r, e = .returned r /\ NodeAt nt ok w' r n /\ Below w.heap.size w w'
theorem fork_two {ok : Nat -> Prop} {a b : Bw.N} {c d : Nat} {av bv : Value} {w : World} (ha : NodeAt nt ok w av a) (hb : NodeAt nt ok w bv b) (hok : ∀ k, w.heap.size <= k -> ok k) (hc : c < 32) (hd : d < 32) (hcnt : a.count + b.count <= 4611686018427387904) {n : Bw.N} (hn : Bw.branchO (2 ^ c ||| 2 ^ d) [some a, some b] = some n) (t : TypeId) :
    Calls Tryz.prog 127 #[.int .u32 ((2 ^ c ||| 2 ^ d : Nat) : Int), .slice (some ⟨w.heap.size, 0, none⟩) 2 2] (w.alloc (.cells #[av, bv] t)) (ForkAns ok w n) := by
  have hB : Below w.heap.size w (w.alloc (.cells #[av, bv] t)) := by exact gB3
  have hM : Moves ok ok w (w.alloc (.cells #[av, bv] t)) := Moves.below hB
  have hrow : NodesAt nt ok (w.alloc (.cells #[av, bv] t)) (.slice (some ⟨w.heap.size, 0, none⟩) 2 2) [some a, some b] :=
    RowAt.ofBlock (cs := #[av, bv]) (t := t) (fr := (0, 0)) rfl (by simp [maxLen]) (Reps.two (R := nodeK nt ok _) ⟨av, rfl, NodeAt.move hM _ _ ha⟩ ⟨bv, rfl, NodeAt.move hM _ _ hb⟩) (hok _ (Nat.le_refl _)) (heap_alloc_new _ _)
  refine (branch_any _ hrow (by simp) (Bw.or_lt (Bw.pow_lt32 hc) hd) (fun k hk => hok k (Nat.le_trans hB.size hk)) (by simp [countOs, countO]; omega)).mono ?_
  rintro e w' ⟨r, rfl, hr, hb'⟩
  rw [hn] at hr
  exact ⟨r, rfl, hr, hB.trans (hb'.mono hB.size)⟩
theorem fork_one {ok : Nat -> Prop} {a : Bw.N} {c : Nat} {av : Value} {w : World} (ha : NodeAt nt ok w av a) (hok : ∀ k, w.heap.size <= k -> ok k) (hc : c < 32) (hcnt : a.count <= 4611686018427387904) {n : Bw.N} (hn : Bw.branchO (2 ^ c) [some a] = some n) (t : TypeId) :
    Calls Tryz.prog 127 #[.int .u32 ((2 ^ c : Nat) : Int), .slice (some ⟨w.heap.size, 0, none⟩) 1 1] (w.alloc (.cells #[av] t)) (ForkAns ok w n) := by
  have hB : Below w.heap.size w (w.alloc (.cells #[av] t)) := by exact gB3
  have hM : Moves ok ok w (w.alloc (.cells #[av] t)) := Moves.below hB
  have hrow : NodesAt nt ok (w.alloc (.cells #[av] t)) (.slice (some ⟨w.heap.size, 0, none⟩) 1 1) [some a] :=
    RowAt.ofBlock (cs := #[av]) (t := t) (fr := (0, 0)) rfl (by simp [maxLen]) (Reps.one (x := some a) ⟨av, rfl, NodeAt.move hM _ _ ha⟩ rfl) (hok _ (Nat.le_refl _)) (heap_alloc_new _ _)
  refine (branch_any _ hrow (by simp) (Bw.pow_lt32 hc) (fun k hk => hok k (Nat.le_trans hB.size hk)) (by simp [countOs, countO]; omega)).mono ?_
  rintro e w' ⟨r, rfl, hr, hb'⟩
  rw [hn] at hr
  exact ⟨r, rfl, hr, hB.trans (hb'.mono hB.size)⟩
set_option maxRecDepth 100000 in
set_option maxHeartbeats 1600000 in
theorem fork_any {ok : Nat -> Prop} {a b : Bw.N} {g h : Nat} (hne : g ≠ h) (hg : g < 18446744073709551616) (hh : h < 18446744073709551616) (hcnt : a.count + b.count <= 4611686018427387904) : ∀ (f level : Nat) (av bv : Value) (w : World) (n : Bw.N), level + f = 13 -> g % 32 ^ level = h % 32 ^ level ->
    Bw.forkO f a g b h level = some n -> NodeAt nt ok w av a -> NodeAt nt ok w bv b -> (∀ k, w.heap.size <= k -> ok k) ->
    Calls Tryz.prog 100 #[av, .int .u64 (g : Nat), bv, .int .u64 (h : Nat), .int .i64 (level : Nat)] w (ForkAns ok w n) := by
  intro f
  induction f with
  | zero =>
    intro level _ _ _ _ hl he
    have : level = 13 := by omega
    subst this
    exact absurd (Bw.hash_end hg hh he) hne
  | succ f ih =>
    intro level av bv w n hl he hn ha hb hok
    simp only [Bw.forkO] at hn
    obtain ⟨ta, ba, rfl⟩ := ha.form
    obtain ⟨tb, bb, rfl⟩ := hb.form
    have CG := Lib.hid (fun W => at_any g level (by omega) W)
    have CH := Lib.hid (fun W => at_any h level (by omega) W)
    by_cases hc : Bw.chunkAt g level = Bw.chunkAt h level
    · rw [if_pos hc] at hn
      obtain ⟨k, hk, hkc⟩ := Bw.forkO_some (a := a) (b := b) hne hg hh f (level + 1) (by omega) (Bw.chunk_inj he hc)
      rw [hk] at hn
      have heq : ((Bw.chunkAt g level : Int) == (Bw.chunkAt h level : Int)) = true := by rw [beq_iff_eq]; omega
      have hlt := Bw.chunkAt_lt g level
      have COF := Lib.hid (bof_any (w := w.alloc (.cells #[.int .i64 (Bw.chunkAt g level : Nat)] 3)) (v := .slice (some ⟨w.heap.size, 0, none⟩) 1 1) (l := [Bw.chunkAt g level]) (ok := AllB) (RowAt.ofBlock (cs := #[.int .i64 (Bw.chunkAt g level : Nat)]) (t := 3) (fr := (0, 0)) rfl (by simp [maxLen]) (Reps.one rfl rfl) trivial (heap_alloc_new _ _)) (by simp) (by simp; exact hlt))
      rw [Bw.ofBits_one] at COF
      have hB : Below w.heap.size w (w.alloc (.cells #[.int .i64 (Bw.chunkAt g level : Nat)] 3)) := by exact gB3
      have CF := Lib.hid (ih (level + 1) _ _ _ k (by omega) (Bw.chunk_inj he hc) hk (NodeAt.move (Moves.below hB) _ _ ha) (NodeAt.move (Moves.below hB) _ _ hb) (fun k hk => hok k (Nat.le_trans hB.size hk)))
      have CB := Lib.hid (fun (W : World) (x : Value) (hx : NodeAt nt ok W x k) (hW : Below w.heap.size w W) (t : TypeId) => fork_one (w := W) hx (fun k hk => hok k (Nat.le_trans hW.size hk)) hlt (by omega) hn t)
      have hs : IntKind.i64.wrap ((level : Int) + 1) = (level : Int) + 1 := IntWalk.i64_in _ (by omega)
      have hw : wrap64 ((level : Int) + 1) = (level : Int) + 1 := by unfold wrap64; omega
      have HB := Lib.hid hB
      rw [show ((level + 1 : Nat) : Int) = (level : Int) + 1 by omega] at CF
      generalize Bw.chunkAt g level = cg at *
      generalize Bw.chunkAt h level = ch at *
      clear ih hn ha hb hok hc hk hkc hlt hB he hl
      generalize ((2 ^ cg : Nat) : Int) = z at *
      go_enter Tryz.func100, Tryz.ntmps100
      go_wp2_with (first
        | (go_at_call 104; first | ((with_reducible refine (CG.out _).mono ?_); rintro e w' ⟨rfl, rfl⟩) | ((with_reducible refine (CH.out _).mono ?_); rintro e w' ⟨rfl, rfl⟩))
        | (go_at_call 128; (with_reducible refine COF.out.mono ?_); rintro e w' ⟨rfl, rfl⟩)
        | (go_at_call 100; (with_reducible refine CF.out.mono ?_); rintro e w1 ⟨x1, rfl, hx1, hb1⟩; have CB1 := Lib.hid (CB.out w1 _ hx1 (HB.out.trans (hb1.mono HB.out.size)) 28); have HB1 := Lib.hid (HB.out.trans (hb1.mono HB.out.size)); obtain ⟨t1, b1, rfl⟩ := hx1.form; clear hx1 hb1)
        | (go_at_call 127; (with_reducible refine CB1.out.mono ?_); rintro e w2 ⟨x2, rfl, hx2, hb2⟩; obtain ⟨t2, b2, rfl⟩ := hx2.form; have HX2 := Lib.hid hx2; have HB2 := Lib.hid hb2; clear hx2 hb2))
      go_ret
      exact ⟨_, rfl, HX2.out, HB1.out.trans (HB2.out.mono HB1.out.size)⟩
    · rw [if_neg hc] at hn
      have heq : ((Bw.chunkAt g level : Int) == (Bw.chunkAt h level : Int)) = false := by rw [beq_eq_false_iff_ne]; omega
      have hlg := Bw.chunkAt_lt g level
      have hlh := Bw.chunkAt_lt h level
      have COF := Lib.hid (bof_any (w := w.alloc (.cells #[.int .i64 (Bw.chunkAt g level : Nat), .int .i64 (Bw.chunkAt h level : Nat)] 3)) (v := .slice (some ⟨w.heap.size, 0, none⟩) 2 2) (l := [Bw.chunkAt g level, Bw.chunkAt h level]) (ok := AllB) (RowAt.ofBlock (cs := #[.int .i64 (Bw.chunkAt g level : Nat), .int .i64 (Bw.chunkAt h level : Nat)]) (t := 3) (fr := (0, 0)) rfl (by simp [maxLen]) (Reps.two (R := natK AllB _) rfl rfl) trivial (heap_alloc_new _ _)) (by simp) (by simp; exact ⟨hlg, hlh⟩))
      rw [Bw.ofBits_two] at COF
      have hB : Below w.heap.size w (w.alloc (.cells #[.int .i64 (Bw.chunkAt g level : Nat), .int .i64 (Bw.chunkAt h level : Nat)] 3)) := by exact gB3
      have HB := Lib.hid hB
      have haM := NodeAt.move (Moves.below hB) _ _ ha
      have hbM := NodeAt.move (Moves.below hB) _ _ hb
      have hokM : ∀ k, (w.alloc (.cells #[.int .i64 (Bw.chunkAt g level : Nat), .int .i64 (Bw.chunkAt h level : Nat)] 3)).heap.size <= k -> ok k := fun k hk => hok k (Nat.le_trans hB.size hk)
      by_cases hlt : Bw.chunkAt h level < Bw.chunkAt g level
      · rw [if_pos hlt] at hn
        have CB0 := fork_two hbM haM hokM hlg hlh (by omega) hn 28
        rw [World.size_alloc] at CB0
        have CB1 := Lib.hid CB0
        clear CB0
        generalize Bw.chunkAt g level = cg at *
        generalize Bw.chunkAt h level = ch at *
        clear ih hn ha hb hok hc hlg hlh hB he hl haM hbM hokM
        go_enter Tryz.func100, Tryz.ntmps100
        go_wp2_with (first
          | (go_at_call 104; first | ((with_reducible refine (CG.out _).mono ?_); rintro e w' ⟨rfl, rfl⟩) | ((with_reducible refine (CH.out _).mono ?_); rintro e w' ⟨rfl, rfl⟩))
          | (go_at_call 128; (with_reducible refine COF.out.mono ?_); rintro e w' ⟨rfl, rfl⟩)
          | (go_at_call 127; (with_reducible refine CB1.out.mono ?_); rintro e w2 ⟨x2, rfl, hx2, hb2⟩; obtain ⟨t2, b2, rfl⟩ := hx2.form; have HX2 := Lib.hid hx2; have HB2 := Lib.hid hb2; clear hx2 hb2))
        go_ret
        exact ⟨_, rfl, HX2.out, HB.out.trans (HB2.out.mono HB.out.size)⟩
      · rw [if_neg hlt] at hn
        have CB0 := fork_two haM hbM hokM hlg hlh (by omega) hn 28
        rw [World.size_alloc] at CB0
        have CB1 := Lib.hid CB0
        clear CB0
        generalize Bw.chunkAt g level = cg at *
        generalize Bw.chunkAt h level = ch at *
        clear ih hn ha hb hok hc hlg hlh hB he hl haM hbM hokM
        go_enter Tryz.func100, Tryz.ntmps100
        go_wp2_with (first
          | (go_at_call 104; first | ((with_reducible refine (CG.out _).mono ?_); rintro e w' ⟨rfl, rfl⟩) | ((with_reducible refine (CH.out _).mono ?_); rintro e w' ⟨rfl, rfl⟩))
          | (go_at_call 128; (with_reducible refine COF.out.mono ?_); rintro e w' ⟨rfl, rfl⟩)
          | (go_at_call 127; (with_reducible refine CB1.out.mono ?_); rintro e w2 ⟨x2, rfl, hx2, hb2⟩; obtain ⟨t2, b2, rfl⟩ := hx2.form; have HX2 := Lib.hid hx2; have HB2 := Lib.hid hb2; clear hx2 hb2))
        go_ret
        exact ⟨_, rfl, HX2.out, HB.out.trans (HB2.out.mono HB.out.size)⟩
end Go.Proofs.YtadaoceidkagfaaGreatDoor
