
import Derived.Test.YtadaoceidkagfaaGreatDoorHighA
import Derived.Test.YtadaoceidkagfaaGreatDoorBwT
import Derived.Test.YtadaoceidkagfaaGreatDoorGwith
import Derived.Test.YtadaoceidkagfaaGreatDoorIntoAll
import Derived.Test.YtadaoceidkagfaaGreatDoorTdelA
/- How many nodes prune.Delete visits, and how many keys it compares. -/
namespace Go.Proofs.YtadaoceidkagfaaGreatDoor
open Go.RowKit Go.Bw
def _root_.Bw.cutCost : Nat -> Option Bw.N -> Nat -> Bw.Bytes -> Nat -> Nat × Nat
  | _, none, _, _, _ => (0, 0)
  | _, some (.leaf g _), h, _, _ => (1, if g = h then 1 else 0)
  | _, some (.bucket g t), h, k, _ => if g = h then Bw.T.delCost k t else (0, 0)
  | 0, some (.branch _ _), _, _, _ => (0, 0)
  | f + 1, some (.branch m kids), h, k, level => ((Bw.cutCost f (Bw.kidO m kids (Bw.chunkAt h level)) h k (level + 1)).1 + 1, (Bw.cutCost f (Bw.kidO m kids (Bw.chunkAt h level)) h k (level + 1)).2)
mutual
def _root_.Bw.N.low (L : Nat) : Bw.N -> Prop
  | .leaf .. => True
  | .bucket _ t => t.hi <= L
  | .branch _ kids => Bw.N.lowL L kids
def _root_.Bw.N.lowL (L : Nat) : List Bw.N -> Prop
  | [] => True
  | k :: r => k.low L /\ Bw.N.lowL L r
end
theorem _root_.Bw.N.lowL_iff (L : Nat) (l : List Bw.N) : Bw.N.lowL L l ↔ ∀ k ∈ l, k.low L := by
  induction l with
  | nil => simp [Bw.N.lowL]
  | cons k r ih => simp [Bw.N.lowL, ih]
theorem lays_low {level : Nat} {n : Bw.N} {S : Bw.En -> Prop} (h : Bw.Lays level n S) {n0 L : Nat} (hL : (n0 + 1) ^ 6 < 2 ^ L) : n.count <= n0 -> n.low L := by
  induction h with
  | leaf hs => exact fun _ => trivial
  | bucket he hr h2 hs => exact fun hn => Nat.le_of_lt (high_pow (Nat.le_trans (Bw.T.hi_high _ he) (Nat.mul_le_mul_left _ (Nat.succ_le_succ hn))) hL)
  | @branch level m kids S hm hl h2 hc hk ih =>
    intro hn
    simp only [Bw.N.low, Bw.N.lowL_iff]
    intro k hk'
    obtain ⟨j, hj, rfl⟩ := List.getElem_of_mem hk'
    have hjb : j < (Bw.bitsOf m).length := by omega
    exact ih j _ _ (List.getElem?_eq_getElem hjb) (List.getElem?_eq_getElem hj) (Nat.le_trans (count_mem hk') hn)
theorem cutCost_le {h : Nat} {k : Bw.Bytes} {L : Nat} (h1 : 1 <= L) : ∀ (f level : Nat) (o : Option Bw.N), (∀ n, o = some n -> n.low L) -> (Bw.cutCost f o h k level).1 <= f + L /\ (Bw.cutCost f o h k level).2 <= (Bw.cutCost f o h k level).1
  | f, level, none, _ => by cases f <;> exact ⟨Nat.zero_le _, Nat.le_refl _⟩
  | f, level, some (.leaf g q), _ => by
    have e : Bw.cutCost f (some (.leaf g q)) h k level = (1, if g = h then 1 else 0) := by cases f <;> rfl
    rw [e]
    refine ⟨Nat.le_trans h1 (Nat.le_add_left _ _), ?_⟩
    show (if g = h then 1 else 0) <= 1
    split <;> decide
  | f, level, some (.bucket g t), hn => by
    have e : Bw.cutCost f (some (.bucket g t)) h k level = if g = h then Bw.T.delCost k t else (0, 0) := by cases f <;> rfl
    rw [e]
    have hl : t.hi <= L := hn _ rfl
    have hd := Bw.T.delCost_le k t
    split
    · exact ⟨Nat.le_trans hd.1 (Nat.le_trans hl (Nat.le_add_left _ _)), hd.2⟩
    · exact ⟨Nat.zero_le _, Nat.le_refl _⟩
  | 0, level, some (.branch m kids), _ => ⟨Nat.zero_le _, Nat.le_refl _⟩
  | f + 1, level, some (.branch m kids), hn => by
    have hb : (Bw.N.branch m kids).low L := hn _ rfl
    simp only [Bw.N.low, Bw.N.lowL_iff] at hb
    have ih := cutCost_le (h := h) (k := k) h1 f (level + 1) (Bw.kidO m kids (Bw.chunkAt h level)) fun n e => by
      unfold Bw.kidO at e
      split at e
      · exact hb n (List.mem_of_getElem? e)
      · cases e
    simp only [Bw.cutCost]
    omega
end Go.Proofs.YtadaoceidkagfaaGreatDoor
/- prune.pick, collapse, without; bits.Map.Without. -/
namespace Go.Proofs.YtadaoceidkagfaaGreatDoor
open Go.RowKit Go.Bw Go.Shelf
attribute [local go_sem] Oper.semAt_some
theorem less_and {m c : Nat} (hm : m < 4294967296) (hc : c < 32) : m &&& (4294967295 - 2 ^ c) = Bw.lessBit m c := by
  have hp : 2 ^ c < 4294967296 := Bw.pow_lt32 hc
  apply Nat.eq_of_testBit_eq
  intro i
  rw [Nat.testBit_and, show 4294967295 - 2 ^ c = 2 ^ 32 - (2 ^ c + 1) from by omega, Nat.testBit_two_pow_sub_succ hp, Nat.testBit_two_pow, Bw.testBit_less]
  by_cases hi : i < 32
  · simp [hi]
  · have : m.testBit i = false := Nat.testBit_lt_two_pow (Nat.lt_of_lt_of_le hm (Nat.pow_le_pow_right (n := 2) (by decide) (by omega) : 2 ^ 32 <= 2 ^ i))
    rw [this]; simp
set_option maxRecDepth 100000 in
set_option maxHeartbeats 400000 in
theorem bwithout_any (m i : Nat) (w : World) (hm : m < 4294967296) (h : i < 32) : Calls Tryz.prog 143 #[.int .u32 (m : Nat), .int .i64 (i : Nat)] w fun e w' => e = .returned (.int .u32 ((Bw.lessBit m i : Nat) : Int)) /\ w = w' := by
  have hb : bits .andNot .u32 (m : Int) ((2 ^ i : Nat) : Int) = ((Bw.lessBit m i : Nat) : Int) := by rw [u32_andNot_nat m (2 ^ i) hm (Bw.pow_lt32 h), less_and hm h]
  have C := Lib.hid (fun w => bit_in i w h)
  rw [<- hb]
  clear hb h hm
  generalize ((2 ^ i : Nat) : Int) = y at *
  go_enter Tryz.func143, Tryz.ntmps143
  go_wp2_with (go_at_call 90; refine (C.out _).mono ?_; rintro e w' ⟨rfl, rfl⟩)
  go_ret
  exact ⟨rfl, rfl⟩
def PickI (ok0 : Nat -> Prop) (w : World) (f : Nat -> Option Bw.N) (nv : Value) (pre : List Nat) (W : World) : Prop :=
  (∃ v inner, Boxed W (w.heap.size + 1) 124 v /\ W.ownsRow (w.heap.size + 3) 28 1 v pre.length inner /\ Reps (nodeK nt ok0 W) 1 (pre.map f) inner) /\ Boxed W w.heap.size 28 nv
theorem PickI.kept {ok : Nat -> Prop} {w : World} {f : Nat -> Option Bw.N} {nv : Value} {pre : List Nat} {W W' : World} {row : Option Nat} (h : PickI (fun k => ok k /\ k < w.heap.size) w f nv pre W) (hg : W.grownBy W' row)
    (hr : ∀ r, row = some r -> w.heap.size <= r /\ ∃ o : Obj, W.heap[r]? = some o /\ o.isCells = false) : PickI (fun k => ok k /\ k < w.heap.size) w f nv pre W' := by
  obtain ⟨⟨v, inner, hv, hrow, hreps⟩, c1⟩ := h
  have hr2 := fun r e => (hr r e).2
  refine ⟨⟨v, inner, hv.kept hg (boxed_not hv hr2), hrow.kept hg ?_, hreps.move (goodNode nt) (Moves.grown hg fun k hk e => ?_)⟩, c1.kept hg (boxed_not c1 hr2)⟩
  · rcases hrow.2 with ⟨rfl, _⟩ | ⟨g, cap, cur, rfl, _, hgb, _⟩
    · exact .inl rfl
    · refine .inr fun e' => ?_
      obtain ⟨o, ho, hc⟩ := hr2 g (by simpa [Value.ownBlock] using e'.symm)
      rw [hgb] at ho; cases ho; cases hc
  · have := (hr k e.symm).1
    omega
theorem PickI.step {ok : Nat -> Prop} {w W w1 : World} {f : Nat -> Option Bw.N} {nv v v' x : Value} {y : Nat} {pre : List Nat} {inner : List Value} {tmp : Obj} (hv : Boxed W (w.heap.size + 1) 124 v) (hrow : W.ownsRow (w.heap.size + 3) 28 1 v pre.length inner)
    (hreps : Reps (nodeK nt (fun k => ok k /\ k < w.heap.size) W) 1 (pre.map f) inner) (c1 : Boxed W w.heap.size 28 nv) (hB : Below w.heap.size w W)
    (hx : ONodeAt nt (fun k => ok k /\ k < w.heap.size) W x (f y)) (hown' : w1.ownsRow (w.heap.size + 3) 28 1 v' (pre.length + 1) (inner ++ [x])) (hgrow : (W.alloc tmp).grownBy w1 v.ownBlock) :
    Boxed w1 (w.heap.size + 1) 124 v /\ KeepsOthers W (w1.setCell ⟨w.heap.size + 1, 0, none⟩ v') /\ Below w.heap.size W (w1.setCell ⟨w.heap.size + 1, 0, none⟩ v') /\ PickI (fun k => ok k /\ k < w.heap.size) w f nv (pre ++ [y]) (w1.setCell ⟨w.heap.size + 1, 0, none⟩ v') /\ Below w.heap.size w (w1.setCell ⟨w.heap.size + 1, 0, none⟩ v') := by
  obtain ⟨hv1, hv2, _, hk2, hb2⟩ := hv.appended (by decide) (ownsRow_low hrow (n := w.heap.size) (by omega)) hB.size (by omega) (ownsRow_low hown' (by omega)) hgrow
  have hlt := hrow.lt
  have hne : ∀ B, B < w.heap.size + 3 -> some B ≠ v.ownBlock := fun B hBl e => by have := (hlt B e.symm).1; omega
  have keep : ∀ (B : Nat) (t : TypeId) (u : Value), B < w.heap.size + 1 -> Boxed W B t u -> Boxed (w1.setCell ⟨w.heap.size + 1, 0, none⟩ v') B t u := fun B t u hBl h =>
    ((h.alloc tmp).kept hgrow (hne B (by omega))).kept (grownBy_setCell' w1 (w.heap.size + 1) v') (fun e => by cases e; omega)
  refine ⟨hv1, hk2, hb2, ⟨⟨v', inner ++ [x], hv2, ?_, ?_⟩, keep _ _ _ (by omega) c1⟩, hB.trans hb2⟩
  · rw [List.length_append]
    exact hown'.kept (grownBy_setCell' w1 _ v') (.inr (hv1.not_row (by decide) hown').symm)
  · have hmv : Moves (fun k => ok k /\ k < w.heap.size) (fun k => ok k /\ k < w.heap.size) W (w1.setCell ⟨w.heap.size + 1, 0, none⟩ v') := fun k hk _ => ⟨hk, hb2.block k hk.2⟩
    rw [List.map_append]
    exact (hreps.move (goodNode nt) hmv).append (Reps.one ⟨x, rfl, hx.move hmv⟩ rfl)
set_option maxRecDepth 100000 in
set_option maxHeartbeats 2000000 in
theorem pick_any {ok : Nat -> Prop} {m m' : Nat} {kids : List Bw.N} {nv : Value} {w : World} (hn : NodeAt nt ok w nv (.branch m kids)) (hm : m < 4294967296) (hkl : kids.length = (Bw.bitsOf m).length) (hm' : m' < 4294967296) (hT : Tab w) (hok : ∀ k, w.heap.size <= k -> ok k)
    (hcnt : countOs ((Bw.bitsOf m').map (kidAt m kids)) <= 4611686018427387904) :
    Calls Tryz.prog 144 #[nv, .int .u32 (m' : Nat)] w (Gives w fun r w' => ONodeAt nt ok w' r (Bw.branchO m' ((Bw.bitsOf m').map (kidAt m kids)))) := by
  refine (callsIn_wide (n := 3)).1 ?_
  have hpos := hT.pos
  have HN0 := Lib.hid hn
  simp only [NodeAt] at hn
  obtain ⟨b, g, o, cap, rfl, hh⟩ := hn
  refine callsIn_of_wp_marks Tryz.func144 rfl trivial ?_ rfl
  simp only [Tryz.ntmps144, List.size_toArray, List.length_cons, List.length_nil, Nat.reduceAdd, Nat.reduceSub, Array.replicate_succ, Array.replicate_zero, List.push_toArray, List.append_toArray, List.nil_append, List.cons_append]
  gi_wp2_with (refine ⟨trivial, ?_⟩; (gi_at_call 103; refine (all_in _ _ _).mono ?_; rintro e w' ⟨rfl, rfl⟩))
  obtain ⟨W0, hW0⟩ : ∃ W0, (((w.alloc (.cells #[.iface 122 (.pointer (some ⟨b, 0, none⟩))] 28)).alloc (.cells #[.slice none 0 0] 124)).alloc (.cells #[.int .u32 (m' : Nat)] 85)) = W0 := ⟨_, rfl⟩
  rw [hW0]
  have hs0 : W0.heap.size = w.heap.size + 3 := by rw [<- hW0]; simp
  have hB0 : Below w.heap.size w W0 := by rw [<- hW0]; exact gB3
  have b1 : Boxed W0 w.heap.size 28 (.iface 122 (.pointer (some ⟨b, 0, none⟩))) := by rw [<- hW0]; exact ((Boxed.new w 28 _).alloc _).alloc _
  have b4 : Boxed W0 (w.heap.size + 1) 124 (.slice none 0 0) := by rw [<- hW0]; have := ((Boxed.new (w.alloc (.cells #[.iface 122 (.pointer (some ⟨b, 0, none⟩))] 28)) 124 (.slice none 0 0)).alloc (.cells #[.int .u32 (m' : Nat)] 85)); simpa using this
  have b5 : Boxed W0 (w.heap.size + 1 + 1) 85 (.int .u32 (m' : Nat)) := by rw [<- hW0]; have := (Boxed.new ((w.alloc (.cells #[.iface 122 (.pointer (some ⟨b, 0, none⟩))] 28)).alloc (.cells #[.slice none 0 0] 124)) 85 (.int .u32 (m' : Nat))); simpa using this
  have HN : Hid (NodeAt nt (fun k => ok k /\ k < w.heap.size) w (.iface 122 (.pointer (some ⟨b, 0, none⟩))) (.branch m kids)) := Lib.hid (NodeAt.move (Moves.weaken fun k hk hl => ⟨hk, hl⟩) _ _ HN0.out)
  have HOK := Lib.hid hok
  have HCNT := Lib.hid hcnt
  obtain ⟨i0, hi, hz0, hz1, hz2⟩ := info_parts infoN
  have HI := Lib.hid hi; have HZ0 := Lib.hid hz0; have HZ1 := Lib.hid hz1; have HZ2 := Lib.hid hz2
  clear hW0 hok hcnt hi hz0 hz1 hz2 hh HN0
  refine wpIn_rangeFunc_ownF (w := W0) rfl (by omega) (gf := 131) (lb := #[.pointer (some ⟨w.heap.size + 1 + 1, 0, none⟩)]) rfl trivial (enters_of Tryz.func131 (by kernel_rfl) rfl)
    (all_stops _ (by omega) (w.heap.size + 1 + 1) w.heap.size m' hm' hpos _ (by omega) b5.cell (hT.below hpos hB0)) belowK_t (belowK_b (by omega)) (Below.refl _ _) (fun _ => rfl)
    (fun pre W => PickI (fun k => ok k /\ k < w.heap.size) w (kidAt m kids) (.iface 122 (.pointer (some ⟨b, 0, none⟩))) pre W /\ Below w.heap.size w W)
    (fun _ _ _ => False)
    (OwnFrom.and (fun s A B row hs hg hr => hs.kept hg (fun r e => ⟨Nat.le_trans (by omega) (hr r e).1, (hr r e).2⟩)) (ownFrom_below (Nat.le_refl _) (by omega)))
    (fun _ _ _ _ _ hs _ _ => hs)
    ⟨⟨⟨_, [], b4, World.ownsRow_nil _ _ _ _, Reps.nil _ _⟩, b1⟩, hB0⟩
    (fun y => { tmps := #[.iface 122 (.pointer (some ⟨b, 0, none⟩)), .int .u32 (m' : Nat), .pointer (some ⟨w.heap.size, 0, none⟩), undef, .nilIface, .pointer (some ⟨w.heap.size + 1, 0, none⟩), .int .i64 (y : Nat), undef, undef, .int .u32 (m' : Nat), .func (.func 131) #[] #[.pointer (some ⟨w.heap.size + 1 + 1, 0, none⟩)], .int .i64 (y : Nat), undef, undef, undef, undef, undef, undef, undef, undef, undef, undef, undef, undef, undef], defers := [] }) ?assign ?body ?done ?stop
  case assign =>
    intro l x W K hK
    gi_wp2
    exact hK
  case body =>
    rintro l pre y W ⟨⟨⟨v, inner, hv, hrow, hreps⟩, c1⟩, hB⟩ hlt
    have d1 := c1.cell; have d4 := hv.cell; have d5 := hv.frozen
    have hl32 : (Bw.bitsOf m').length <= 32 := by rw [Bw.length_bitsOf]; exact Bw.ones_le 32 _
    have hpl : pre.length < 32 := by omega
    have HREPS := Lib.hid hreps
    have HBW := Lib.hid hB
    clear hreps hB b1 b4 b5 hB0
    have hnW : NodeAt nt (fun k => ok k /\ k < w.heap.size) W (.iface 122 (.pointer (some ⟨b, 0, none⟩))) (.branch m kids) := NodeAt.move (fun k hk _ => ⟨hk, HBW.out.block k hk.2⟩) _ _ HN.out
    cases hka : kidAt m kids y with
    | some kk =>
      have CK := Lib.hid (kid_some hnW hm hkl hka)
      have HFY := Lib.hid hka
      clear hka hnW
      gi_wp2_with (first
        | (refine ⟨trivial, ?_⟩; gi_at_call 36; refine (CallsIn.inRound l (callsIn_wide.2 CK.out)).mono ?_; rintro e W1 ⟨t1, b1, q, rfl, hu, rfl⟩; have HU := Lib.hid hu; clear hu; have e4 : (W.drewN q).cell? ⟨w.heap.size + 1, 0, none⟩ = some v := d4)
        | (gi_at_builtin; refine wpListIn_append_own _ rfl _ _ 124 rfl (w.heap.size + 3) 28 i0 .nilIface 1 16 Tryz.underlying124 HI.out HZ0.out HZ1.out HZ2.out rfl (by decide) _ _ _ rfl ((hrow.kept (Turns.drewN W q none) (by cases v.ownBlock <;> simp)).alloc _) ⟨(W.drewN q).heap.size, 0, none⟩ 1 1 [.iface t1 (.pointer (some ⟨b1, 0, none⟩))] rfl rfl (cell_one_new _ _ _) (by simp [Value.oneCell']) (by unfold maxLen; omega) (by omega) (by have := hv.lt; have := c1.lt; simp; omega) ?_; intro v' w1 hown' hgrow _; obtain ⟨g', cap', rfl⟩ := ownsRow_succ hown'; obtain ⟨hv1, hk2, hb2, hI2, hB2⟩ := PickI.step (W := W.drewN q) (y := y) (f := kidAt m kids) hv (hrow.kept (Turns.drewN W q none) (by cases v.ownBlock <;> simp)) (HREPS.out.move (goodNode nt) (Moves.drewN W q)) c1 (b_drewN HBW.out q) (by rw [HFY.out]; exact NodeAt.move (Moves.drewN W q) _ _ HU.out) hown' hgrow; have hc1 := hv1.cell; have hf1 := hv1.frozen))
      exact ⟨(KeepsOthers.of_grownBy (Turns.drewN W q none) (fun j o e => by cases e)).trans hk2, (b_drewN (Below.refl _ _) q).trans hb2, hI2, hB2⟩
    | none =>
      have CK := Lib.hid (kid_not hnW hm hkl hka)
      have HFY := Lib.hid hka
      clear hka hnW
      gi_wp2_with (first
        | (refine ⟨trivial, ?_⟩; gi_at_call 36; refine (CallsIn.inRound l (callsIn_wide.2 CK.out)).mono ?_; rintro e W1 ⟨q, rfl, rfl⟩; have e4 : (W.drewN q).cell? ⟨w.heap.size + 1, 0, none⟩ = some v := d4)
        | (gi_at_builtin; refine wpListIn_append_own _ rfl _ _ 124 rfl (w.heap.size + 3) 28 i0 .nilIface 1 16 Tryz.underlying124 HI.out HZ0.out HZ1.out HZ2.out rfl (by decide) _ _ _ rfl ((hrow.kept (Turns.drewN W q none) (by cases v.ownBlock <;> simp)).alloc _) ⟨(W.drewN q).heap.size, 0, none⟩ 1 1 [.nilIface] rfl rfl (cell_one_new _ _ _) (by simp [Value.oneCell']) (by unfold maxLen; omega) (by omega) (by have := hv.lt; have := c1.lt; simp; omega) ?_; intro v' w1 hown' hgrow _; obtain ⟨g', cap', rfl⟩ := ownsRow_succ hown'; obtain ⟨hv1, hk2, hb2, hI2, hB2⟩ := PickI.step (W := W.drewN q) (y := y) (f := kidAt m kids) hv (hrow.kept (Turns.drewN W q none) (by cases v.ownBlock <;> simp)) (HREPS.out.move (goodNode nt) (Moves.drewN W q)) c1 (b_drewN HBW.out q) (by rw [HFY.out]; rfl) hown' hgrow; have hc1 := hv1.cell; have hf1 := hv1.frozen))
      exact ⟨(KeepsOthers.of_grownBy (Turns.drewN W q none) (fun j o e => by cases e)).trans hk2, (b_drewN (Below.refl _ _) q).trans hb2, hI2, hB2⟩
  case done =>
    rintro D ys W hD rfl ⟨⟨⟨v, inner, hv, hrow, hreps⟩, c1⟩, hB⟩ hK
    have d4 := hv.cell
    have hDl : D < W.heap.size := (Array.getElem?_eq_some_iff.1 hK).1
    have hvD : ∀ g, v.ownBlock = some g -> g ≠ D := by
      intro g hg e
      rcases hrow.2 with ⟨rfl, _⟩ | ⟨g', cap', cur, rfl, _, hgb, _⟩
      · simp [Value.ownBlock] at hg
      · simp [Value.ownBlock] at hg
        subst hg; subst e
        rw [hgb] at hK; cases hK
    have hown : OwnAt 28 1 (nodeK nt) (fun k => ok k /\ k ≠ D) W (w.heap.size + 3) v ((Bw.bitsOf m').map (kidAt m kids)) := by
      refine ⟨fun g hg => ⟨HOK.out g (by have := (hrow.lt g hg).1; omega), hvD g hg⟩, inner, by rw [List.length_map]; exact hrow, hreps.move (goodNode nt) fun j hj _ => ⟨⟨⟨hj.1, by omega⟩, fun e => ?_⟩, rfl⟩⟩
      have := (hrow.lt j e.symm).1
      omega
    have hl32 : ((Bw.bitsOf m').map (kidAt m kids)).length <= 32 := by rw [List.length_map, Bw.length_bitsOf]; exact Bw.ones_le 32 _
    have hcnt := HCNT.out
    have CB := Lib.hid (branch_any W (hown.row (goodNode nt)) hl32 hm' (fun k hk => ⟨HOK.out k (Nat.le_trans hB.size hk), by omega⟩) hcnt)
    obtain ⟨A9, c9, rfl⟩ := (hown.row (goodNode nt)).form
    have HBW := Lib.hid hB
    rw [List.length_map] at d4
    have HKD := Lib.hid hK
    have HDL := Lib.hid hDl
    have HDW := Lib.hid hD
    have HSZ := Lib.hid hs0
    rw [List.length_map] at CB
    clear hown hl32 hcnt hrow hreps hB hK hvD hDl c1 hD hs0
    gi_wp2_with (refine ⟨trivial, ?_⟩; gi_at_call 127; refine (callsIn_wide.2 CB.out).mono ?_; rintro e w2 ⟨r, rfl, hr, hb2⟩)
    have hK2 : w2.heap[D]? = some (.deferred (some [])) := (hb2.block D HDL.out).trans HKD.out
    refine ⟨by simp, .inl ⟨_, _, rfl, run_takeDeferred hK2, ?_⟩⟩
    refine ⟨_, results_tmp rfl _ _ _, r, rfl, hr.move fun j hj _ => ⟨hj.1, World.putObj_heap_other hj.2⟩, ?_⟩
    exact (HBW.out.trans (hb2.mono HBW.out.size)).trans (belowK_b (w := w) (Nat.le_refl _) w2 D _ _ (by have := HSZ.out; have := HDW.out; omega) hK2 rfl rfl)
  case stop =>
    rintro D c pre W _ _ h _
    exact h.elim
end Go.Proofs.YtadaoceidkagfaaGreatDoor
/- prune.collapse, without. -/
namespace Go.Proofs.YtadaoceidkagfaaGreatDoor
open Go.RowKit Go.Bw
theorem branchO_form {m : Nat} {l : List (Option Bw.N)} {n : Bw.N} (h : Bw.branchO m l = some n) : ∃ kids, n = .branch m kids /\ kids.length = (Bw.bitsOf m).length := by
  unfold Bw.branchO at h
  split at h
  · cases h
  · rename_i hx
    obtain ⟨ks, hks, rfl⟩ := Option.map_eq_some_iff.1 h
    refine ⟨ks, rfl, ?_⟩
    have h1 := Bw.seqO_some hks
    have h2 : l.length = (Bw.bitsOf m).length := Decidable.byContradiction fun e => hx (.inr e)
    rw [<- h2, h1, List.length_map]
set_option maxRecDepth 100000 in
set_option maxHeartbeats 1000000 in
theorem collapse_nil (w : World) : Calls Tryz.prog 120 #[.nilIface] w fun e w' => e = .returned .nilIface /\ w = w' := by
  have CM := Lib.hid (map_any (ok := AllB) (v := .nilIface) (n := none) (w := w) rfl)
  simp only [mapO] at CM
  go_enter Tryz.func120, Tryz.ntmps120
  go_wp2_with (go_at_call 32; (with_reducible refine CM.out.mono ?_); rintro e w' ⟨rfl, rfl⟩)
  go_ret
  exact ⟨rfl, rfl⟩
theorem collapseO_many {m : Nat} {kids : List Bw.N} (h : kids.length ≠ 1) : Bw.collapseO (some (.branch m kids)) = some (.branch m kids) := by
  match kids, h with
  | [], _ => rfl
  | [_], h => exact absurd rfl h
  | _ :: _ :: _, _ => rfl
set_option maxRecDepth 100000 in
set_option maxHeartbeats 2000000 in
theorem collapse_branch {ok : Nat -> Prop} {m : Nat} {kids : List Bw.N} {nv : Value} {w : World} (hn : NodeAt nt ok w nv (.branch m kids)) (hm : m < 4294967296) (hkl : kids.length = (Bw.bitsOf m).length) (hT : Tab w) :
    Calls Tryz.prog 120 #[nv] w (Gives w fun r w' => ONodeAt nt ok w' r (Bw.collapseO (some (.branch m kids)))) := by
  have CM := Lib.hid (map_any (ok := ok) (v := nv) (n := some (.branch m kids)) (w := w) hn)
  have CC := Lib.hid (count_any m w hm)
  simp only [mapO] at CM
  obtain ⟨b, hv⟩ : ∃ b, nv = .iface 122 (.pointer (some ⟨b, 0, none⟩)) := by
    have h0 := hn
    simp only [NodeAt] at h0
    obtain ⟨b, _, _, _, rfl, _⟩ := h0
    exact ⟨b, rfl⟩
  by_cases h1 : kids.length = 1
  · obtain ⟨k, rfl⟩ := List.length_eq_one_iff.1 h1
    obtain ⟨x, hx⟩ := List.length_eq_one_iff.1 (hkl.symm.trans h1)
    have hbl : (Bw.bitsOf m).length = 1 := by rw [hx]; rfl
    rw [hbl] at CC
    have hx0 : (Bw.bitsOf m)[0]? = some x := by rw [hx]; rfl
    have hmem : x ∈ Bw.bitsOf m := by rw [hx]; exact List.mem_singleton.2 rfl
    have htb := (Bw.mem_bitsOf.1 hmem).2
    have hka : kidAt m [k] x = some k := by
      unfold kidAt
      rw [if_pos htb]
      have hat := Bw.bits_at_mem hmem
      have hlt := (List.getElem?_eq_some_iff.1 hat).1
      rw [hbl] at hlt
      have h0 : Bw.ones x m = 0 := by omega
      rw [h0]; rfl
    have CN := Lib.hid (fun (n : Nat) => nth_any m 0 x hm hx0 (w.drewN n) (hT.below hT.pos (b_drewN (Below.refl _ _) n)))
    simp only [Int.cast_ofNat_Int] at CN
    have CK := Lib.hid (fun (W : World) (hW : Below w.heap.size w W) => kid_some (NodeAt.move (Moves.below hW) _ _ hn) hm hkl hka)
    have HN := Lib.hid hn
    have hkb := kindm_branch
    have hkl' := kindm_leaf
    have hkk := kindm_bucket
    subst hv
    cases hk : k with
    | leaf g q =>
      subst hk
      show Calls _ _ _ _ (Gives w fun r w' => ONodeAt nt ok w' r (some (.leaf g q)))
      clear hn hm hkl hT h1 hx hbl hx0 hmem htb hka HN hkb hkk
      go_enter Tryz.func120, Tryz.ntmps120
      go_wp2_with (first
        | (go_at_call 32; (with_reducible refine CM.out.mono ?_); rintro e w' ⟨rfl, rfl⟩)
        | (go_at_call 145; (with_reducible refine CC.out.mono ?_); rintro e w' ⟨rfl, n1, rfl⟩)
        | (go_at_call 146; (with_reducible refine (CN.out _).mono ?_); rintro e w2 ⟨rfl, hb2⟩; have hb02 : Below w.heap.size w w2 := Below.trans (by exact gB3) hb2)
        | (go_at_call 36; (with_reducible refine (CK.out _ hb02).mono ?_); rintro e w3 ⟨t3, b3, n3, rfl, hk3, rfl⟩; have hk3' := hk3; simp only [NodeAt] at hk3'; obtain ⟨_, _, _, he3, _⟩ := hk3'; cases he3)
        | (go_at_call 175; (with_reducible refine (kind_leaf _ _).mono ?_); rintro e w' ⟨rfl, rfl⟩))
      go_ret
      exact ⟨_, rfl, NodeAt.move (Moves.drewN w2 n3) _ _ (NodeAt.move (ok' := ok) (Moves.weaken fun _ h _ => h) _ _ hk3), hb02.trans ((b_drewN (Below.refl w2.heap.size w2) n3).mono hb02.size)⟩
    | bucket g q =>
      subst hk
      show Calls _ _ _ _ (Gives w fun r w' => ONodeAt nt ok w' r (some (.bucket g q)))
      clear hn hm hkl hT h1 hx hbl hx0 hmem htb hka HN hkb hkl'
      go_enter Tryz.func120, Tryz.ntmps120
      go_wp2_with (first
        | (go_at_call 32; (with_reducible refine CM.out.mono ?_); rintro e w' ⟨rfl, rfl⟩)
        | (go_at_call 145; (with_reducible refine CC.out.mono ?_); rintro e w' ⟨rfl, n1, rfl⟩)
        | (go_at_call 146; (with_reducible refine (CN.out _).mono ?_); rintro e w2 ⟨rfl, hb2⟩; have hb02 : Below w.heap.size w w2 := Below.trans (by exact gB3) hb2)
        | (go_at_call 36; (with_reducible refine (CK.out _ hb02).mono ?_); rintro e w3 ⟨t3, b3, n3, rfl, hk3, rfl⟩; have hk3' := hk3; simp only [NodeAt] at hk3'; obtain ⟨_, _, he3, _⟩ := hk3'; cases he3)
        | (go_at_call 177; (with_reducible refine (kind_bucket _ _).mono ?_); rintro e w' ⟨rfl, rfl⟩))
      go_ret
      exact ⟨_, rfl, NodeAt.move (Moves.drewN w2 n3) _ _ (NodeAt.move (ok' := ok) (Moves.weaken fun _ h _ => h) _ _ hk3), hb02.trans ((b_drewN (Below.refl w2.heap.size w2) n3).mono hb02.size)⟩
    | branch m2 k2 =>
      subst hk
      show Calls _ _ _ _ (Gives w fun r w' => ONodeAt nt ok w' r (some (.branch m [.branch m2 k2])))
      clear hn hm hkl hT h1 hx hbl hx0 hmem htb hka hkl' hkk
      go_enter Tryz.func120, Tryz.ntmps120
      go_wp2_with (first
        | (go_at_call 32; (with_reducible refine CM.out.mono ?_); rintro e w' ⟨rfl, rfl⟩)
        | (go_at_call 145; (with_reducible refine CC.out.mono ?_); rintro e w' ⟨rfl, n1, rfl⟩)
        | (go_at_call 146; (with_reducible refine (CN.out _).mono ?_); rintro e w2 ⟨rfl, hb2⟩; have hb02 : Below w.heap.size w w2 := Below.trans (by exact gB3) hb2)
        | (go_at_call 36; (with_reducible refine (CK.out _ hb02).mono ?_); rintro e w3 ⟨t3, b3, n3, rfl, hk3, rfl⟩; have hk3' := hk3; simp only [NodeAt] at hk3'; obtain ⟨_, _, _, _, he3, _⟩ := hk3'; cases he3)
        | (go_at_call 179; (with_reducible refine (kind_branch _ _).mono ?_); rintro e w' ⟨rfl, rfl⟩))
      go_ret
      have hbf := hb02.trans ((b_drewN (Below.refl w2.heap.size w2) n3).mono hb02.size)
      exact ⟨_, rfl, NodeAt.move (Moves.below hbf) _ _ HN.out, hbf⟩
  · have hne : ((kids.length : Int) != 1) = true := by rw [bne_iff_ne]; omega
    rw [<- hkl] at CC
    rw [collapseO_many h1]
    have HN := Lib.hid hn
    have hne2 : ¬ ((kids.length : Int) = 1) := by omega
    have hne3 : ((kids.length : Int) == 1) = false := by rw [beq_eq_false_iff_ne]; omega
    subst hv
    clear hn hm hkl hT
    go_enter Tryz.func120, Tryz.ntmps120
    go_wp2_with (first
      | (go_at_call 32; (with_reducible refine CM.out.mono ?_); rintro e w' ⟨rfl, rfl⟩)
      | (go_at_call 145; (with_reducible refine CC.out.mono ?_); rintro e w' ⟨rfl, n1, rfl⟩))
    go_ret
    exact ⟨_, rfl, NodeAt.move (Moves.drewN w n1) _ _ HN.out, b_drewN (Below.refl _ _) n1⟩
theorem collapse_any {ok : Nat -> Prop} {m : Nat} {l : List (Option Bw.N)} {v : Value} {w : World} (h : ONodeAt nt ok w v (Bw.branchO m l)) (hm : m < 4294967296) (hT : Tab w) :
    Calls Tryz.prog 120 #[v] w (Gives w fun r w' => ONodeAt nt ok w' r (Bw.collapseO (Bw.branchO m l))) := by
  cases hb : Bw.branchO m l with
  | none =>
    rw [hb] at h
    simp only [ONodeAt] at h
    subst h
    exact (collapse_nil w).mono fun e w' x => ⟨_, x.1, rfl, x.2 ▸ Below.refl _ _⟩
  | some n =>
    rw [hb] at h
    obtain ⟨kids, rfl, hkl⟩ := branchO_form hb
    exact collapse_branch h hm hkl hT
set_option maxRecDepth 100000 in
set_option maxHeartbeats 1000000 in
theorem without_any {ok : Nat -> Prop} {m c : Nat} {kids : List Bw.N} {nv : Value} {w : World} (hn : NodeAt nt ok w nv (.branch m kids)) (hm : m < 4294967296) (hkl : kids.length = (Bw.bitsOf m).length) (hc : c < 32) (hT : Tab w) (hok : ∀ k, w.heap.size <= k -> ok k)
    (hcnt : countOs ((Bw.bitsOf (Bw.lessBit m c)).map (kidAt m kids)) <= 4611686018427387904) :
    Calls Tryz.prog 119 #[nv, .int .i64 (c : Nat)] w (Gives w fun r w' => ONodeAt nt ok w' r (Bw.collapseO (Bw.branchO (Bw.lessBit m c) ((Bw.bitsOf (Bw.lessBit m c)).map (kidAt m kids))))) := by
  have CM := Lib.hid (map_any (ok := ok) (v := nv) (n := some (.branch m kids)) (w := w) hn)
  have CW := Lib.hid (fun W => bwithout_any m c W hm hc)
  have hlt := Bw.less_lt hm hc
  have CP := Lib.hid (pick_any hn hm hkl hlt hT hok hcnt)
  have CC := Lib.hid (fun (W : World) (v : Value) (hW : Below w.heap.size w W) (h : ONodeAt nt ok W v (Bw.branchO (Bw.lessBit m c) ((Bw.bitsOf (Bw.lessBit m c)).map (kidAt m kids)))) => collapse_any h hlt (hT.below hT.pos hW))
  simp only [mapO] at CM
  obtain ⟨b, hv⟩ : ∃ b, nv = .iface 122 (.pointer (some ⟨b, 0, none⟩)) := by
    have h0 := hn
    simp only [NodeAt] at h0
    obtain ⟨b, _, _, _, rfl, _⟩ := h0
    exact ⟨b, rfl⟩
  subst hv
  clear hn hm hkl hc hT hok hcnt hlt
  generalize Bw.collapseO (Bw.branchO (Bw.lessBit m c) ((Bw.bitsOf (Bw.lessBit m c)).map (kidAt m kids))) = res at *
  generalize (Bw.bitsOf (Bw.lessBit m c)).map (kidAt m kids) = ks at *
  generalize Bw.lessBit m c = m' at *
  go_enter Tryz.func119, Tryz.ntmps119
  go_wp2_with (first
    | (go_at_call 32; (with_reducible refine CM.out.mono ?_); rintro e w' ⟨rfl, rfl⟩)
    | (go_at_call 143; (with_reducible refine (CW.out _).mono ?_); rintro e w' ⟨rfl, rfl⟩)
    | (go_at_call 144; (with_reducible refine CP.out.mono ?_); rintro e w1 ⟨r1, rfl, hr1, hb1⟩)
    | (go_at_call 120; (with_reducible refine (CC.out _ _ hb1 hr1).mono ?_); rintro e w2 ⟨r2, rfl, hr2, hb2⟩))
  go_ret
  exact ⟨_, rfl, hr2, hb1.trans (hb2.mono hb1.size)⟩
end Go.Proofs.YtadaoceidkagfaaGreatDoor
/- prune.from, branch, Delete. -/
namespace Go.Proofs.YtadaoceidkagfaaGreatDoor
open Go.RowKit Go.Bw
def CutTold (ok : Nat -> Prop) (w' : World) (v nv : Value) : Option (Option Bw.N) -> Prop
  | none => nv = v
  | some o => ONodeAt nt ok w' nv o
def CutEnds (ok : Nat -> Prop) (w : World) (v mv : Value) (mb : Option Nat) (r : Option (Option Bw.N)) (c : Nat × Nat) (e : Ending) (w' : World) : Prop :=
  ∃ nv, e = .returned (.tuple #[nv, .bool r.isSome]) /\ CutTold ok w' v nv r /\ MeterAt w' mv c mb /\ Turns w w' mb
abbrev recvC (h : Nat) (u mv : Value) : Value := .agg #[.int .u64 (h : Nat), u, mv]
abbrev CutIn (ok okb : Nat -> Prop) (mb : Option Nat) (f level : Nat) (o : Option Bw.N) (l : List Bw.En) (h : Nat) (k : Bw.Bytes) (c : Nat × Nat) (w : World) (v u mv : Value) : Prop :=
  PutIn ok okb mb f level o l h (k, []) c w v u (.slice none 0 0) mv
set_option maxRecDepth 100000 in
set_option maxHeartbeats 1600000 in
theorem cut_none {ok okb : Nat -> Prop} {mb : Option Nat} {f level : Nat} {l : List Bw.En} {h : Nat} {k : Bw.Bytes} {c : Nat × Nat} {w : World} {v u mv : Value} (H : CutIn ok okb mb f level none l h k c w v u mv) :
    Calls Tryz.prog 68 #[recvC h u mv, v, .int .i64 (level : Nat)] w (CutEnds ok w v mv mb none c) := by
  have hv : v = .nilIface := H.node
  subst hv
  obtain ⟨⟨U, cu, rfl⟩, _, ⟨AM, rfl⟩⟩ := H.forms
  dsimp only at *
  obtain ⟨wb, hwb⟩ : ∃ wb, w.alloc (.cells #[.int .u64 (h : Nat), .slice U k.length cu, .pointer AM] 145) = wb := ⟨_, rfl⟩
  have hB : Below w.heap.size w wb := by rw [<- hwb]; exact gB3
  have hsb : wb.heap.size = w.heap.size + 1 := by rw [<- hwb]; simp
  have x0 : wb.cell? ⟨w.heap.size, 0, none⟩ = some (.int .u64 (h : Nat)) := by rw [<- hwb]; exact cell_new w 0 _ _ 0 _ rfl
  have x1 : wb.cell? ⟨w.heap.size, 1, none⟩ = some (.slice U k.length cu) := by rw [<- hwb]; exact cell_new w 0 _ _ 1 _ rfl
  have x2 : wb.cell? ⟨w.heap.size, 2, none⟩ = some (.pointer AM) := by rw [<- hwb]; exact cell_new w 0 _ _ 2 _ rfl
  have hwm : some w.heap.size ≠ mb := H.hokm _ (H.hok _ (Nat.le_refl _))
  have hTW : ∀ W, Turns wb W mb -> Moves ok ok w W := fun W hW => (Moves.below hB).trans hB.size (hW.moves H.hokm)
  have hTB : ∀ W, Turns wb W mb -> Moves okb okb w W := fun W hW => (Moves.below hB).trans hB.size (hW.moves H.hokb)
  have hsW : ∀ W, Turns wb W mb -> ∀ k, W.heap.size <= k -> ok k := fun W hW k hk => H.hok k (Nat.le_trans (Nat.le_trans hB.size hW.size) hk)
  have hwW : ∀ W, Turns wb W mb -> Turns w W mb := fun W hW => (Turns.of_below mb hB).trans hW
  have SK : Hid (∀ W, Turns wb W mb -> W.cell? ⟨w.heap.size, 0, none⟩ = some (.int .u64 (h : Nat)) /\ W.cell? ⟨w.heap.size, 1, none⟩ = some (.slice U k.length cu) /\ W.cell? ⟨w.heap.size, 2, none⟩ = some (.pointer AM)) :=
    Lib.hid fun W hW => ⟨hW.cell x0 hwm, hW.cell x1 hwm, hW.cell x2 hwm⟩
  have CV := Lib.hid (visit_any (H.meter.below hB) (by have := H.c1; omega))
  have HTW := Lib.hid hwW
  have HWB := Lib.hid hwb
  have HM := Lib.hid (H.meter.below hB)
  have heq := fun W => eql_nn W
  clear H hB hwb hTW hTB hsW hwW hsb x0 x1 x2 CV
  go_enter Tryz.func68, Tryz.ntmps68
  go_wp2_with fail
  rw [HWB.out]
  have hTb := Turns.refl wb mb
  obtain ⟨y0, y1, y2⟩ := SK.out wb hTb
  go_wp2
  go_ret2
  exact ⟨_, rfl, rfl, HM.out, HTW.out _ hTb⟩
set_option maxRecDepth 100000 in
set_option maxHeartbeats 1600000 in
theorem cut_leaf_other {ok okb : Nat -> Prop} {mb : Option Nat} {f level g : Nat} {q : Bw.PV} {l : List Bw.En} {h : Nat} {k : Bw.Bytes} {c : Nat × Nat} {w : World} {v u mv : Value} (H : CutIn ok okb mb f level (some (.leaf g q)) l h k c w v u mv) (hne : g ≠ h) :
    Calls Tryz.prog 68 #[recvC h u mv, v, .int .i64 (level : Nat)] w (CutEnds ok w v mv mb none (c.1 + 1, c.2)) := by
  have hnode : NodeAt nt ok w v (.leaf g q) := H.node
  obtain ⟨b, hv⟩ : ∃ b, v = .iface 114 (.pointer (some ⟨b, 0, none⟩)) := by
    have h0 := hnode
    simp only [NodeAt] at h0
    obtain ⟨b, _, _, rfl, _⟩ := h0
    exact ⟨b, rfl⟩
  subst hv
  obtain ⟨⟨U, cu, rfl⟩, _, ⟨AM, rfl⟩⟩ := H.forms
  dsimp only at *
  obtain ⟨wb, hwb⟩ : ∃ wb, w.alloc (.cells #[.int .u64 (h : Nat), .slice U k.length cu, .pointer AM] 145) = wb := ⟨_, rfl⟩
  have hB : Below w.heap.size w wb := by rw [<- hwb]; exact gB3
  have hsb : wb.heap.size = w.heap.size + 1 := by rw [<- hwb]; simp
  have x0 : wb.cell? ⟨w.heap.size, 0, none⟩ = some (.int .u64 (h : Nat)) := by rw [<- hwb]; exact cell_new w 0 _ _ 0 _ rfl
  have x1 : wb.cell? ⟨w.heap.size, 1, none⟩ = some (.slice U k.length cu) := by rw [<- hwb]; exact cell_new w 0 _ _ 1 _ rfl
  have x2 : wb.cell? ⟨w.heap.size, 2, none⟩ = some (.pointer AM) := by rw [<- hwb]; exact cell_new w 0 _ _ 2 _ rfl
  have hwm : some w.heap.size ≠ mb := H.hokm _ (H.hok _ (Nat.le_refl _))
  have hTW : ∀ W, Turns wb W mb -> Moves ok ok w W := fun W hW => (Moves.below hB).trans hB.size (hW.moves H.hokm)
  have hTB : ∀ W, Turns wb W mb -> Moves okb okb w W := fun W hW => (Moves.below hB).trans hB.size (hW.moves H.hokb)
  have hsW : ∀ W, Turns wb W mb -> ∀ k, W.heap.size <= k -> ok k := fun W hW k hk => H.hok k (Nat.le_trans (Nat.le_trans hB.size hW.size) hk)
  have hwW : ∀ W, Turns wb W mb -> Turns w W mb := fun W hW => (Turns.of_below mb hB).trans hW
  have SK : Hid (∀ W, Turns wb W mb -> W.cell? ⟨w.heap.size, 0, none⟩ = some (.int .u64 (h : Nat)) /\ W.cell? ⟨w.heap.size, 1, none⟩ = some (.slice U k.length cu) /\ W.cell? ⟨w.heap.size, 2, none⟩ = some (.pointer AM)) :=
    Lib.hid fun W hW => ⟨hW.cell x0 hwm, hW.cell x1 hwm, hW.cell x2 hwm⟩
  have CV := Lib.hid (visit_any (H.meter.below hB) (by have := H.c1; omega))
  have HTW := Lib.hid hwW
  have HWB := Lib.hid hwb
  have CH := Lib.hid (fun (W : World) (hW : Turns wb W mb) => hash_any (n := some (.leaf g q)) (v := .iface 114 (.pointer (some ⟨b, 0, none⟩))) (w := W) (ok := ok) (NodeAt.move (hTW W hW) _ _ hnode))
  simp only [hashO] at CH
  have hgh : ((g : Int) != (h : Int)) = true := by rw [bne_iff_ne]; omega
  have hm := kindm_leaf
  clear H hB hwb hTW hTB hsW hwW hnode hsb x0 x1 x2 hne
  go_enter Tryz.func68, Tryz.ntmps68
  go_wp2_with fail
  rw [HWB.out]
  have hTb := Turns.refl wb mb
  obtain ⟨y0, y1, y2⟩ := SK.out wb hTb
  go_wp2_with (first
    | (go_at_call 175; (with_reducible refine (kind_leaf _ _).mono ?_); rintro e w' ⟨rfl, rfl⟩)
    | (go_at_call 81; (with_reducible refine CV.out.mono ?_); rintro e w1 ⟨rfl, hm1, hT1⟩; obtain ⟨z0, z1, z2⟩ := SK.out w1 hT1)
    | (go_at_call 29; (with_reducible refine (CH.out _ hT1).mono ?_); rintro e w' ⟨rfl, rfl⟩))
  go_ret2
  exact ⟨_, rfl, rfl, hm1, HTW.out _ hT1⟩
set_option maxRecDepth 100000 in
set_option maxHeartbeats 1600000 in
theorem cut_leaf_same {ok okb : Nat -> Prop} {mb : Option Nat} {f level : Nat} {q : Bw.PV} {l : List Bw.En} {h : Nat} {k : Bw.Bytes} {c : Nat × Nat} {w : World} {v u mv : Value} (H : CutIn ok okb mb f level (some (.leaf h q)) l h k c w v u mv) :
    Calls Tryz.prog 68 #[recvC h u mv, v, .int .i64 (level : Nat)] w (CutEnds ok w v mv mb (if k = q.1 then some none else none) (c.1 + 1, c.2 + 1)) := by
  have hnode : NodeAt nt ok w v (.leaf h q) := H.node
  have hL : Bw.Lays level (.leaf h q) fun e => e ∈ l := H.lays
  have hmem : (h, q) ∈ l := by cases hL with | leaf hs => exact (hs _).2 rfl
  have hq := H.bytes _ hmem
  obtain ⟨b, hv⟩ : ∃ b, v = .iface 114 (.pointer (some ⟨b, 0, none⟩)) := by
    have h0 := hnode
    simp only [NodeAt] at h0
    obtain ⟨b, _, _, rfl, _⟩ := h0
    exact ⟨b, rfl⟩
  subst hv
  obtain ⟨⟨U, cu, rfl⟩, _, ⟨AM, rfl⟩⟩ := H.forms
  dsimp only at *
  obtain ⟨wb, hwb⟩ : ∃ wb, w.alloc (.cells #[.int .u64 (h : Nat), .slice U k.length cu, .pointer AM] 145) = wb := ⟨_, rfl⟩
  have hB : Below w.heap.size w wb := by rw [<- hwb]; exact gB3
  have hsb : wb.heap.size = w.heap.size + 1 := by rw [<- hwb]; simp
  have x0 : wb.cell? ⟨w.heap.size, 0, none⟩ = some (.int .u64 (h : Nat)) := by rw [<- hwb]; exact cell_new w 0 _ _ 0 _ rfl
  have x1 : wb.cell? ⟨w.heap.size, 1, none⟩ = some (.slice U k.length cu) := by rw [<- hwb]; exact cell_new w 0 _ _ 1 _ rfl
  have x2 : wb.cell? ⟨w.heap.size, 2, none⟩ = some (.pointer AM) := by rw [<- hwb]; exact cell_new w 0 _ _ 2 _ rfl
  have hwm : some w.heap.size ≠ mb := H.hokm _ (H.hok _ (Nat.le_refl _))
  have hTW : ∀ W, Turns wb W mb -> Moves ok ok w W := fun W hW => (Moves.below hB).trans hB.size (hW.moves H.hokm)
  have hTB : ∀ W, Turns wb W mb -> Moves okb okb w W := fun W hW => (Moves.below hB).trans hB.size (hW.moves H.hokb)
  have hsW : ∀ W, Turns wb W mb -> ∀ k, W.heap.size <= k -> ok k := fun W hW k hk => H.hok k (Nat.le_trans (Nat.le_trans hB.size hW.size) hk)
  have hwW : ∀ W, Turns wb W mb -> Turns w W mb := fun W hW => (Turns.of_below mb hB).trans hW
  have SK : Hid (∀ W, Turns wb W mb -> W.cell? ⟨w.heap.size, 0, none⟩ = some (.int .u64 (h : Nat)) /\ W.cell? ⟨w.heap.size, 1, none⟩ = some (.slice U k.length cu) /\ W.cell? ⟨w.heap.size, 2, none⟩ = some (.pointer AM)) :=
    Lib.hid fun W hW => ⟨hW.cell x0 hwm, hW.cell x1 hwm, hW.cell x2 hwm⟩
  have CV := Lib.hid (visit_any (H.meter.below hB) (by have := H.c1; omega))
  have HTW := Lib.hid hwW
  have HWB := Lib.hid hwb
  have CH := Lib.hid (fun (W : World) (hW : Turns wb W mb) => hash_any (n := some (.leaf h q)) (v := .iface 114 (.pointer (some ⟨b, 0, none⟩))) (w := W) (ok := ok) (NodeAt.move (hTW W hW) _ _ hnode))
  simp only [hashO] at CH
  have hmlt : ∀ W, Turns wb W mb -> ∀ k, W.heap.size < k -> some k ≠ mb := fun W hW k hk => H.hokm k (hsW W hW k (by omega))
  have CP := Lib.hid (fun (W : World) (hW : Turns wb W mb) => pair_leaf (NodeAt.move (hTW W hW) _ _ hnode) hq.1 hq.2)
  have CC := Lib.hid (fun (W : World) (hW : Turns wb W mb) (hm : MeterAt W (.pointer AM) (c.1 + 1, c.2) mb) (n0 : Nat) (hn0 : wb.heap.size <= n0) (u : Value) (hu : BytesAt (fun k => n0 < k) W u q.1) => mcmp_any hm (by have := H.c2; simp only; omega) (H.b1.move goodByte (hTB W hW)) hu H.hokb (fun k hk => hmlt wb (Turns.refl _ _) k (by omega)))
  have hgh : ((h : Int) != (h : Int)) = false := by simp
  have hm := kindm_leaf
  by_cases hk : k = q.1
  · rw [if_pos hk]
    have hcmp : Lib.compareBytes k q.1 = 0 := (Bw.cmp_eq_zero _ _).2 hk
    dsimp only at CC
    rw [hcmp] at CC
    clear H hB hwb hTW hTB hsW hwW hnode hsb x0 x1 x2 hk hcmp hmem hq hL hmlt
    go_enter Tryz.func68, Tryz.ntmps68
    go_wp2_with fail
    rw [HWB.out]
    have hTb := Turns.refl wb mb
    obtain ⟨y0, y1, y2⟩ := SK.out wb hTb
    go_wp2_with (first
      | (go_at_call 175; (with_reducible refine (kind_leaf _ _).mono ?_); rintro e w' ⟨rfl, rfl⟩)
      | (go_at_call 81; (with_reducible refine CV.out.mono ?_); rintro e w1 ⟨rfl, hm1, hT1⟩; obtain ⟨z0, z1, z2⟩ := SK.out w1 hT1)
      | (go_at_call 29; (with_reducible refine (CH.out _ hT1).mono ?_); rintro e w' ⟨rfl, rfl⟩)
      | (go_at_call 30; (with_reducible refine (CP.out _ hT1).mono ?_); rintro e w2 ⟨r2, rfl, ⟨P, Q, rfl, hP, hQ⟩, hb2⟩; obtain ⟨P1, cp, rfl⟩ := hP.form; obtain ⟨Q1, cq, rfl⟩ := hQ.form; have hT2 : Turns wb w2 mb := hT1.trans (Turns.of_below _ hb2); obtain ⟨s0, s1, s2⟩ := SK.out w2 hT2; have hlt2 : w.heap.size < w2.heap.size := World.block_lt_of_cell? w2 _ s0)
      | (go_at_call 82; (with_reducible refine (CC.out _ (hT2.trans (Turns.of_below _ (by exact gB3))) ((hm1.below hb2).below (by exact gB3)) _ hT1.size _ (hP.move goodByte (Moves.below (by exact gB3)))).mono ?_); rintro e w3 ⟨rfl, hm3, ht3⟩; have hT3 : Turns wb w3 mb := hT2.trans ((Turns.of_below _ (by exact gB3)).trans ht3)))
    go_ret2
    exact ⟨_, rfl, rfl, hm3, HTW.out _ hT3⟩
  · rw [if_neg hk]
    have hcmp : (Lib.compareBytes k q.1 == 0) = false := by rw [beq_eq_false_iff_ne]; exact fun x => hk ((Bw.cmp_eq_zero _ _).1 x)
    dsimp only at CC
    generalize Lib.compareBytes k q.1 = cmp at *
    have hcmp2 : (cmp != 0) = true := by rw [bne, hcmp]; rfl
    clear H hB hwb hTW hTB hsW hwW hnode hsb x0 x1 x2 hk hmem hq hL hmlt
    go_enter Tryz.func68, Tryz.ntmps68
    go_wp2_with fail
    rw [HWB.out]
    have hTb := Turns.refl wb mb
    obtain ⟨y0, y1, y2⟩ := SK.out wb hTb
    go_wp2_with (first
      | (go_at_call 175; (with_reducible refine (kind_leaf _ _).mono ?_); rintro e w' ⟨rfl, rfl⟩)
      | (go_at_call 81; (with_reducible refine CV.out.mono ?_); rintro e w1 ⟨rfl, hm1, hT1⟩; obtain ⟨z0, z1, z2⟩ := SK.out w1 hT1)
      | (go_at_call 29; (with_reducible refine (CH.out _ hT1).mono ?_); rintro e w' ⟨rfl, rfl⟩)
      | (go_at_call 30; (with_reducible refine (CP.out _ hT1).mono ?_); rintro e w2 ⟨r2, rfl, ⟨P, Q, rfl, hP, hQ⟩, hb2⟩; obtain ⟨P1, cp, rfl⟩ := hP.form; obtain ⟨Q1, cq, rfl⟩ := hQ.form; have hT2 : Turns wb w2 mb := hT1.trans (Turns.of_below _ hb2); obtain ⟨s0, s1, s2⟩ := SK.out w2 hT2; have hlt2 : w.heap.size < w2.heap.size := World.block_lt_of_cell? w2 _ s0)
      | (go_at_call 82; (with_reducible refine (CC.out _ (hT2.trans (Turns.of_below _ (by exact gB3))) ((hm1.below hb2).below (by exact gB3)) _ hT1.size _ (hP.move goodByte (Moves.below (by exact gB3)))).mono ?_); rintro e w3 ⟨rfl, hm3, ht3⟩; have hT3 : Turns wb w3 mb := hT2.trans ((Turns.of_below _ (by exact gB3)).trans ht3)))
    go_ret2
    exact ⟨_, rfl, rfl, hm3, HTW.out _ hT3⟩
set_option maxRecDepth 100000 in
set_option maxHeartbeats 1600000 in
theorem cut_bucket_other {ok okb : Nat -> Prop} {mb : Option Nat} {f level g : Nat} {t : Bw.T} {l : List Bw.En} {h : Nat} {k : Bw.Bytes} {c : Nat × Nat} {w : World} {v u mv : Value} (H : CutIn ok okb mb f level (some (.bucket g t)) l h k c w v u mv) (hne : g ≠ h) :
    Calls Tryz.prog 68 #[recvC h u mv, v, .int .i64 (level : Nat)] w (CutEnds ok w v mv mb none c) := by
  have hnode : NodeAt nt ok w v (.bucket g t) := H.node
  obtain ⟨b, hv⟩ : ∃ b, v = .iface 117 (.pointer (some ⟨b, 0, none⟩)) := by
    have h0 := hnode
    simp only [NodeAt] at h0
    obtain ⟨b, _, rfl, _⟩ := h0
    exact ⟨b, rfl⟩
  subst hv
  obtain ⟨⟨U, cu, rfl⟩, _, ⟨AM, rfl⟩⟩ := H.forms
  dsimp only at *
  obtain ⟨wb, hwb⟩ : ∃ wb, w.alloc (.cells #[.int .u64 (h : Nat), .slice U k.length cu, .pointer AM] 145) = wb := ⟨_, rfl⟩
  have hB : Below w.heap.size w wb := by rw [<- hwb]; exact gB3
  have hsb : wb.heap.size = w.heap.size + 1 := by rw [<- hwb]; simp
  have x0 : wb.cell? ⟨w.heap.size, 0, none⟩ = some (.int .u64 (h : Nat)) := by rw [<- hwb]; exact cell_new w 0 _ _ 0 _ rfl
  have x1 : wb.cell? ⟨w.heap.size, 1, none⟩ = some (.slice U k.length cu) := by rw [<- hwb]; exact cell_new w 0 _ _ 1 _ rfl
  have x2 : wb.cell? ⟨w.heap.size, 2, none⟩ = some (.pointer AM) := by rw [<- hwb]; exact cell_new w 0 _ _ 2 _ rfl
  have hwm : some w.heap.size ≠ mb := H.hokm _ (H.hok _ (Nat.le_refl _))
  have hTW : ∀ W, Turns wb W mb -> Moves ok ok w W := fun W hW => (Moves.below hB).trans hB.size (hW.moves H.hokm)
  have hTB : ∀ W, Turns wb W mb -> Moves okb okb w W := fun W hW => (Moves.below hB).trans hB.size (hW.moves H.hokb)
  have hsW : ∀ W, Turns wb W mb -> ∀ k, W.heap.size <= k -> ok k := fun W hW k hk => H.hok k (Nat.le_trans (Nat.le_trans hB.size hW.size) hk)
  have hwW : ∀ W, Turns wb W mb -> Turns w W mb := fun W hW => (Turns.of_below mb hB).trans hW
  have SK : Hid (∀ W, Turns wb W mb -> W.cell? ⟨w.heap.size, 0, none⟩ = some (.int .u64 (h : Nat)) /\ W.cell? ⟨w.heap.size, 1, none⟩ = some (.slice U k.length cu) /\ W.cell? ⟨w.heap.size, 2, none⟩ = some (.pointer AM)) :=
    Lib.hid fun W hW => ⟨hW.cell x0 hwm, hW.cell x1 hwm, hW.cell x2 hwm⟩
  have CV := Lib.hid (visit_any (H.meter.below hB) (by have := H.c1; omega))
  have HTW := Lib.hid hwW
  have HWB := Lib.hid hwb
  have CH := Lib.hid (fun (W : World) (hW : Turns wb W mb) => hash_any (n := some (.bucket g t)) (v := .iface 117 (.pointer (some ⟨b, 0, none⟩))) (w := W) (ok := ok) (NodeAt.move (hTW W hW) _ _ hnode))
  simp only [hashO] at CH
  have hgh : ((g : Int) != (h : Int)) = true := by rw [bne_iff_ne]; omega
  have hm := kindm_bucket
  have HMB := Lib.hid (H.meter.below hB)
  clear H hB hwb hTW hTB hsW hwW hnode hsb x0 x1 x2 hne CV
  go_enter Tryz.func68, Tryz.ntmps68
  go_wp2_with fail
  rw [HWB.out]
  have hTb := Turns.refl wb mb
  obtain ⟨y0, y1, y2⟩ := SK.out wb hTb
  go_wp2_with (first
    | (go_at_call 177; (with_reducible refine (kind_bucket _ _).mono ?_); rintro e w' ⟨rfl, rfl⟩)
    | (go_at_call 29; (with_reducible refine (CH.out _ hTb).mono ?_); rintro e w' ⟨rfl, rfl⟩))
  go_ret2
  exact ⟨_, rfl, rfl, HMB.out, HTW.out _ hTb⟩
set_option maxRecDepth 100000 in
set_option maxHeartbeats 1600000 in
theorem cut_bucket_same {ok okb : Nat -> Prop} {mb : Option Nat} {f level : Nat} {t : Bw.T} {l : List Bw.En} {h : Nat} {k : Bw.Bytes} {c : Nat × Nat} {w : World} {v u mv : Value} (H : CutIn ok okb mb f level (some (.bucket h t)) l h k c w v u mv) :
    Calls Tryz.prog 68 #[recvC h u mv, v, .int .i64 (level : Nat)] w (CutEnds ok w v mv mb ((Bw.T.del k t).map fun u => Bw.bucketO h u) (c.1 + (Bw.T.delCost k t).1, c.2 + (Bw.T.delCost k t).2)) := by
  have hL : Bw.Lays level (.bucket h t) fun e => e ∈ l := H.lays
  have hnode : NodeAt nt ok w v (.bucket h t) := H.node
  have hsz : t.size <= 1048560 := by have := Bw.lays_count hL l H.unlike (fun _ => Iff.rfl); simp only [Bw.N.count] at this; rw [this]; exact H.len
  obtain ⟨hev, hri, hme⟩ : t.even /\ Bw.Rises t.list /\ ∀ e : Bw.En, e ∈ l ↔ e.1 = h /\ e.2 ∈ t.list := by
    cases hL with
    | bucket a b _ d => exact ⟨a, b, d⟩
  obtain ⟨b, hv⟩ : ∃ b, v = .iface 117 (.pointer (some ⟨b, 0, none⟩)) := by
    have h0 := hnode
    simp only [NodeAt] at h0
    obtain ⟨b, _, rfl, _⟩ := h0
    exact ⟨b, rfl⟩
  subst hv
  obtain ⟨⟨U, cu, rfl⟩, _, ⟨AM, rfl⟩⟩ := H.forms
  dsimp only at *
  obtain ⟨wb, hwb⟩ : ∃ wb, w.alloc (.cells #[.int .u64 (h : Nat), .slice U k.length cu, .pointer AM] 145) = wb := ⟨_, rfl⟩
  have hB : Below w.heap.size w wb := by rw [<- hwb]; exact gB3
  have hsb : wb.heap.size = w.heap.size + 1 := by rw [<- hwb]; simp
  have x0 : wb.cell? ⟨w.heap.size, 0, none⟩ = some (.int .u64 (h : Nat)) := by rw [<- hwb]; exact cell_new w 0 _ _ 0 _ rfl
  have x1 : wb.cell? ⟨w.heap.size, 1, none⟩ = some (.slice U k.length cu) := by rw [<- hwb]; exact cell_new w 0 _ _ 1 _ rfl
  have x2 : wb.cell? ⟨w.heap.size, 2, none⟩ = some (.pointer AM) := by rw [<- hwb]; exact cell_new w 0 _ _ 2 _ rfl
  have hwm : some w.heap.size ≠ mb := H.hokm _ (H.hok _ (Nat.le_refl _))
  have hTW : ∀ W, Turns wb W mb -> Moves ok ok w W := fun W hW => (Moves.below hB).trans hB.size (hW.moves H.hokm)
  have hTB : ∀ W, Turns wb W mb -> Moves okb okb w W := fun W hW => (Moves.below hB).trans hB.size (hW.moves H.hokb)
  have hsW : ∀ W, Turns wb W mb -> ∀ k, W.heap.size <= k -> ok k := fun W hW k hk => H.hok k (Nat.le_trans (Nat.le_trans hB.size hW.size) hk)
  have hwW : ∀ W, Turns wb W mb -> Turns w W mb := fun W hW => (Turns.of_below mb hB).trans hW
  have SK : Hid (∀ W, Turns wb W mb -> W.cell? ⟨w.heap.size, 0, none⟩ = some (.int .u64 (h : Nat)) /\ W.cell? ⟨w.heap.size, 1, none⟩ = some (.slice U k.length cu) /\ W.cell? ⟨w.heap.size, 2, none⟩ = some (.pointer AM)) :=
    Lib.hid fun W hW => ⟨hW.cell x0 hwm, hW.cell x1 hwm, hW.cell x2 hwm⟩
  have CV := Lib.hid (visit_any (H.meter.below hB) (by have := H.c1; omega))
  have HTW := Lib.hid hwW
  have HWB := Lib.hid hwb
  have CH := Lib.hid (fun (W : World) (hW : Turns wb W mb) => hash_any (n := some (.bucket h t)) (v := .iface 117 (.pointer (some ⟨b, 0, none⟩))) (w := W) (ok := ok) (NodeAt.move (hTW W hW) _ _ hnode))
  simp only [hashO] at CH
  have CP := Lib.hid (fun (W : World) => pair_other b 117 (.inl rfl) W)
  have CT := Lib.hid (fun (W : World) (hW : Turns wb W mb) => (tree_any (n := some (.bucket h t)) (v := .iface 117 (.pointer (some ⟨b, 0, none⟩))) (w := W) (ok := ok) (NodeAt.move (hTW W hW) _ _ hnode)))
  simp only [TreeTold] at CT
  have CD := Lib.hid (fun (W : World) (hW : Turns wb W mb) (tv : Value) (ht : TreeAt ok W tv t) (hm : MeterAt W (.pointer AM) c mb) => tdelete_any (ok := ok) (okb := okb) (mb := mb) k t _ _ _ c W ht hev (H.b1.move goodByte (hTB W hW)) hm H.hokm H.hokb (hsW W hW) (by omega) (by have := H.c1; omega) (by have := H.c2; omega))
  have hgh : ((h : Int) != (h : Int)) = false := by simp
  have hm := kindm_bucket
  have HMB := Lib.hid (H.meter.below hB)
  generalize hdc : Bw.T.delCost k t = dc at *
  cases hd : Bw.T.del k t with
  | none =>
    rw [hd] at CD
    clear H hB hwb hTW hTB hsW hwW hL hnode hsb x0 x1 x2 hsz hev hri hme hd hdc CV
    go_enter Tryz.func68, Tryz.ntmps68
    go_wp2_with fail
    rw [HWB.out]
    have hTb := Turns.refl wb mb
    obtain ⟨y0, y1, y2⟩ := SK.out wb hTb
    go_wp2_with (first
      | (go_at_call 177; (with_reducible refine (kind_bucket _ _).mono ?_); rintro e w' ⟨rfl, rfl⟩)
      | (go_at_call 29; (with_reducible refine (CH.out _ hTb).mono ?_); rintro e w' ⟨rfl, rfl⟩)
      | (go_at_call 30; (with_reducible refine (CP.out _).mono ?_); rintro e w2 ⟨rfl, hb2⟩; have hT2 : Turns wb w2 mb := Turns.of_below _ hb2; obtain ⟨s0, s1, s2⟩ := SK.out w2 hT2; have hlt2 : w.heap.size < w2.heap.size := World.block_lt_of_cell? w2 _ s0)
      | (go_at_call 31; (with_reducible refine (CT.out _ (hT2.trans (Turns.of_below _ (by exact gB3)))).mono ?_); rintro e w' ⟨⟨r, rfl, tv, rfl, htv⟩, rfl⟩; obtain ⟨TV, rfl⟩ := htv.form)
      | (go_at_call 95; (with_reducible refine (CD.out _ (hT2.trans (Turns.of_below _ (by exact gB3))) _ htv ((HMB.out.below hb2).below (by exact gB3))).mono ?_); rintro e w3 ⟨r3, rfl, rfl, hm3, ht3⟩; have hT3 : Turns wb w3 mb := hT2.trans ((Turns.of_below _ (by exact gB3)).trans ht3)))
    go_ret2
    exact ⟨_, rfl, rfl, hm3, HTW.out _ hT3⟩
  | some ut =>
    rw [hd] at CD
    have hbd : ∀ x ∈ ut.list, x.1.length <= 1048576 /\ x.2.length <= 1048576 := fun x hx => by
      rw [((Bw.T.del_list k t hri).2 ut hd).2] at hx
      exact H.bytes (h, x) ((hme _).2 ⟨rfl, (Bw.mem_without.1 hx).1⟩)
    have CB := Lib.hid (fun (W : World) (hW : Turns wb W mb) (tv : Value) (ht : TreeAt ok W tv ut) => bucket_any (h := h) ht hbd (hsW W hW))
    show Calls _ _ _ _ (CutEnds ok w _ _ mb (some (Bw.bucketO h ut)) _)
    generalize Bw.bucketO h ut = res at *
    clear H hB hwb hTW hTB hsW hwW hL hnode hsb x0 x1 x2 hsz hev hri hme hd hdc CV hbd
    go_enter Tryz.func68, Tryz.ntmps68
    go_wp2_with fail
    rw [HWB.out]
    have hTb := Turns.refl wb mb
    obtain ⟨y0, y1, y2⟩ := SK.out wb hTb
    go_wp2_with (first
      | (go_at_call 177; (with_reducible refine (kind_bucket _ _).mono ?_); rintro e w' ⟨rfl, rfl⟩)
      | (go_at_call 29; (with_reducible refine (CH.out _ hTb).mono ?_); rintro e w' ⟨rfl, rfl⟩)
      | (go_at_call 30; (with_reducible refine (CP.out _).mono ?_); rintro e w2 ⟨rfl, hb2⟩; have hT2 : Turns wb w2 mb := Turns.of_below _ hb2; obtain ⟨s0, s1, s2⟩ := SK.out w2 hT2; have hlt2 : w.heap.size < w2.heap.size := World.block_lt_of_cell? w2 _ s0)
      | (go_at_call 31; (with_reducible refine (CT.out _ (hT2.trans (Turns.of_below _ (by exact gB3)))).mono ?_); rintro e w' ⟨⟨r, rfl, tv, rfl, htv⟩, rfl⟩; obtain ⟨TV, rfl⟩ := htv.form)
      | (go_at_call 95; (with_reducible refine (CD.out _ (hT2.trans (Turns.of_below _ (by exact gB3))) _ htv ((HMB.out.below hb2).below (by exact gB3))).mono ?_); rintro e w3 ⟨r3, rfl, hr3, hm3, ht3⟩; have hT3 : Turns wb w3 mb := hT2.trans ((Turns.of_below _ (by exact gB3)).trans ht3); obtain ⟨z0, z1, z2⟩ := SK.out w3 hT3; have hr3 : TreeAt ok w3 r3 ut := hr3; obtain ⟨R3, rfl⟩ := hr3.form)
      | (go_at_call 96; (with_reducible refine (CB.out _ hT3 _ hr3).mono ?_); rintro e w4 ⟨r4, rfl, hr4, hb4⟩))
    go_ret2
    exact ⟨_, rfl, hr4, hm3.below hb4, HTW.out _ (hT3.trans (Turns.of_below _ hb4))⟩
def CutP (ok okb : Nat -> Prop) (mb : Option Nat) (h : Nat) (k : Bw.Bytes) (f : Nat) : Prop := ∀ (level : Nat) (o : Option Bw.N) (l : List Bw.En) (c : Nat × Nat) (w : World) (v u mv : Value), CutIn ok okb mb f level o l h k c w v u mv ->
  Calls Tryz.prog 68 #[recvC h u mv, v, .int .i64 (level : Nat)] w (CutEnds ok w v mv mb (Bw.cutO f o h k level) (costAt c (Bw.cutCost f o h k level)))
def CutB (ok okb : Nat -> Prop) (mb : Option Nat) (h : Nat) (k : Bw.Bytes) (f : Nat) : Prop := ∀ (level m : Nat) (kids : List Bw.N) (l : List Bw.En) (c : Nat × Nat) (w : World) (v u mv : Value), CutIn ok okb mb f level (some (.branch m kids)) l h k c w v u mv ->
  Calls Tryz.prog 94 #[recvC h u mv, v, .int .i64 (level : Nat)] w (CutEnds ok w v mv mb (Bw.cutO f (some (.branch m kids)) h k level) (costAt c (Bw.cutCost f (some (.branch m kids)) h k level)))
theorem count32 {B : Nat} {l : List (Option Bw.N)} (hl : l.length <= 32) (hB : B <= 1048576) (h : ∀ o ∈ l, countO o <= B) : countOs l <= 4611686018427387904 := by
  have h1 := countOs_leI l h
  have h2 : l.length * B <= 32 * 1048576 := Nat.mul_le_mul hl hB
  omega
theorem cut_kid_count {ok okb : Nat -> Prop} {mb : Option Nat} {f level m : Nat} {kids : List Bw.N} {l : List Bw.En} {h : Nat} {k : Bw.Bytes} {c : Nat × Nat} {w : World} {v u mv : Value} (H : CutIn ok okb mb f level (some (.branch m kids)) l h k c w v u mv) (i : Nat) : countO (kidAt m kids i) <= 1048576 := by
  have hL : Bw.Lays level (.branch m kids) fun e => e ∈ l := H.lays
  have hk := Bw.olays_kid hL i
  show countO (Bw.kidO m kids i) <= _
  cases hki : Bw.kidO m kids i with
  | none => simp [countO]
  | some kk =>
    rw [hki] at hk
    have := Bw.lays_count hk _ (H.unlike.filter _) (fun _ => Iff.rfl)
    have h2 := List.length_filter_le (fun x : Bw.En => Bw.chunkAt x.1 level == i) l
    have hlen := H.len
    simp only [countO, Bw.partOf] at *
    omega
theorem cut_left_count {ok okb : Nat -> Prop} {mb : Option Nat} {f level m : Nat} {kids : List Bw.N} {l : List Bw.En} {h : Nat} {k : Bw.Bytes} {c : Nat × Nat} {w : World} {v u mv : Value} (H : CutIn ok okb mb (f + 1) level (some (.branch m kids)) l h k c w v u mv) {k' : Bw.N} (hc : Bw.cutO f (Bw.kidO m kids (Bw.chunkAt h level)) h k (level + 1) = some (some k')) : k'.count <= 1048576 := by
  have hL : Bw.Lays level (.branch m kids) fun e => e ∈ l := H.lays
  have hk := Bw.olays_kid hL (Bw.chunkAt h level)
  cases hki : Bw.kidO m kids (Bw.chunkAt h level) with
  | none => rw [hki, Bw.cutO_none] at hc; cases hc
  | some kk =>
    rw [hki] at hk hc
    have hx := (Bw.cut_lays f (level + 1) kk _ (by have := H.fuel; omega) hk ⟨_, fun e he => Bw.chunk_inj (H.pre e (Bw.mem_partOf.1 he).1) (Bw.mem_partOf.1 he).2⟩ (fun e he => H.hash e (Bw.mem_partOf.1 he).1) (fun e he => H.cons e (Bw.mem_partOf.1 he).1)).2 _ hc
    have hl2 : Bw.Lays (level + 1) k' (Bw.CutS (fun e => e ∈ Bw.partOf level (Bw.chunkAt h level) l) k) := hx.2
    have hu : Bw.Unlike ((Bw.partOf level (Bw.chunkAt h level) l).filter fun e => decide (e.2.1 ≠ k)) := (H.unlike.filter _).filter _
    have := Bw.lays_count hl2 _ hu (fun e => by
      rw [List.mem_filter, decide_eq_true_iff]
      exact Iff.rfl)
    have h2 := List.length_filter_le (fun e : Bw.En => decide (e.2.1 ≠ k)) (Bw.partOf level (Bw.chunkAt h level) l)
    have h3 := List.length_filter_le (fun x : Bw.En => Bw.chunkAt x.1 level == Bw.chunkAt h level) l
    have hlen := H.len
    simp only [Bw.partOf] at *
    omega
end Go.Proofs.YtadaoceidkagfaaGreatDoor
/- prune.branch, from, Delete. -/
namespace Go.Proofs.YtadaoceidkagfaaGreatDoor
open Go.RowKit Go.Bw
def cutNext (m : Nat) (kids : List Bw.N) (ch : Nat) : Option (Option Bw.N) -> Option (Option Bw.N)
  | none => none
  | some none => some (Bw.collapseO (Bw.branchO (Bw.lessBit m ch) ((Bw.bitsOf (Bw.lessBit m ch)).map (Bw.kidO m kids))))
  | some (some k') => some (Bw.collapseO (Bw.branchO (m ||| 2 ^ ch) (Bw.withKids m kids ch (some k'))))
theorem cutO_branch (f m : Nat) (kids : List Bw.N) (h : Nat) (k : Bw.Bytes) (level : Nat) : Bw.cutO (f + 1) (some (.branch m kids)) h k level = cutNext m kids (Bw.chunkAt h level) (Bw.cutO f (Bw.kidO m kids (Bw.chunkAt h level)) h k (level + 1)) := by
  simp only [Bw.cutO]
  cases Bw.cutO f (Bw.kidO m kids (Bw.chunkAt h level)) h k (level + 1) with
  | none => rfl
  | some o => cases o <;> rfl
set_option maxRecDepth 100000 in
set_option maxHeartbeats 2000000 in
theorem cutB_of_cut {ok okb : Nat -> Prop} {mb : Option Nat} {h : Nat} {k : Bw.Bytes} {f : Nat} (ih : CutP ok okb mb h k f) : CutB ok okb mb h k (f + 1) := by
  intro level m kids l c w v u mv H
  have hL : Bw.Lays level (.branch m kids) fun e => e ∈ l := H.lays
  have hfit := Bw.lays_branch_fit hL
  have hlev := Bw.lays_branch_level hL (by have := H.fuel; omega) ⟨_, H.pre⟩ H.hash
  have hnode : NodeAt nt ok w v (.branch m kids) := H.node
  have hcst : costAt c (Bw.cutCost (f + 1) (some (.branch m kids)) h k level) = (c.1 + ((Bw.cutCost f (Bw.kidO m kids (Bw.chunkAt h level)) h k (level + 1)).1 + 1), c.2 + (Bw.cutCost f (Bw.kidO m kids (Bw.chunkAt h level)) h k (level + 1)).2) := rfl
  obtain ⟨b, hv⟩ : ∃ b, v = .iface 122 (.pointer (some ⟨b, 0, none⟩)) := by
    have h0 := hnode
    simp only [NodeAt] at h0
    obtain ⟨b, _, _, _, rfl, _⟩ := h0
    exact ⟨b, rfl⟩
  subst hv
  obtain ⟨⟨U, cu, rfl⟩, _, ⟨AM, rfl⟩⟩ := H.forms
  dsimp only at *
  obtain ⟨wb, hwb⟩ : ∃ wb, w.alloc (.cells #[.int .u64 (h : Nat), .slice U k.length cu, .pointer AM] 145) = wb := ⟨_, rfl⟩
  have hB : Below w.heap.size w wb := by rw [<- hwb]; exact gB3
  have hsb : wb.heap.size = w.heap.size + 1 := by rw [<- hwb]; simp
  have x0 : wb.cell? ⟨w.heap.size, 0, none⟩ = some (.int .u64 (h : Nat)) := by rw [<- hwb]; exact cell_new w 0 _ _ 0 _ rfl
  have x1 : wb.cell? ⟨w.heap.size, 1, none⟩ = some (.slice U k.length cu) := by rw [<- hwb]; exact cell_new w 0 _ _ 1 _ rfl
  have x2 : wb.cell? ⟨w.heap.size, 2, none⟩ = some (.pointer AM) := by rw [<- hwb]; exact cell_new w 0 _ _ 2 _ rfl
  have hwm : some w.heap.size ≠ mb := H.hokm _ (H.hok _ (Nat.le_refl _))
  have hTW : ∀ W, Turns wb W mb -> Moves ok ok w W := fun W hW => (Moves.below hB).trans hB.size (hW.moves H.hokm)
  have hTB : ∀ W, Turns wb W mb -> Moves okb okb w W := fun W hW => (Moves.below hB).trans hB.size (hW.moves H.hokb)
  have hsW : ∀ W, Turns wb W mb -> ∀ k, W.heap.size <= k -> ok k := fun W hW k hk => H.hok k (Nat.le_trans (Nat.le_trans hB.size hW.size) hk)
  have hwW : ∀ W, Turns wb W mb -> Turns w W mb := fun W hW => (Turns.of_below mb hB).trans hW
  have SK : Hid (∀ W, Turns wb W mb -> W.cell? ⟨w.heap.size, 0, none⟩ = some (.int .u64 (h : Nat)) /\ W.cell? ⟨w.heap.size, 1, none⟩ = some (.slice U k.length cu) /\ W.cell? ⟨w.heap.size, 2, none⟩ = some (.pointer AM)) :=
    Lib.hid fun W hW => ⟨hW.cell x0 hwm, hW.cell x1 hwm, hW.cell x2 hwm⟩
  have CV := Lib.hid (visit_any (H.meter.below hB) (by have := H.c1; omega))
  have HTW := Lib.hid hwW
  have HWB := Lib.hid hwb
  have CA := Lib.hid (fun W => at_any h level hlev W)
  have hs : IntKind.i64.wrap ((level : Int) + 1) = (level : Int) + 1 := IntWalk.i64_in _ (by omega)
  have hw : wrap64 ((level : Int) + 1) = (level : Int) + 1 := by unfold wrap64; omega
  have CI0 := fun (W : World) (hW : Turns wb W mb) (kv : Value) (hk : ONodeAt nt ok W kv (Bw.kidO m kids (Bw.chunkAt h level))) (hm : MeterAt W (.pointer AM) (c.1 + 1, c.2) mb) => ih (level + 1) _ _ _ W _ _ _ (H.kid (hwW W hW) hm (by have := H.c1; simp only; omega) (by have := H.c2; simp only; omega) hk)
  rw [hcst]
  cases hka : kidAt m kids (Bw.chunkAt h level) with
  | none =>
    have CK := Lib.hid (fun (W : World) (hW : Turns wb W mb) => kid_not (NodeAt.move (hTW W hW) _ _ hnode) hfit.1 hfit.2 hka)
    have hka' : Bw.kidO m kids (Bw.chunkAt h level) = none := hka
    have hcut : Bw.cutO (f + 1) (some (.branch m kids)) h k level = none := by simp only [Bw.cutO]; rw [hka', Bw.cutO_none]
    have hcc : Bw.cutCost f none h k (level + 1) = (0, 0) := by cases f <;> rfl
    rw [hcut, hka', hcc]
    generalize Bw.chunkAt h level = ch at *
    clear H hB hwb hTW hTB hsW hwW hL hnode hsb x0 x1 x2 hka hka' hlev hfit CI0 hcst ih hcut hcc
    go_enter Tryz.func94, Tryz.ntmps94
    go_wp2_with fail
    rw [HWB.out]
    have hTb := Turns.refl wb mb
    obtain ⟨y0, y1, y2⟩ := SK.out wb hTb
    go_wp2_with (first
      | (go_at_call 81; (with_reducible refine CV.out.mono ?_); rintro e w1 ⟨rfl, hm1, hT1⟩; obtain ⟨z0, z1, z2⟩ := SK.out w1 hT1)
      | (go_at_call 104; (with_reducible refine (CA.out _).mono ?_); rintro e w' ⟨rfl, rfl⟩)
      | (go_at_call 36; (with_reducible refine (CK.out _ hT1).mono ?_); rintro e w2 ⟨q2, rfl, rfl⟩; have hT2 : Turns wb (w1.drewN q2) mb := hT1.trans (Turns.drewN _ _ _)))
    go_ret2
    exact ⟨_, rfl, rfl, (hm1.below (by exact gB3)).cast (Prod.ext rfl rfl), HTW.out _ hT2⟩
  | some kk =>
    have CK := Lib.hid (fun (W : World) (hW : Turns wb W mb) => kid_some (NodeAt.move (hTW W hW) _ _ hnode) hfit.1 hfit.2 hka)
    have hka' : Bw.kidO m kids (Bw.chunkAt h level) = some kk := hka
    have hleft := fun k' hc => cut_left_count H (k' := k') hc
    rw [hka'] at CI0 hleft
    rw [show ((level + 1 : Nat) : Int) = (level : Int) + 1 by omega] at CI0
    rw [hka']
    have hl32 : ∀ m' : Nat, (Bw.bitsOf m').length <= 32 := fun m' => by rw [Bw.length_bitsOf]; exact Bw.ones_le 32 _
    obtain ⟨r, hr⟩ : ∃ r, Bw.cutO f (some kk) h k (level + 1) = r := ⟨_, rfl⟩
    have hcut0 := cutO_branch f m kids h k level
    rw [hka', hr] at hcut0
    rw [hcut0]
    rw [hr] at CI0 hleft
    match r, hr with
    | none, hr =>
      show Calls _ _ _ _ (CutEnds ok w _ _ mb none _)
      have CI := Lib.hid CI0
      generalize hcc : Bw.cutCost f (some kk) h k (level + 1) = cc at *
      have HCST : Hid (costAt (c.1 + 1, c.2) cc = (c.1 + 1 + cc.1, c.2 + cc.2)) := Lib.hid rfl
      generalize Bw.chunkAt h level = ch at *
      clear H hB hwb hTW hTB hsW hwW hL hnode hsb x0 x1 x2 hka hka' hlev hfit CI0 hcst ih hcut0 hcc hleft hl32 hr
      go_enter Tryz.func94, Tryz.ntmps94
      go_wp2_with fail
      rw [HWB.out]
      have hTb := Turns.refl wb mb
      obtain ⟨y0, y1, y2⟩ := SK.out wb hTb
      go_wp2_with (first
        | (go_at_call 81; (with_reducible refine CV.out.mono ?_); rintro e w1 ⟨rfl, hm1, hT1⟩; obtain ⟨z0, z1, z2⟩ := SK.out w1 hT1)
        | (go_at_call 104; (with_reducible refine (CA.out _).mono ?_); rintro e w' ⟨rfl, rfl⟩)
        | (go_at_call 36; (with_reducible refine (CK.out _ hT1).mono ?_); rintro e w2 ⟨t2, b2, q2, rfl, hN2', rfl⟩; have hT2 : Turns wb (w1.drewN q2) mb := hT1.trans (Turns.drewN _ _ _); have hN2 : ONodeAt nt ok (w1.drewN q2) (.iface t2 (.pointer (some ⟨b2, 0, none⟩))) (some kk) := NodeAt.move (Moves.drewN w1 q2) _ _ hN2')
        | (go_at_call 68; (with_reducible refine (CI.out _ hT2 _ hN2 (hm1.below (by exact gB3))).mono ?_); rintro e w3 ⟨nv3, rfl, rfl, hm3, hT23⟩; have hT3 : Turns wb w3 mb := hT2.trans hT23))
      go_ret2
      exact ⟨_, rfl, rfl, hm3.cast (Prod.ext (by simp only [HCST.out]; omega) (by simp only [HCST.out])), HTW.out _ hT3⟩
    | some none, hr =>
      show Calls _ _ _ _ (CutEnds ok w _ _ mb (some (Bw.collapseO (Bw.branchO (Bw.lessBit m (Bw.chunkAt h level)) ((Bw.bitsOf (Bw.lessBit m (Bw.chunkAt h level))).map (Bw.kidO m kids))))) _)
      have CI := Lib.hid CI0
      have hcnt := count32 (B := 1048576) (l := (Bw.bitsOf (Bw.lessBit m (Bw.chunkAt h level))).map (kidAt m kids)) (by rw [List.length_map]; exact hl32 _) (Nat.le_refl _) (fun o ho => by
        obtain ⟨i, _, rfl⟩ := List.mem_map.1 ho
        exact cut_kid_count H i)
      have CW := Lib.hid (fun (W : World) (hW : Turns wb W mb) => without_any (NodeAt.move (hTW W hW) _ _ hnode) hfit.1 hfit.2 (Bw.chunkAt_lt h level) (H.tab.turns (hwW W hW) H.m0) (hsW W hW) hcnt)
      have heq := fun W => eql_nn W
      have hkk : (Bw.bitsOf (Bw.lessBit m (Bw.chunkAt h level))).map (kidAt m kids) = (Bw.bitsOf (Bw.lessBit m (Bw.chunkAt h level))).map (Bw.kidO m kids) := rfl
      rw [hkk] at CW
      generalize Bw.collapseO (Bw.branchO (Bw.lessBit m (Bw.chunkAt h level)) ((Bw.bitsOf (Bw.lessBit m (Bw.chunkAt h level))).map (Bw.kidO m kids))) = res at *
      generalize hcc : Bw.cutCost f (some kk) h k (level + 1) = cc at *
      have HCST : Hid (costAt (c.1 + 1, c.2) cc = (c.1 + 1 + cc.1, c.2 + cc.2)) := Lib.hid rfl
      generalize Bw.chunkAt h level = ch at *
      clear H hB hwb hTW hTB hsW hwW hL hnode hsb x0 x1 x2 hka hka' hlev hfit CI0 hcst ih hcut0 hcc hleft hl32 hr hcnt hkk
      go_enter Tryz.func94, Tryz.ntmps94
      go_wp2_with fail
      rw [HWB.out]
      have hTb := Turns.refl wb mb
      obtain ⟨y0, y1, y2⟩ := SK.out wb hTb
      go_wp2_with (first
        | (go_at_call 81; (with_reducible refine CV.out.mono ?_); rintro e w1 ⟨rfl, hm1, hT1⟩; obtain ⟨z0, z1, z2⟩ := SK.out w1 hT1)
        | (go_at_call 104; (with_reducible refine (CA.out _).mono ?_); rintro e w' ⟨rfl, rfl⟩)
        | (go_at_call 36; (with_reducible refine (CK.out _ hT1).mono ?_); rintro e w2 ⟨t2, b2, q2, rfl, hN2', rfl⟩; have hT2 : Turns wb (w1.drewN q2) mb := hT1.trans (Turns.drewN _ _ _); have hN2 : ONodeAt nt ok (w1.drewN q2) (.iface t2 (.pointer (some ⟨b2, 0, none⟩))) (some kk) := NodeAt.move (Moves.drewN w1 q2) _ _ hN2')
        | (go_at_call 68; (with_reducible refine (CI.out _ hT2 _ hN2 (hm1.below (by exact gB3))).mono ?_); rintro e w3 ⟨nv3, rfl, hq3, hm3, hT23⟩; have hT3 : Turns wb w3 mb := hT2.trans hT23; have hq3 : nv3 = .nilIface := hq3; subst hq3)
        | (go_at_call 119; (with_reducible refine (CW.out _ hT3).mono ?_); rintro e w4 ⟨r4, rfl, hr4, hb4⟩))
      go_ret2
      exact ⟨_, rfl, hr4, (hm3.below hb4).cast (Prod.ext (by simp only [HCST.out]; omega) (by simp only [HCST.out])), HTW.out _ (hT3.trans (Turns.of_below _ hb4))⟩
    | some (some k'), hr =>
      show Calls _ _ _ _ (CutEnds ok w _ _ mb (some (Bw.collapseO (Bw.branchO (m ||| 2 ^ Bw.chunkAt h level) (Bw.withKids m kids (Bw.chunkAt h level) (some k'))))) _)
      have CI := Lib.hid CI0
      have hcnt := count32 (B := 1048576) (l := Bw.withKids m kids (Bw.chunkAt h level) (some k')) (by unfold Bw.withKids; rw [List.length_map]; exact hl32 _) (Nat.le_refl _) (fun o ho => by
        unfold Bw.withKids at ho
        obtain ⟨i, _, rfl⟩ := List.mem_map.1 ho
        split
        · exact hleft k' rfl
        · exact cut_kid_count H i)
      have CW := Lib.hid (fun (W : World) (hW : Turns wb W mb) (x : Value) (hx : NodeAt nt ok W x k') => gwith_any (NodeAt.move (hTW W hW) _ _ hnode) hfit.1 hfit.2 (Bw.chunkAt_lt h level) hx (H.tab.turns (hwW W hW) H.m0) (hsW W hW) hcnt)
      have CL := Lib.hid (fun (W : World) (hW : Turns wb W mb) (x : Value) (hx : ONodeAt nt ok W x (Bw.branchO (m ||| 2 ^ Bw.chunkAt h level) (Bw.withKids m kids (Bw.chunkAt h level) (some k')))) => collapse_any hx (Bw.or_lt hfit.1 (Bw.chunkAt_lt h level)) (H.tab.turns (hwW W hW) H.m0))
      generalize Bw.collapseO (Bw.branchO (m ||| 2 ^ Bw.chunkAt h level) (Bw.withKids m kids (Bw.chunkAt h level) (some k'))) = res at *
      generalize Bw.branchO (m ||| 2 ^ Bw.chunkAt h level) (Bw.withKids m kids (Bw.chunkAt h level) (some k')) = mid at *
      generalize hcc : Bw.cutCost f (some kk) h k (level + 1) = cc at *
      have HCST : Hid (costAt (c.1 + 1, c.2) cc = (c.1 + 1 + cc.1, c.2 + cc.2)) := Lib.hid rfl
      generalize Bw.chunkAt h level = ch at *
      clear H hB hwb hTW hTB hsW hwW hL hnode hsb x0 x1 x2 hka hka' hlev hfit CI0 hcst ih hcut0 hcc hleft hl32 hr hcnt
      go_enter Tryz.func94, Tryz.ntmps94
      go_wp2_with fail
      rw [HWB.out]
      have hTb := Turns.refl wb mb
      obtain ⟨y0, y1, y2⟩ := SK.out wb hTb
      go_wp2_with (first
        | (go_at_call 81; (with_reducible refine CV.out.mono ?_); rintro e w1 ⟨rfl, hm1, hT1⟩; obtain ⟨z0, z1, z2⟩ := SK.out w1 hT1)
        | (go_at_call 104; (with_reducible refine (CA.out _).mono ?_); rintro e w' ⟨rfl, rfl⟩)
        | (go_at_call 36; (with_reducible refine (CK.out _ hT1).mono ?_); rintro e w2 ⟨t2, b2, q2, rfl, hN2', rfl⟩; have hT2 : Turns wb (w1.drewN q2) mb := hT1.trans (Turns.drewN _ _ _); have hN2 : ONodeAt nt ok (w1.drewN q2) (.iface t2 (.pointer (some ⟨b2, 0, none⟩))) (some kk) := NodeAt.move (Moves.drewN w1 q2) _ _ hN2')
        | (go_at_call 68; (with_reducible refine (CI.out _ hT2 _ hN2 (hm1.below (by exact gB3))).mono ?_); rintro e w3 ⟨nv3, rfl, hq3, hm3, hT23⟩; have hT3 : Turns wb w3 mb := hT2.trans hT23; have hq3 : NodeAt nt ok w3 nv3 k' := hq3; obtain ⟨t3, b3, rfl⟩ := hq3.form)
        | (go_at_call 121; (with_reducible refine (CW.out _ hT3 _ hq3).mono ?_); rintro e w4 ⟨r4, rfl, hr4, hb4⟩; have hT4 : Turns wb w4 mb := hT3.trans (Turns.of_below _ hb4))
        | (go_at_call 120; (with_reducible refine (CL.out _ hT4 _ hr4).mono ?_); rintro e w5 ⟨r5, rfl, hr5, hb5⟩))
      go_ret2
      exact ⟨_, rfl, hr5, ((hm3.below hb4).below hb5).cast (Prod.ext (by simp only [HCST.out]; omega) (by simp only [HCST.out])), HTW.out _ (hT4.trans (Turns.of_below _ hb5))⟩
set_option maxRecDepth 100000 in
set_option maxHeartbeats 1600000 in
theorem cut_branch {ok okb : Nat -> Prop} {mb : Option Nat} {h : Nat} {k : Bw.Bytes} {f level m : Nat} {kids : List Bw.N} {l : List Bw.En} {c : Nat × Nat} {w : World} {v u mv : Value} (ih : CutB ok okb mb h k f) (H : CutIn ok okb mb f level (some (.branch m kids)) l h k c w v u mv) :
    Calls Tryz.prog 68 #[recvC h u mv, v, .int .i64 (level : Nat)] w (CutEnds ok w v mv mb (Bw.cutO f (some (.branch m kids)) h k level) (costAt c (Bw.cutCost f (some (.branch m kids)) h k level))) := by
  have hnode : NodeAt nt ok w v (.branch m kids) := H.node
  obtain ⟨b, hv⟩ : ∃ b, v = .iface 122 (.pointer (some ⟨b, 0, none⟩)) := by
    have h0 := hnode
    simp only [NodeAt] at h0
    obtain ⟨b, _, _, _, rfl, _⟩ := h0
    exact ⟨b, rfl⟩
  subst hv
  obtain ⟨⟨U, cu, rfl⟩, _, ⟨AM, rfl⟩⟩ := H.forms
  dsimp only at *
  obtain ⟨wb, hwb⟩ : ∃ wb, w.alloc (.cells #[.int .u64 (h : Nat), .slice U k.length cu, .pointer AM] 145) = wb := ⟨_, rfl⟩
  have hB : Below w.heap.size w wb := by rw [<- hwb]; exact gB3
  have hsb : wb.heap.size = w.heap.size + 1 := by rw [<- hwb]; simp
  have x0 : wb.cell? ⟨w.heap.size, 0, none⟩ = some (.int .u64 (h : Nat)) := by rw [<- hwb]; exact cell_new w 0 _ _ 0 _ rfl
  have x1 : wb.cell? ⟨w.heap.size, 1, none⟩ = some (.slice U k.length cu) := by rw [<- hwb]; exact cell_new w 0 _ _ 1 _ rfl
  have x2 : wb.cell? ⟨w.heap.size, 2, none⟩ = some (.pointer AM) := by rw [<- hwb]; exact cell_new w 0 _ _ 2 _ rfl
  have hwm : some w.heap.size ≠ mb := H.hokm _ (H.hok _ (Nat.le_refl _))
  have hTW : ∀ W, Turns wb W mb -> Moves ok ok w W := fun W hW => (Moves.below hB).trans hB.size (hW.moves H.hokm)
  have hTB : ∀ W, Turns wb W mb -> Moves okb okb w W := fun W hW => (Moves.below hB).trans hB.size (hW.moves H.hokb)
  have hsW : ∀ W, Turns wb W mb -> ∀ k, W.heap.size <= k -> ok k := fun W hW k hk => H.hok k (Nat.le_trans (Nat.le_trans hB.size hW.size) hk)
  have hwW : ∀ W, Turns wb W mb -> Turns w W mb := fun W hW => (Turns.of_below mb hB).trans hW
  have SK : Hid (∀ W, Turns wb W mb -> W.cell? ⟨w.heap.size, 0, none⟩ = some (.int .u64 (h : Nat)) /\ W.cell? ⟨w.heap.size, 1, none⟩ = some (.slice U k.length cu) /\ W.cell? ⟨w.heap.size, 2, none⟩ = some (.pointer AM)) :=
    Lib.hid fun W hW => ⟨hW.cell x0 hwm, hW.cell x1 hwm, hW.cell x2 hwm⟩
  have CV := Lib.hid (visit_any (H.meter.below hB) (by have := H.c1; omega))
  have HTW := Lib.hid hwW
  have HWB := Lib.hid hwb
  have CI := Lib.hid (ih level m kids l c wb _ _ _ (H.turn (Turns.of_below mb hB) (H.meter.below hB) H.c1 H.c2))
  have hm := kindm_branch
  have HBT := Lib.hid (Turns.of_below mb hB)
  generalize Bw.cutCost f (some (.branch m kids)) h k level = cc at *
  generalize Bw.cutO f (some (.branch m kids)) h k level = res at *
  clear H hB hwb hTW hTB hsW hwW hnode hsb x0 x1 x2 CV ih
  go_enter Tryz.func68, Tryz.ntmps68
  go_wp2_with fail
  rw [HWB.out]
  have hTb := Turns.refl wb mb
  obtain ⟨y0, y1, y2⟩ := SK.out wb hTb
  go_wp2_with (first
    | (go_at_call 179; (with_reducible refine (kind_branch _ _).mono ?_); rintro e w' ⟨rfl, rfl⟩)
    | (go_at_call 94; (with_reducible refine CI.out.mono ?_); rintro e w3 ⟨nv3, rfl, hn3, hm3, hT3⟩; have HN3 := Lib.hid hn3; clear hn3))
  go_ret2
  exact ⟨_, rfl, HN3.out, hm3, HBT.out.trans hT3⟩
theorem cut_of_cutB {ok okb : Nat -> Prop} {mb : Option Nat} {h : Nat} {k : Bw.Bytes} {f : Nat} (ih : CutB ok okb mb h k f) : CutP ok okb mb h k f := by
  intro level o l c w v u mv H
  cases o with
  | none =>
    rw [Bw.cutO_none, show Bw.cutCost f none h k level = (0, 0) by cases f <;> rfl]
    exact cut_none H
  | some n =>
    cases n with
    | leaf g q =>
      rw [Bw.cutO_leaf, show Bw.cutCost f (some (.leaf g q)) h k level = (1, if g = h then 1 else 0) by cases f <;> rfl]
      by_cases hg : g = h
      · subst hg
        have := cut_leaf_same H
        by_cases hk : k = q.1
        · rw [if_pos ⟨rfl, hk⟩, if_pos rfl]
          rw [if_pos hk] at this
          exact this
        · rw [if_neg (fun x => hk x.2), if_pos rfl]
          rw [if_neg hk] at this
          exact this
      · rw [if_neg (fun x => hg x.1), if_neg hg]
        exact cut_leaf_other H hg
    | bucket g t =>
      rw [Bw.cutO_bucket, show Bw.cutCost f (some (.bucket g t)) h k level = if g = h then Bw.T.delCost k t else (0, 0) by cases f <;> rfl]
      by_cases hg : g = h
      · subst hg
        rw [if_pos rfl, if_pos rfl]
        exact cut_bucket_same H
      · rw [if_neg hg, if_neg hg]
        exact cut_bucket_other H hg
    | branch m kids => exact cut_branch ih H
theorem cutB_zero {ok okb : Nat -> Prop} {mb : Option Nat} {h : Nat} {k : Bw.Bytes} : CutB ok okb mb h k 0 := by
  intro level m kids l c w v u mv H
  have hlev := Bw.lays_branch_level H.lays (by have := H.fuel; omega) ⟨_, H.pre⟩ H.hash
  have := H.fuel
  omega
theorem cut_all {ok okb : Nat -> Prop} {mb : Option Nat} {h : Nat} {k : Bw.Bytes} : ∀ f, CutP ok okb mb h k f /\ CutB ok okb mb h k f := by
  intro f
  induction f with
  | zero => exact ⟨cut_of_cutB cutB_zero, cutB_zero⟩
  | succ f ih => exact ⟨cut_of_cutB (cutB_of_cut ih.1), cutB_of_cut ih.1⟩
set_option maxRecDepth 100000 in
set_option maxHeartbeats 1600000 in
theorem pdelete_any {ok okb : Nat -> Prop} {mb : Option Nat} {o : Option Bw.N} {l : List Bw.En} {h : Nat} {k : Bw.Bytes} {c : Nat × Nat} {w : World} {v u mv : Value} (H : CutIn ok okb mb 13 0 o l h k c w v u mv) :
    Calls Tryz.prog 39 #[v, .int .u64 (h : Nat), u, mv] w (CutEnds ok w v mv mb (Bw.cutO 13 o h k 0) (costAt c (Bw.cutCost 13 o h k 0))) := by
  obtain ⟨⟨U, cu, rfl⟩, _, ⟨AM, rfl⟩⟩ := H.forms
  have CI := Lib.hid (show Calls Tryz.prog 68 #[recvC h (.slice U k.length cu) (.pointer AM), v, .int .i64 0] w _ from (cut_all (ok := ok) (okb := okb) (mb := mb) (h := h) (k := k) 13).1 0 o l c w v _ _ H)
  clear H
  generalize costAt c (Bw.cutCost 13 o h k 0) = cc at *
  generalize Bw.cutO 13 o h k 0 = res at *
  go_enter Tryz.func39, Tryz.ntmps39
  go_wp2_with fail
  refine CI.out.mono ?_
  rintro e w3 ⟨nv3, rfl, hn3, hm3, hT3⟩
  have HN := Lib.hid hn3
  clear hn3
  go_wp2
  go_ret2
  exact ⟨_, rfl, HN.out, hm3, hT3⟩
end Go.Proofs.YtadaoceidkagfaaGreatDoor
