
import Derived.RangeFuncFrom
import Derived.RangeFuncBox
import Derived.Maps.AppendAt
import Derived.Deep.RegionHeld
import Derived.Test.YtadaoceidkagfaaGreatDoorRangeA
import Derived.Test.YtadaoceidkagfaaGreatDoorNodeC
import Derived.Test.YtadaoceidkagfaaGreatDoorBwG
import Derived.Test.YtadaoceidkagfaaGreatDoorMeter
import Derived.Outline
namespace Go.Proofs.YtadaoceidkagfaaGreatDoor
open Go.RowKit Go.Bw Go.Shelf
attribute [local go_sem] Oper.semAt_some
theorem or_u32 (a b : Nat) (ha : a < 4294967296) (hb : b < 4294967296) : bits .or .u32 (a : Int) (b : Int) = ((a ||| b : Nat) : Int) :=
  (bits_nat .u32 32 (by decide) (fun n h0 h1 => by rw [IntKind.wrap_u32]; omega) a b ha hb).2
set_option maxRecDepth 100000 in
set_option maxHeartbeats 400000 in
theorem bwith_any (m i : Nat) (w : World) (hm : m < 4294967296) (h : i < 32) : Calls Tryz.prog 147 #[.int .u32 (m : Nat), .int .i64 (i : Nat)] w fun e w' => e = .returned (.int .u32 ((m ||| 2 ^ i : Nat) : Int)) /\ w = w' := by
  have hb := or_u32 m (2 ^ i) hm (Bw.pow_lt32 h)
  have C := Lib.hid (fun w => bit_in i w h)
  rw [<- hb]
  clear hb h hm
  generalize ((2 ^ i : Nat) : Int) = y at *
  go_enter Tryz.func147, Tryz.ntmps147
  go_wp2_with (go_at_call 90; refine (C.out _).mono ?_; rintro e w' ⟨rfl, rfl⟩)
  go_ret
  exact ⟨rfl, rfl⟩
def kidAt (m : Nat) (kids : List Bw.N) (c : Nat) : Option Bw.N := if m.testBit c then kids[Bw.ones c m]? else none
theorem bit_lt {m c : Nat} (hm : m < 4294967296) (h : m.testBit c = true) : c < 32 := by
  rcases Nat.lt_or_ge c 32 with hc | hc
  · exact hc
  · have := Nat.pow_le_pow_right (n := 2) (by decide) hc
    rw [Nat.testBit_lt_two_pow (by omega)] at h; cases h
theorem kid_some {ok : Nat -> Prop} {w : World} {nv : Value} {m : Nat} {kids : List Bw.N} {c : Nat} {k : Bw.N} (hn : NodeAt nt ok w nv (.branch m kids)) (hm : m < 4294967296) (hkl : kids.length = (Bw.bitsOf m).length) (hk : kidAt m kids c = some k) :
    Calls Tryz.prog 36 #[nv, .int .i64 (c : Nat)] w fun e w' => ∃ t b n, e = .returned (.tuple #[.iface t (.pointer (some ⟨b, 0, none⟩)), .bool true]) /\ NodeAt nt ok w (.iface t (.pointer (some ⟨b, 0, none⟩))) k /\ w' = w.drewN n := by
  refine (kid_any (c : Int) (n := some (.branch m kids)) hn (fun m' k' e => by cases e; exact ⟨hm, hkl⟩)).mono ?_
  rintro e w' ⟨⟨r, rfl, h⟩, n, rfl⟩
  simp only [KidTold, Int.toNat_natCast] at h
  unfold kidAt at hk
  by_cases ht : m.testBit c = true
  · rw [if_pos ht] at hk
    have hc := bit_lt hm ht
    rw [if_pos ⟨by omega, by omega, ht⟩] at h
    obtain ⟨u, k', rfl, hk', hn'⟩ := h
    rw [hk'] at hk
    cases hk
    obtain ⟨t, b, rfl⟩ := hn'.form
    exact ⟨t, b, n, rfl, hn', rfl⟩
  · rw [if_neg ht] at hk; cases hk
theorem kid_not {ok : Nat -> Prop} {w : World} {nv : Value} {m : Nat} {kids : List Bw.N} {c : Nat} (hn : NodeAt nt ok w nv (.branch m kids)) (hm : m < 4294967296) (hkl : kids.length = (Bw.bitsOf m).length) (hk : kidAt m kids c = none) :
    Calls Tryz.prog 36 #[nv, .int .i64 (c : Nat)] w fun e w' => ∃ n, e = .returned (.tuple #[.nilIface, .bool false]) /\ w' = w.drewN n := by
  refine (kid_any (c : Int) (n := some (.branch m kids)) hn (fun m' k' e => by cases e; exact ⟨hm, hkl⟩)).mono ?_
  rintro e w' ⟨⟨r, rfl, h⟩, n, rfl⟩
  simp only [KidTold, Int.toNat_natCast] at h
  unfold kidAt at hk
  by_cases ht : m.testBit c = true
  · rw [if_pos ht] at hk
    have hc := bit_lt hm ht
    rw [if_pos ⟨by omega, by omega, ht⟩] at h
    obtain ⟨u, k', rfl, hk', _⟩ := h
    rw [hk'] at hk
    cases hk
  · rw [if_neg (fun x => ht x.2.2)] at h
    exact ⟨n, by rw [h], rfl⟩
def WithI (ok0 : Nat -> Prop) (w : World) (f : Nat -> Option Bw.N) (nv : Value) (c : Nat) (kv : Value) (pre : List Nat) (W : World) : Prop :=
  (∃ v inner, Boxed W (w.heap.size + 3) 124 v /\ W.ownsRow (w.heap.size + 5) 28 1 v pre.length inner /\ Reps (nodeK nt ok0 W) 1 (pre.map f) inner) /\
    Boxed W w.heap.size 28 nv /\ Boxed W (w.heap.size + 1) 3 (.int .i64 (c : Nat)) /\ Boxed W (w.heap.size + 2) 28 kv
theorem boxed_not {W : World} {B : Nat} {t : TypeId} {v : Value} {row : Option Nat} (h : Boxed W B t v) (hr : ∀ r, row = some r -> ∃ o : Obj, W.heap[r]? = some o /\ o.isCells = false) : some B ≠ row := by
  intro e
  obtain ⟨o, ho, hc⟩ := hr B e.symm
  rw [show W.heap[B]? = _ from h] at ho
  cases ho; cases hc
theorem WithI.kept {ok : Nat -> Prop} {w : World} {f : Nat -> Option Bw.N} {nv kv : Value} {c : Nat} {pre : List Nat} {W W' : World} {row : Option Nat} (h : WithI (fun k => ok k /\ k < w.heap.size) w f nv c kv pre W) (hg : W.grownBy W' row)
    (hr : ∀ r, row = some r -> w.heap.size <= r /\ ∃ o : Obj, W.heap[r]? = some o /\ o.isCells = false) : WithI (fun k => ok k /\ k < w.heap.size) w f nv c kv pre W' := by
  obtain ⟨⟨v, inner, hv, hrow, hreps⟩, c1, c2, c3⟩ := h
  have hr2 := fun r e => (hr r e).2
  refine ⟨⟨v, inner, hv.kept hg (boxed_not hv hr2), hrow.kept hg ?_, hreps.move (goodNode nt) (Moves.grown hg fun k hk e => ?_)⟩, c1.kept hg (boxed_not c1 hr2), c2.kept hg (boxed_not c2 hr2), c3.kept hg (boxed_not c3 hr2)⟩
  · rcases hrow.2 with ⟨rfl, _⟩ | ⟨g, cap, cur, rfl, _, hgb, _⟩
    · exact .inl rfl
    · refine .inr fun e' => ?_
      obtain ⟨o, ho, hc⟩ := hr2 g (by simpa [Value.ownBlock] using e'.symm)
      rw [hgb] at ho; cases ho; cases hc
  · have := (hr k e.symm).1
    omega
theorem ownsRow_low {W : World} {base n : Nat} {e : TypeId} {size : Nat} {v : Value} {k : Nat} {xs : List Value} (h : W.ownsRow base e size v k xs) (hn : n <= base) : W.ownsRow n e size v k xs := by
  obtain ⟨h1, h2⟩ := h
  refine ⟨h1, ?_⟩
  rcases h2 with h2 | ⟨g, cap, cur, hv, hg, r⟩
  · exact .inl h2
  · exact .inr ⟨g, cap, cur, hv, Nat.le_trans hn hg, r⟩
theorem WithI.step {ok : Nat -> Prop} {w W w1 : World} {f : Nat -> Option Bw.N} {nv kv v v' x : Value} {c y : Nat} {pre : List Nat} {inner : List Value} {tmp : Obj} (hv : Boxed W (w.heap.size + 3) 124 v) (hrow : W.ownsRow (w.heap.size + 5) 28 1 v pre.length inner)
    (hreps : Reps (nodeK nt (fun k => ok k /\ k < w.heap.size) W) 1 (pre.map f) inner) (c1 : Boxed W w.heap.size 28 nv) (c2 : Boxed W (w.heap.size + 1) 3 (.int .i64 (c : Nat))) (c3 : Boxed W (w.heap.size + 2) 28 kv) (hB : Below w.heap.size w W)
    (hx : ONodeAt nt (fun k => ok k /\ k < w.heap.size) W x (f y)) (hown' : w1.ownsRow (w.heap.size + 5) 28 1 v' (pre.length + 1) (inner ++ [x])) (hgrow : (W.alloc tmp).grownBy w1 v.ownBlock) :
    Boxed w1 (w.heap.size + 3) 124 v /\ KeepsOthers W (w1.setCell ⟨w.heap.size + 3, 0, none⟩ v') /\ Below w.heap.size W (w1.setCell ⟨w.heap.size + 3, 0, none⟩ v') /\ WithI (fun k => ok k /\ k < w.heap.size) w f nv c kv (pre ++ [y]) (w1.setCell ⟨w.heap.size + 3, 0, none⟩ v') /\ Below w.heap.size w (w1.setCell ⟨w.heap.size + 3, 0, none⟩ v') := by
  obtain ⟨hv1, hv2, _, hk2, hb2⟩ := hv.appended (by decide) (ownsRow_low hrow (n := w.heap.size) (by omega)) hB.size (by omega) (ownsRow_low hown' (by omega)) hgrow
  have hlt := hrow.lt
  have hne : ∀ B, B < w.heap.size + 5 -> some B ≠ v.ownBlock := fun B hBl e => by have := (hlt B e.symm).1; omega
  have keep : ∀ (B : Nat) (t : TypeId) (u : Value), B < w.heap.size + 3 -> Boxed W B t u -> Boxed (w1.setCell ⟨w.heap.size + 3, 0, none⟩ v') B t u := fun B t u hBl h =>
    ((h.alloc tmp).kept hgrow (hne B (by omega))).kept (grownBy_setCell' w1 (w.heap.size + 3) v') (fun e => by cases e; omega)
  refine ⟨hv1, hk2, hb2, ⟨⟨v', inner ++ [x], hv2, ?_, ?_⟩, keep _ _ _ (by omega) c1, keep _ _ _ (by omega) c2, keep _ _ _ (by omega) c3⟩, hB.trans hb2⟩
  · rw [List.length_append]
    exact hown'.kept (grownBy_setCell' w1 _ v') (.inr (hv1.not_row (by decide) hown').symm)
  · have hmv : Moves (fun k => ok k /\ k < w.heap.size) (fun k => ok k /\ k < w.heap.size) W (w1.setCell ⟨w.heap.size + 3, 0, none⟩ v') := fun k hk _ => ⟨hk, hb2.block k hk.2⟩
    rw [List.map_append]
    exact (hreps.move (goodNode nt) hmv).append (Reps.one ⟨x, rfl, hx.move hmv⟩ rfl)
set_option maxRecDepth 100000 in
set_option maxHeartbeats 2000000 in
theorem gwith_any {ok : Nat -> Prop} {m c : Nat} {kids : List Bw.N} {k : Bw.N} {nv kv : Value} {w : World} (hn : NodeAt nt ok w nv (.branch m kids)) (hm : m < 4294967296) (hkl : kids.length = (Bw.bitsOf m).length) (hc : c < 32) (hk : NodeAt nt ok w kv k) (hT : Tab w) (hok : ∀ k, w.heap.size <= k -> ok k)
    (hcnt : countOs (Bw.withKids m kids c (some k)) <= 4611686018427387904) :
    Calls Tryz.prog 121 #[nv, .int .i64 (c : Nat), kv] w (Gives w fun r w' => ONodeAt nt ok w' r (Bw.branchO (m ||| 2 ^ c) (Bw.withKids m kids c (some k)))) := by
  refine (callsIn_wide (n := 3)).1 ?_
  have hpos := hT.pos
  have CM := Lib.hid (fun W (hW : Below w.heap.size w W) => map_any (ok := ok) (v := nv) (n := some (.branch m kids)) (w := W) (NodeAt.move (Moves.below hW) _ _ hn))
  have CW := Lib.hid (fun W => bwith_any m c W hm hc)
  have hmo := Bw.or_lt hm hc
  have HN0 := Lib.hid hn
  simp only [NodeAt] at hn
  obtain ⟨b, g, o, cap, rfl, hh⟩ := hn
  obtain ⟨tk, bk, rfl⟩ := NodeAt.form hk
  simp only [mapO] at CM
  refine callsIn_of_wp_marks Tryz.func121 rfl trivial ?_ rfl
  simp only [Tryz.ntmps121, List.size_toArray, List.length_cons, List.length_nil, Nat.reduceAdd, Nat.reduceSub, Array.replicate_succ, Array.replicate_zero, List.push_toArray, List.append_toArray, List.nil_append, List.cons_append]
  gi_wp2_with (refine ⟨trivial, ?_⟩; first
    | (gi_at_call 32; refine (callsIn_wide.2 (CM.out _ (by exact gB3))).mono ?_; rintro e w' ⟨rfl, rfl⟩)
    | (gi_at_call 147; refine (callsIn_wide.2 (CW.out _)).mono ?_; rintro e w' ⟨rfl, rfl⟩)
    | (gi_at_call 103; refine (all_in _ _ _).mono ?_; rintro e w' ⟨rfl, rfl⟩))
  obtain ⟨W0, hW0⟩ : ∃ W0, (((((w.alloc (.cells #[.iface 122 (.pointer (some ⟨b, 0, none⟩))] 28)).alloc (.cells #[.int .i64 (c : Nat)] 3)).alloc (.cells #[.iface tk (.pointer (some ⟨bk, 0, none⟩))] 28)).alloc (.cells #[.slice none 0 0] 124)).alloc (.cells #[.int .u32 ((m ||| 2 ^ c : Nat) : Int)] 85)) = W0 := ⟨_, rfl⟩
  rw [hW0]
  have hs0 : W0.heap.size = w.heap.size + 5 := by rw [<- hW0]; simp
  have hB0 : Below w.heap.size w W0 := by rw [<- hW0]; exact gB3
  have b1 : Boxed W0 w.heap.size 28 (.iface 122 (.pointer (some ⟨b, 0, none⟩))) := by rw [<- hW0]; exact ((((Boxed.new w 28 _).alloc _).alloc _).alloc _).alloc _
  have b2 : Boxed W0 (w.heap.size + 1) 3 (.int .i64 (c : Nat)) := by rw [<- hW0]; have := ((((Boxed.new (w.alloc (.cells #[.iface 122 (.pointer (some ⟨b, 0, none⟩))] 28)) 3 (.int .i64 (c : Nat))).alloc (.cells #[.iface tk (.pointer (some ⟨bk, 0, none⟩))] 28)).alloc (.cells #[.slice none 0 0] 124)).alloc (.cells #[.int .u32 ((m ||| 2 ^ c : Nat) : Int)] 85)); simpa using this
  have b3 : Boxed W0 (w.heap.size + 2) 28 (.iface tk (.pointer (some ⟨bk, 0, none⟩))) := by rw [<- hW0]; have := (((Boxed.new ((w.alloc (.cells #[.iface 122 (.pointer (some ⟨b, 0, none⟩))] 28)).alloc (.cells #[.int .i64 (c : Nat)] 3)) 28 (.iface tk (.pointer (some ⟨bk, 0, none⟩)))).alloc (.cells #[.slice none 0 0] 124)).alloc (.cells #[.int .u32 ((m ||| 2 ^ c : Nat) : Int)] 85)); simpa using this
  have b4 : Boxed W0 (w.heap.size + 3) 124 (.slice none 0 0) := by rw [<- hW0]; have := ((Boxed.new (((w.alloc (.cells #[.iface 122 (.pointer (some ⟨b, 0, none⟩))] 28)).alloc (.cells #[.int .i64 (c : Nat)] 3)).alloc (.cells #[.iface tk (.pointer (some ⟨bk, 0, none⟩))] 28)) 124 (.slice none 0 0)).alloc (.cells #[.int .u32 ((m ||| 2 ^ c : Nat) : Int)] 85)); simpa using this
  have b5 : Boxed W0 (w.heap.size + 1 + 1 + 1 + 1) 85 (.int .u32 ((m ||| 2 ^ c : Nat) : Int)) := by rw [<- hW0]; have := (Boxed.new ((((w.alloc (.cells #[.iface 122 (.pointer (some ⟨b, 0, none⟩))] 28)).alloc (.cells #[.int .i64 (c : Nat)] 3)).alloc (.cells #[.iface tk (.pointer (some ⟨bk, 0, none⟩))] 28)).alloc (.cells #[.slice none 0 0] 124)) 85 (.int .u32 ((m ||| 2 ^ c : Nat) : Int))); simpa using this
  have HN : Hid (NodeAt nt (fun k => ok k /\ k < w.heap.size) w (.iface 122 (.pointer (some ⟨b, 0, none⟩))) (.branch m kids)) := Lib.hid (NodeAt.move (Moves.weaken fun k hk hl => ⟨hk, hl⟩) _ _ HN0.out)
  have HK : Hid (NodeAt nt (fun k => ok k /\ k < w.heap.size) w (.iface tk (.pointer (some ⟨bk, 0, none⟩))) k) := Lib.hid (NodeAt.move (Moves.weaken fun k hk hl => ⟨hk, hl⟩) _ _ hk)
  obtain ⟨f, hf⟩ : ∃ f : Nat -> Option Bw.N, f = fun i => if i = c then some k else kidAt m kids i := ⟨_, rfl⟩
  have HF := Lib.hid hf
  have hfin : Bw.withKids m kids c (some k) = (Bw.bitsOf (m ||| 2 ^ c)).map f := by rw [hf]; rfl
  have HFIN := Lib.hid hfin
  have HOK := Lib.hid hok
  have HCNT := Lib.hid hcnt
  obtain ⟨i0, hi, hz0, hz1, hz2⟩ := info_parts infoN
  have HI := Lib.hid hi; have HZ0 := Lib.hid hz0; have HZ1 := Lib.hid hz1; have HZ2 := Lib.hid hz2
  clear hW0 hk hf hfin hok hcnt CM CW hi hz0 hz1 hz2 hh HN0
  refine wpIn_rangeFunc_ownF (w := W0) rfl (by omega) (gf := 131) (lb := #[.pointer (some ⟨w.heap.size + 1 + 1 + 1 + 1, 0, none⟩)]) rfl trivial (enters_of Tryz.func131 (by kernel_rfl) rfl)
    (all_stops _ (by omega) (w.heap.size + 1 + 1 + 1 + 1) w.heap.size (m ||| 2 ^ c) hmo hpos _ (by omega) b5.cell (hT.below hpos hB0)) belowK_t (belowK_b (by omega)) (Below.refl _ _) (fun _ => rfl)
    (fun pre W => WithI (fun k => ok k /\ k < w.heap.size) w f (.iface 122 (.pointer (some ⟨b, 0, none⟩))) c (.iface tk (.pointer (some ⟨bk, 0, none⟩))) pre W /\ Below w.heap.size w W)
    (fun _ _ _ => False)
    (OwnFrom.and (fun s A B row hs hg hr => hs.kept hg (fun r e => ⟨Nat.le_trans (by omega) (hr r e).1, (hr r e).2⟩)) (ownFrom_below (Nat.le_refl _) (by omega)))
    (fun _ _ _ _ _ hs _ _ => hs)
    ⟨⟨⟨_, [], b4, World.ownsRow_nil _ _ _ _, Reps.nil _ _⟩, b1, b2, b3⟩, hB0⟩
    (fun y => { tmps := #[.iface 122 (.pointer (some ⟨b, 0, none⟩)), .int .i64 (c : Nat), .iface tk (.pointer (some ⟨bk, 0, none⟩)), .pointer (some ⟨w.heap.size, 0, none⟩), .pointer (some ⟨w.heap.size + 1, 0, none⟩), .pointer (some ⟨w.heap.size + 1 + 1, 0, none⟩), .nilIface, .int .u32 ((m ||| 2 ^ c : Nat) : Int), .bool true, .pointer (some ⟨w.heap.size + 1 + 1 + 1, 0, none⟩), .int .i64 (y : Nat), undef, undef, .tuple #[.int .u32 (m : Nat), .bool true], .iface 122 (.pointer (some ⟨b, 0, none⟩)), .tuple #[.int .u32 (m : Nat), .bool true], .int .u32 (m : Nat), .bool true, .int .u32 (m : Nat), .int .i64 (c : Nat), .int .u32 ((m ||| 2 ^ c : Nat) : Int), .int .u32 ((m ||| 2 ^ c : Nat) : Int), .func (.func 131) #[] #[.pointer (some ⟨w.heap.size + 1 + 1 + 1 + 1, 0, none⟩)], .int .i64 (y : Nat), undef, undef, undef, undef, undef, undef, undef, undef, undef, undef, undef, undef, undef, undef, undef, undef, undef, undef, undef, undef], defers := [] }) ?assign ?body ?done ?stop
  case assign =>
    intro l x W K hK
    gi_wp2
    exact hK
  case body =>
    rintro l pre y W ⟨⟨⟨v, inner, hv, hrow, hreps⟩, c1, c2, c3⟩, hB⟩ hlt
    have d1 := c1.cell; have d2 := c2.cell; have d3 := c3.cell; have d4 := hv.cell; have d5 := hv.frozen
    have hl32 : (Bw.bitsOf (m ||| 2 ^ c)).length <= 32 := by rw [Bw.length_bitsOf]; exact Bw.ones_le 32 _
    have hpl : pre.length < 32 := by omega
    have HREPS := Lib.hid hreps
    have HBW := Lib.hid hB
    clear hreps hB b1 b2 b3 b4 b5 hB0
    by_cases hyc : y = c
    · have heq : ((y : Int) == (c : Int)) = true := by rw [beq_iff_eq]; omega
      have HX : Hid (ONodeAt nt (fun k => ok k /\ k < w.heap.size) W (.iface tk (.pointer (some ⟨bk, 0, none⟩))) (f y)) := Lib.hid (by rw [show f y = some k by rw [HF.out]; exact if_pos hyc]; exact NodeAt.move (fun k hk _ => ⟨hk, HBW.out.block k hk.2⟩) _ _ HK.out)
      clear hyc
      gi_wp2_with (gi_at_builtin; refine wpListIn_append_own _ rfl _ _ 124 rfl (w.heap.size + 5) 28 i0 .nilIface 1 16 Tryz.underlying124 HI.out HZ0.out HZ1.out HZ2.out rfl (by decide) _ _ _ rfl (hrow.alloc _) ⟨W.heap.size, 0, none⟩ 1 1 [.iface tk (.pointer (some ⟨bk, 0, none⟩))] rfl rfl (cell_one_new _ _ _) (by simp [Value.oneCell']) (by unfold maxLen; omega) (by omega) (by have := hv.lt; have := c1.lt; simp; omega) ?_; intro v' w1 hown' hgrow _; obtain ⟨g', cap', rfl⟩ := ownsRow_succ hown'; obtain ⟨hv1, hk2, hb2, hI2, hB2⟩ := WithI.step hv hrow HREPS.out c1 c2 c3 HBW.out HX.out hown' hgrow; have hc1 := hv1.cell; have hf1 := hv1.frozen)
      exact ⟨hk2, hb2, hI2, hB2⟩
    · have heq : ((y : Int) == (c : Int)) = false := by rw [beq_eq_false_iff_ne]; omega
      have hfy : f y = kidAt m kids y := by rw [HF.out]; exact if_neg hyc
      have hnW : NodeAt nt (fun k => ok k /\ k < w.heap.size) W (.iface 122 (.pointer (some ⟨b, 0, none⟩))) (.branch m kids) := NodeAt.move (fun k hk _ => ⟨hk, HBW.out.block k hk.2⟩) _ _ HN.out
      cases hka : kidAt m kids y with
      | some kk =>
        have CK := Lib.hid (kid_some hnW hm hkl hka)
        have HFY := Lib.hid (hfy.trans hka)
        clear hyc hfy hka hnW
        gi_wp2_with (first
          | (refine ⟨trivial, ?_⟩; gi_at_call 36; refine (CallsIn.inRound l (callsIn_wide.2 CK.out)).mono ?_; rintro e W1 ⟨t1, b1, q, rfl, hu, rfl⟩; have HU := Lib.hid hu; clear hu; have e4 : (W.drewN q).cell? ⟨w.heap.size + 3, 0, none⟩ = some v := d4)
          | (gi_at_builtin; refine wpListIn_append_own _ rfl _ _ 124 rfl (w.heap.size + 5) 28 i0 .nilIface 1 16 Tryz.underlying124 HI.out HZ0.out HZ1.out HZ2.out rfl (by decide) _ _ _ rfl ((hrow.kept (Turns.drewN W q none) (by cases v.ownBlock <;> simp)).alloc _) ⟨(W.drewN q).heap.size, 0, none⟩ 1 1 [.iface t1 (.pointer (some ⟨b1, 0, none⟩))] rfl rfl (cell_one_new _ _ _) (by simp [Value.oneCell']) (by unfold maxLen; omega) (by omega) (by have := hv.lt; have := c1.lt; simp; omega) ?_; intro v' w1 hown' hgrow _; obtain ⟨g', cap', rfl⟩ := ownsRow_succ hown'; obtain ⟨hv1, hk2, hb2, hI2, hB2⟩ := WithI.step (W := W.drewN q) (y := y) (f := f) hv (hrow.kept (Turns.drewN W q none) (by cases v.ownBlock <;> simp)) (HREPS.out.move (goodNode nt) (Moves.drewN W q)) c1 c2 c3 (b_drewN HBW.out q) (by rw [HFY.out]; exact NodeAt.move (Moves.drewN W q) _ _ HU.out) hown' hgrow; have hc1 := hv1.cell; have hf1 := hv1.frozen))
        exact ⟨(KeepsOthers.of_grownBy (Turns.drewN W q none) (fun j o e => by cases e)).trans hk2, (b_drewN (Below.refl _ _) q).trans hb2, hI2, hB2⟩
      | none =>
        have CK := Lib.hid (kid_not hnW hm hkl hka)
        have HFY := Lib.hid (hfy.trans hka)
        clear hyc hfy hka hnW
        gi_wp2_with (first
          | (refine ⟨trivial, ?_⟩; gi_at_call 36; refine (CallsIn.inRound l (callsIn_wide.2 CK.out)).mono ?_; rintro e W1 ⟨q, rfl, rfl⟩; have e4 : (W.drewN q).cell? ⟨w.heap.size + 3, 0, none⟩ = some v := d4)
          | (gi_at_builtin; refine wpListIn_append_own _ rfl _ _ 124 rfl (w.heap.size + 5) 28 i0 .nilIface 1 16 Tryz.underlying124 HI.out HZ0.out HZ1.out HZ2.out rfl (by decide) _ _ _ rfl ((hrow.kept (Turns.drewN W q none) (by cases v.ownBlock <;> simp)).alloc _) ⟨(W.drewN q).heap.size, 0, none⟩ 1 1 [.nilIface] rfl rfl (cell_one_new _ _ _) (by simp [Value.oneCell']) (by unfold maxLen; omega) (by omega) (by have := hv.lt; have := c1.lt; simp; omega) ?_; intro v' w1 hown' hgrow _; obtain ⟨g', cap', rfl⟩ := ownsRow_succ hown'; obtain ⟨hv1, hk2, hb2, hI2, hB2⟩ := WithI.step (W := W.drewN q) (y := y) (f := f) hv (hrow.kept (Turns.drewN W q none) (by cases v.ownBlock <;> simp)) (HREPS.out.move (goodNode nt) (Moves.drewN W q)) c1 c2 c3 (b_drewN HBW.out q) (by rw [HFY.out]; rfl) hown' hgrow; have hc1 := hv1.cell; have hf1 := hv1.frozen))
        exact ⟨(KeepsOthers.of_grownBy (Turns.drewN W q none) (fun j o e => by cases e)).trans hk2, (b_drewN (Below.refl _ _) q).trans hb2, hI2, hB2⟩
  case done =>
    rintro D ys W hD rfl ⟨⟨⟨v, inner, hv, hrow, hreps⟩, c1, c2, c3⟩, hB⟩ hK
    have d4 := hv.cell
    have hDl : D < W.heap.size := (Array.getElem?_eq_some_iff.1 hK).1
    have hvD : ∀ g, v.ownBlock = some g -> g ≠ D := by
      intro g hg e
      rcases hrow.2 with ⟨rfl, _⟩ | ⟨g', cap', cur, rfl, _, hgb, _⟩
      · simp [Value.ownBlock] at hg
      · simp [Value.ownBlock] at hg
        subst hg; subst e
        rw [hgb] at hK; cases hK
    have hown : OwnAt 28 1 (nodeK nt) (fun k => ok k /\ k ≠ D) W (w.heap.size + 5) v ((Bw.bitsOf (m ||| 2 ^ c)).map f) := by
      refine ⟨fun g hg => ⟨HOK.out g (by have := (hrow.lt g hg).1; omega), hvD g hg⟩, inner, by rw [List.length_map]; exact hrow, hreps.move (goodNode nt) fun j hj _ => ⟨⟨⟨hj.1, by omega⟩, fun e => ?_⟩, rfl⟩⟩
      have := (hrow.lt j e.symm).1
      omega
    have hl32 : ((Bw.bitsOf (m ||| 2 ^ c)).map f).length <= 32 := by rw [List.length_map, Bw.length_bitsOf]; exact Bw.ones_le 32 _
    have hcnt := HCNT.out
    rw [HFIN.out] at hcnt
    have CB := Lib.hid (branch_any W (hown.row (goodNode nt)) hl32 hmo (fun k hk => ⟨HOK.out k (Nat.le_trans hB.size hk), by omega⟩) hcnt)
    obtain ⟨A9, c9, rfl⟩ := (hown.row (goodNode nt)).form
    have HBW := Lib.hid hB
    rw [List.length_map] at d4
    have HKD := Lib.hid hK
    have HDL := Lib.hid hDl
    have HDW := Lib.hid hD
    have HSZ := Lib.hid hs0
    rw [List.length_map] at CB
    rw [<- HFIN.out] at CB
    clear hown hl32 hcnt hrow hreps hB hK hvD hDl c1 c2 c3 hD hs0
    gi_wp2_with (refine ⟨trivial, ?_⟩; gi_at_call 127; refine (callsIn_wide.2 CB.out).mono ?_; rintro e w2 ⟨r, rfl, hr, hb2⟩)
    have hK2 : w2.heap[D]? = some (.deferred (some [])) := (hb2.block D HDL.out).trans HKD.out
    refine ⟨by simp, .inl ⟨_, _, rfl, run_takeDeferred hK2, ?_⟩⟩
    refine ⟨_, results_tmp rfl _ _ _, r, rfl, hr.move fun j hj _ => ⟨hj.1, World.putObj_heap_other hj.2⟩, ?_⟩
    exact (HBW.out.trans (hb2.mono HBW.out.size)).trans (belowK_b (w := w) (Nat.le_refl _) w2 D _ _ (by have := HSZ.out; have := HDW.out; omega) hK2 rfl rfl)
  case stop =>
    rintro D c pre W _ _ h _
    exact h.elim
end Go.Proofs.YtadaoceidkagfaaGreatDoor
