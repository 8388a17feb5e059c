/- find.way, find.Get, tree.Get. -/
import Derived.Test.YtadaoceidkagfaaGreatDoorMeter
import Derived.Test.YtadaoceidkagfaaGreatDoorOf
import Derived.Test.YtadaoceidkagfaaGreatDoorBwFind
import Derived.Deep.LoopGhost
namespace Go.Proofs.YtadaoceidkagfaaGreatDoor
open Go.RowKit Go.Bw
def LookTold (w : World) (u : Value) (b : Bool) (r : Option Bw.Bytes) : Prop :=
  match r with
  | none => u = .slice none 0 0 /\ b = false
  | some x => b = true /\ BytesAt AllB w u x
def LookFresh (w w' : World) (u : Value) (b : Bool) (r : Option Bw.Bytes) : Prop :=
  match r with
  | none => u = .slice none 0 0 /\ b = false
  | some x => b = true /\ BytesAt (fun k => w.heap.size <= k) w' u x
theorem LookFresh.told {w w' : World} {u : Value} {b : Bool} {r : Option Bw.Bytes} (h : LookFresh w w' u b r) : LookTold w' u b r := by
  cases r with
  | none => exact h
  | some x => exact ⟨h.1, h.2.move goodByte (Moves.weaken fun _ _ _ => trivial)⟩
theorem LookFresh.early {w0 w w' : World} {u : Value} {b : Bool} {r : Option Bw.Bytes} (h : LookFresh w w' u b r) (hs : w0.heap.size <= w.heap.size) : LookFresh w0 w' u b r := by
  cases r with
  | none => exact h
  | some x => exact ⟨h.1, h.2.move goodByte (Moves.weaken fun _ hk _ => Nat.le_trans hs hk)⟩
set_option maxRecDepth 100000 in
set_option maxHeartbeats 1000000 in
theorem tget_fresh {ok ok' : Nat -> Prop} {t : Bw.T} {key : Bw.Bytes} {tv kv mv : Value} {c : Nat × Nat} {mb : Option Nat} {w : World} (ht : TreeAt ok w tv t) (hk : BytesAt ok' w kv key) (hm : MeterAt w mv c mb) (hok : ∀ k, ok k -> some k ≠ mb) (hok' : ∀ k, ok' k -> some k ≠ mb)
    (hc : c.1 + t.size < 4611686018427387904 /\ c.2 + t.size < 4611686018427387904) (hp : ∀ p ∈ t.list, p.2.length <= 1048576) :
    Calls Tryz.prog 83 #[tv, kv, mv] w fun e w' => ∃ u b, e = .returned (.tuple #[u, .bool b]) /\ LookFresh w w' u b (t.look key) /\ MeterAt w' mv (c.1 + t.steps key, c.2 + t.steps key) mb /\ Turns w w' mb := by
  obtain ⟨A, rfl⟩ := ht.form
  obtain ⟨K, ck, rfl⟩ := hk.form
  obtain ⟨M, rfl⟩ := hm.form
  have H0 : Hid (∃ s : Bw.T, s.size <= t.size /\ TreeAt ok w (.pointer A) s /\ s.look key = t.look key /\ (∀ p ∈ s.list, p ∈ t.list) /\ ∃ j, j + s.steps key = t.steps key /\ j + s.size <= t.size /\ MeterAt w (.pointer M) (c.1 + j, c.2 + j) mb /\ Turns w w mb) :=
    Lib.hid ⟨t, Nat.le_refl _, ht, rfl, fun _ h => h, 0, Nat.zero_add _, by omega, hm, Turns.refl _ _⟩
  have HK := Lib.hid hk; have HOK := Lib.hid hok; have HOK' := Lib.hid hok'; have HC := Lib.hid hc; have HP := Lib.hid hp
  clear ht hk hm hok hok' hc hp
  go_enter Tryz.func83, Tryz.ntmps83
  go_wp2_with fail
  go_loopg [0] (t.size) (fun z tv wr => ∃ s : Bw.T, s.size <= z /\ TreeAt ok wr tv s /\ s.look key = t.look key /\ (∀ p ∈ s.list, p ∈ t.list) /\ ∃ j, j + s.steps key = t.steps key /\ j + s.size <= t.size /\ MeterAt wr (.pointer M) (c.1 + j, c.2 + j) mb /\ Turns w wr mb)
  case atStart => exact H0.out
  case round =>
    obtain ⟨s, hz, hs, hlk, hin, j, hj, hjs, hm, hT⟩ := hrel
    cases s with
    | nil =>
      simp only [TreeAt] at hs
      subst hs
      have HLK : Hid (t.look key = none) := Lib.hid hlk.symm
      have HJ : Hid (j = t.steps key) := Lib.hid hj
      have HM := Lib.hid hm; have HT := Lib.hid hT
      clear hlk hin hj hjs hm hT hz
      go_wp2
      go_ret2
      exact ⟨_, _, rfl, by rw [HLK.out]; exact ⟨rfl, rfl⟩, by rw [<- HJ.out]; exact HM.out, HT.out⟩
    | node l q r =>
      have hlq : q ∈ t.list := hin q (by simp [Bw.T.list])
      have hll : ∀ p ∈ l.list, p ∈ t.list := fun p hp => hin p (by simp [Bw.T.list, hp])
      have hlr : ∀ p ∈ r.list, p ∈ t.list := fun p hp => hin p (by simp [Bw.T.list, hp])
      simp only [TreeAt] at hs
      obtain ⟨b, u1, u2, lv, rv, rfl, h0, h1, h2, h3, h4, k1, k2, hl, hr⟩ := hs
      obtain ⟨U1, cu1, rfl⟩ := k1.form
      obtain ⟨U2, cu2, rfl⟩ := k2.form
      obtain ⟨AL, rfl⟩ := hl.form
      obtain ⟨AR, rfl⟩ := hr.form
      simp only [Bw.T.size] at hz hjs
      have hc := HC.out
      have CV := Lib.hid (visit_any hm (by show c.1 + j < _; omega))
      have SK : Hid (∀ W, Turns wr W mb -> W.cell? ⟨b, 0, none⟩ = some (.slice U1 q.1.length cu1) /\ W.cell? ⟨b, 1, none⟩ = some (.slice U2 q.2.length cu2) /\ W.cell? ⟨b, 2, none⟩ = some (.pointer AL) /\ W.cell? ⟨b, 3, none⟩ = some (.pointer AR)) :=
        Lib.hid fun W hW => ⟨hW.cell h0.2 (HOK.out b h0.1), hW.cell h1.2 (HOK.out b h0.1), hW.cell h2.2 (HOK.out b h0.1), hW.cell h3.2 (HOK.out b h0.1)⟩
      have CK := Lib.hid (fun (W : World) (mc : Nat × Nat) (hW : Turns wr W mb) (hm' : MeterAt W (.pointer M) mc mb) (hc2 : mc.2 < 4611686018427387904) => mcmp_any hm' hc2 (HK.out.move goodByte (Turns.moves (World.grownBy.trans hT hW) HOK'.out)) (k1.move goodByte (Turns.moves hW HOK.out)) HOK'.out HOK.out)
      have CL := Lib.hid (fun (W : World) (hW : Turns wr W mb) => cloneO W (k2.move goodByte (Turns.moves hW HOK.out)) (HP.out q hlq))
      have HT := Lib.hid hT
      have HL := Lib.hid hl; have HR := Lib.hid hr; have HLL := Lib.hid hll; have HLR := Lib.hid hlr
      have HLK := Lib.hid hlk; have HJ := Lib.hid hj
      have HN : Hid (c.2 + j < 4611686018427387904) := Lib.hid (by omega)
      have HZ := Lib.hid hz; have HJS := Lib.hid hjs
      simp only [Bw.T.look] at HLK
      simp only [Bw.T.steps] at HJ
      clear hlq hll hlr h0 h1 h2 h3 h4 k1 k2 hl hr hlk hin hj hz hjs hc hm hT
      rcases Bw.cmp_range key q.1 with hcmp | hcmp | hcmp
      · rw [if_pos hcmp] at HLK HJ
        simp only [hcmp] at CK
        go_wp2_with (first
          | (refine CV.out.mono ?_; rintro e w1 ⟨rfl, hm1, hT1⟩; obtain ⟨x0, x1, x2, x3⟩ := SK.out w1 hT1; have CK1 := Lib.hid (CK.out w1 _ hT1 hm1 HN.out); clear hm1)
          | (refine CK1.out.mono ?_; rintro e w2 ⟨rfl, hm2, hT2'⟩; have hT2 := hT1.trans hT2'; obtain ⟨y0, y1, y2, y3⟩ := SK.out w2 hT2; have CL2 := Lib.hid (CL.out w2 hT2); clear hT2')
          | (refine CL2.out.mono ?_; rintro e w3 ⟨q3, rfl, hq3, hb3⟩))
        have HQ3 := Lib.hid hq3; have HB3 := Lib.hid hb3; have HM2 := Lib.hid hm2; have HT2 := Lib.hid hT2
        clear hq3 hb3 hm2 hT2
        go_ret2
        exact ⟨_, _, rfl, by rw [<- HLK.out]; exact ⟨rfl, (HQ3.out.row goodByte).move goodByte (Moves.weaken fun k hk _ => Nat.le_trans (HT.out.trans HT2.out).size hk)⟩, by rw [<- HJ.out]; exact HM2.out.below HB3.out, (HT.out.trans HT2.out).trans (Turns.of_below mb HB3.out)⟩
      · rw [if_neg (by rw [hcmp]; decide), if_pos hcmp] at HLK HJ
        simp only [hcmp] at CK
        go_wp2_with (first
          | (refine CV.out.mono ?_; rintro e w1 ⟨rfl, hm1, hT1⟩; obtain ⟨x0, x1, x2, x3⟩ := SK.out w1 hT1; have CK1 := Lib.hid (CK.out w1 _ hT1 hm1 HN.out); clear hm1)
          | (refine CK1.out.mono ?_; rintro e w2 ⟨rfl, hm2, hT2'⟩; have hT2 := hT1.trans hT2'; obtain ⟨y0, y1, y2, y3⟩ := SK.out w2 hT2; clear hT2'))
        go_roundg (r.size)
        case measure => have := HZ.out; omega
        case rel => exact ⟨r, Nat.le_refl _, TreeAt.move (Turns.moves hT2 HOK.out) _ _ HR.out, HLK.out, HLR.out, j + 1, by have := HJ.out; omega, by have := HJS.out; omega, hm2, HT.out.trans hT2⟩
      · rw [if_neg (by rw [hcmp]; decide), if_neg (by rw [hcmp]; decide)] at HLK HJ
        simp only [hcmp] at CK
        go_wp2_with (first
          | (refine CV.out.mono ?_; rintro e w1 ⟨rfl, hm1, hT1⟩; obtain ⟨x0, x1, x2, x3⟩ := SK.out w1 hT1; have CK1 := Lib.hid (CK.out w1 _ hT1 hm1 HN.out); clear hm1)
          | (refine CK1.out.mono ?_; rintro e w2 ⟨rfl, hm2, hT2'⟩; have hT2 := hT1.trans hT2'; obtain ⟨y0, y1, y2, y3⟩ := SK.out w2 hT2; clear hT2'))
        go_roundg (l.size)
        case measure => have := HZ.out; omega
        case rel => exact ⟨l, Nat.le_refl _, TreeAt.move (Turns.moves hT2 HOK.out) _ _ HL.out, HLK.out, HLL.out, j + 1, by have := HJ.out; omega, by have := HJS.out; omega, hm2, HT.out.trans hT2⟩
def FwayRel (ok : Nat -> Prop) (w : World) (mv : Value) (c : Nat × Nat) (mb : Option Nat) (h : Nat) (x : Option Bw.N) (D : Nat) (v dv : Value) (wr : World) : Prop :=
  ∃ (d f : Nat) (o : Option Bw.N) (l : List Bw.En), dv = .int .i64 d /\ LayOk d f l /\ Bw.OLays d o l /\ ONodeAt nt ok wr v o /\ MeterAt wr mv (c.1 + d, c.2) mb /\ Turns w wr mb /\ (Bw.wayO f o h d).1 = x /\ (Bw.wayO f o h d).2 + d = D
theorem LayOk.fit {level f : Nat} {l : List Bw.En} {n : Bw.N} (hl : LayOk level f l) (h : Bw.OLays level (some n) l) : n.fit := Bw.lays_fit h l hl.unlike (fun _ => Iff.rfl) hl.bytes hl.len
set_option maxRecDepth 100000 in
set_option maxHeartbeats 1000000 in
theorem fway_any {ok : Nat -> Prop} {o : Option Bw.N} {l : List Bw.En} {nv mv : Value} {c : Nat × Nat} {mb : Option Nat} {h : Nat} {w : World} (hL : LayOk 0 13 l) (hO : Bw.OLays 0 o l) (hn : ONodeAt nt ok w nv o) (hm : MeterAt w mv c mb) (hok : ∀ k, ok k -> some k ≠ mb) (hc : c.1 < 1000000000) :
    Calls Tryz.prog 80 #[nv, .int .u64 (h : Nat), mv] w fun e w' => ∃ u, e = .returned (.tuple #[u, .int .i64 ((Bw.wayO 13 o h 0).2 : Nat)]) /\ ONodeAt nt ok w' u (Bw.wayO 13 o h 0).1 /\ MeterAt w' mv (c.1 + (Bw.wayO 13 o h 0).2, c.2) mb /\ Turns w w' mb := by
  obtain ⟨x, hx⟩ : ∃ x, (Bw.wayO 13 o h 0).1 = x := ⟨_, rfl⟩
  obtain ⟨D, hD⟩ : ∃ D, (Bw.wayO 13 o h 0).2 = D := ⟨_, rfl⟩
  rw [hx, hD]
  have H0 : Hid (FwayRel ok w mv c mb h x D nv (.int .i64 0) w) := Lib.hid ⟨0, 13, o, l, rfl, hL, hO, hn, hm, Turns.refl _ _, hx, hD⟩
  obtain ⟨M, rfl⟩ := hm.form
  have HOK := Lib.hid hok; have HC := Lib.hid hc
  clear hL hO hn hm hok hc hx hD
  go_enter Tryz.func80, Tryz.ntmps80
  go_wp2_with fail
  go_loopw [0, 8] (FwayRel ok w (.pointer M) c mb h x D) (fun _ d _ => 14 - (intOf d).toNat)
  case atStart => exact H0.out
  case round =>
    obtain ⟨d, f, o, l, rfl, hL, hO, hn, hm, hT, hx, hD⟩ := hrel
    have CM := Lib.hid (map_any hn)
    have stop : ∀ o' : Option Bw.N, o = o' -> (mapO o').2 = false -> (Bw.wayO f o h d).1 = o /\ (Bw.wayO f o h d).2 = 0 := by
      rintro o' rfl hb
      match o, hb with
      | none, _ => rw [Bw.wayO_none]; exact ⟨rfl, rfl⟩
      | some (.leaf g q), _ => rw [Bw.wayO_leaf]; exact ⟨rfl, rfl⟩
      | some (.bucket g t), _ => rw [Bw.wayO_bucket]; exact ⟨rfl, rfl⟩
    cases hb : (mapO o).2 with
    | false =>
      obtain ⟨e1, e2⟩ := stop o rfl hb
      rw [e1] at hx
      rw [e2, Nat.zero_add] at hD
      subst hx; subst hD
      rw [hb] at CM
      generalize (mapO o).1 = mm at *
      have HN := Lib.hid hn; have HM := Lib.hid hm; have HT := Lib.hid hT
      clear hn hm hT hL hO stop e1 e2 hb
      go_wp2_with fail
      refine CM.out.mono ?_
      rintro e w1 ⟨rfl, rfl⟩
      go_wp2
      go_ret2
      exact ⟨_, rfl, HN.out, HM.out, HT.out⟩
    | true =>
      match o, hb with
      | some (.branch m kids), _ =>
        have hlv : d <= 12 := Bw.lays_branch_level hO (by have := hL.lv; omega) hL.res hL.hash
        obtain ⟨f', rfl⟩ : ∃ f', f = f' + 1 := ⟨f - 1, by have := hL.lv; omega⟩
        have hfit := hL.fit hO
        have hk := Bw.olays_kid hO (Bw.chunkAt h d)
        have hLk := hL.part (c := Bw.chunkAt h d)
        simp only [Bw.wayO] at hx hD
        have hc := HC.out
        have CV := Lib.hid (visit_any hm (by show c.1 + d < _; omega))
        have CA := Lib.hid (fun W => at_any h d hlv W)
        have CK := Lib.hid (fun (W : World) (hW : Turns wr W mb) => kid_at (Bw.chunkAt h d) (NodeAt.move (Turns.moves hW HOK.out) _ _ hn) hfit)
        simp only [mapO] at CM
        have hkk : (Bw.N.branch m kids).kidAt (Bw.chunkAt h d) = Bw.kidO m kids (Bw.chunkAt h d) := rfl
        rw [hkk] at CK
        have HT := Lib.hid hT; have HX := Lib.hid hx; have HD := Lib.hid hD; have HLK := Lib.hid hLk; have HK := Lib.hid hk; have HLV := Lib.hid hlv
        clear hn hm hT hL hO stop hb hlv hfit hk hLk hx hD hc hkk
        generalize Bw.kidO m kids (Bw.chunkAt h d) = kid at *
        generalize Bw.chunkAt h d = cc at *
        go_wp2_with (first
          | (refine CM.out.mono ?_; rintro e w1 ⟨rfl, rfl⟩)
          | (refine CV.out.mono ?_; rintro e w2 ⟨rfl, hm2, hT2⟩)
          | (refine (CA.out _).mono ?_; rintro e w3 ⟨rfl, rfl⟩)
          | (refine (CK.out _ hT2).mono ?_; rintro e w4 ⟨u4, b4, n4, rfl, hu4, rfl⟩))
        exact ⟨⟨d + 1, f', kid, _, by rw [int_succ (n := 13) (by have := HLV.out; omega) (by decide)], HLK.out, HK.out, hu4.move (Moves.drewN _ _), hm2.below (b_drewN (Below.refl _ _) _), (HT.out.trans hT2).trans (Turns.drewN _ _ _), HX.out, by have := HD.out; omega⟩, by rw [int_succ (n := 13) (by have := HLV.out; omega) (by decide)]; have := HLV.out; simp only [intOf, Int.toNat_natCast]; omega⟩
theorem wayO_le (h : Nat) : ∀ (f level : Nat) (o : Option Bw.N), (Bw.wayO f o h level).2 <= f
  | f, level, none => by rw [Bw.wayO_none]; exact Nat.zero_le _
  | f, level, some (.leaf g q) => by rw [Bw.wayO_leaf]; exact Nat.zero_le _
  | f, level, some (.bucket g t) => by rw [Bw.wayO_bucket]; exact Nat.zero_le _
  | 0, level, some (.branch m kids) => Nat.le_refl _
  | f + 1, level, some (.branch m kids) => by
    simp only [Bw.wayO]
    exact Nat.succ_le_succ (wayO_le h f (level + 1) _)
theorem fway_lays (h : Nat) : ∀ (f level : Nat) (o : Option Bw.N) (l : List Bw.En), LayOk level f l -> Bw.OLays level o l ->
    ∃ (d f' : Nat) (l' : List Bw.En), LayOk d f' l' /\ Bw.OLays d (Bw.wayO f o h level).1 l' /\ ∀ m kids, (Bw.wayO f o h level).1 ≠ some (.branch m kids)
  | f, level, none, l, hL, hO => by rw [Bw.wayO_none]; exact ⟨_, _, _, hL, hO, fun _ _ e => by cases e⟩
  | f, level, some (.leaf g q), l, hL, hO => by rw [Bw.wayO_leaf]; exact ⟨_, _, _, hL, hO, fun _ _ e => by cases e⟩
  | f, level, some (.bucket g t), l, hL, hO => by rw [Bw.wayO_bucket]; exact ⟨_, _, _, hL, hO, fun _ _ e => by cases e⟩
  | 0, level, some (.branch m kids), l, hL, hO => by
    have := Bw.lays_branch_level hO (by have := hL.lv; omega) hL.res hL.hash
    have := hL.lv
    omega
  | f + 1, level, some (.branch m kids), l, hL, hO => by
    simp only [Bw.wayO]
    exact fway_lays h f (level + 1) _ _ hL.part (Bw.olays_kid hO (Bw.chunkAt h level))
set_option maxRecDepth 100000 in
set_option maxHeartbeats 1000000 in
theorem fget_fresh {ok ok' : Nat -> Prop} {o : Option Bw.N} {l : List Bw.En} {nv kv mv : Value} {key : Bw.Bytes} {c : Nat × Nat} {mb : Option Nat} {h : Nat} {w : World} (hL : LayOk 0 13 l) (hO : Bw.OLays 0 o l) (hn : ONodeAt nt ok w nv o) (hk : BytesAt ok' w kv key) (hm : MeterAt w mv c mb)
    (hok : ∀ k, ok k -> some k ≠ mb) (hok' : ∀ k, ok' k -> some k ≠ mb) (hc : c.1 < 1000000000 /\ c.2 < 1000000000) :
    Calls Tryz.prog 47 #[nv, .int .u64 (h : Nat), kv, mv] w fun e w' => ∃ u b, e = .returned (.tuple #[u, .bool b]) /\ LookFresh w w' u b (Bw.lookEnd (Bw.wayO 13 o h 0).1 h key) /\
      MeterAt w' mv (c.1 + (Bw.wayO 13 o h 0).2 + (Bw.costEnd (Bw.wayO 13 o h 0).1 h key).1, c.2 + (Bw.costEnd (Bw.wayO 13 o h 0).1 h key).2) mb /\ Turns w w' mb := by
  have CW := Lib.hid (fway_any (h := h) hL hO hn hm hok hc.1)
  have hDl := wayO_le h 13 0 o
  obtain ⟨d, f, l', hL', hO', hnb⟩ := fway_lays h 13 0 o l hL hO
  obtain ⟨K, ck, rfl⟩ := hk.form
  obtain ⟨M, rfl⟩ := hm.form
  have HMB : Hid (∀ b, mb = some b -> b < w.heap.size) := Lib.hid fun b e => by subst e; exact hm.lt
  have HK := Lib.hid hk; have HOK := Lib.hid hok; have HOK' := Lib.hid hok'; have HC := Lib.hid hc
  clear hL hO hn hk hm hok hok' hc
  generalize (Bw.wayO 13 o h 0).1 = x at *
  generalize (Bw.wayO 13 o h 0).2 = D at *
  have HDL := Lib.hid hDl
  clear hDl
  match x, hnb, hO' with
  | none, _, _ =>
    clear hnb hO' hL'
    go_enter Tryz.func47, Tryz.ntmps47
    go_wp2_with fail
    refine CW.out.mono ?_
    rintro e w1 ⟨u1, rfl, hu1, hm1, hT1⟩
    simp only [ONodeAt] at hu1
    subst hu1
    have HM1 := Lib.hid hm1; have HT1 := Lib.hid hT1
    clear hm1 hT1
    have CH := hash_any (ok := AllB) (v := .nilIface) (n := none) (w := w1) rfl
    have CP := pair_any (ok := AllB) (v := .nilIface) (n := none) (w := w1) rfl (fun _ _ e => by cases e)
    simp only [hashO] at CH
    have CH := Lib.hid CH; have CP := Lib.hid CP
    go_wp2_with fail
    refine CH.out.mono ?_
    rintro e w2 ⟨rfl, rfl⟩
    go_wp2_with fail
    refine CP.out.mono ?_
    rintro e w2 ⟨r2, rfl, hr2, hb2⟩
    simp only [PairTold] at hr2
    subst hr2
    have HB2 := Lib.hid hb2
    clear hb2
    go_wp2
    go_ret2
    exact ⟨_, _, rfl, ⟨rfl, rfl⟩, (HM1.out.below HB2.out).below ((Below.refl _ _).alloc (Nat.le_refl _) _), (HT1.out.trans (Turns.of_below mb HB2.out)).trans (Turns.of_below mb ((Below.refl _ _).alloc (Nat.le_refl _) _))⟩
  | some (.leaf g q), _, hO' =>
    have hfit := hL'.fit hO'
    simp only [Bw.N.fit] at hfit
    have HQ := Lib.hid hfit
    clear hnb hO' hL' hfit
    go_enter Tryz.func47, Tryz.ntmps47
    go_wp2_with fail
    refine CW.out.mono ?_
    rintro e w1 ⟨u1, rfl, hu1, hm1, hT1⟩
    have CH := hash_any (n := some (.leaf g q)) hu1
    have CP := pair_any (n := some (.leaf g q)) hu1 (fun _ _ e => by cases e; exact HQ.out)
    simp only [hashO] at CH
    have CH := Lib.hid CH; have CP := Lib.hid CP
    obtain ⟨t1, b1, rfl⟩ := NodeAt.form hu1
    have HM1 := Lib.hid hm1; have HT1 := Lib.hid hT1
    clear hu1 hm1 hT1
    go_wp2_with fail
    refine CH.out.mono ?_
    rintro e w2 ⟨rfl, rfl⟩
    go_wp2_with fail
    refine CP.out.mono ?_
    rintro e w2 ⟨r2, rfl, hr2, hb2⟩
    simp only [PairTold] at hr2
    obtain ⟨x1, x2, rfl, hx1, hx2⟩ := hr2
    obtain ⟨X1, cx1, rfl⟩ := hx1.form
    obtain ⟨X2, cx2, rfl⟩ := hx2.form
    obtain ⟨W3, hW3⟩ : ∃ W3, w2.alloc (.cells #[.slice X1 q.1.length cx1, .slice X2 q.2.length cx2] 62) = W3 := ⟨_, rfl⟩
    have hb3 : Below w2.heap.size w2 W3 := by rw [<- hW3]; exact (Below.refl _ _).alloc (Nat.le_refl _) _
    have y0 : W3.cell? ⟨w2.heap.size, 0, none⟩ = some (.slice X1 q.1.length cx1) := by rw [<- hW3]; exact cell_new w2 0 _ _ 0 _ rfl
    have y1 : W3.cell? ⟨w2.heap.size, 1, none⟩ = some (.slice X2 q.2.length cx2) := by rw [<- hW3]; exact cell_new w2 0 _ _ 1 _ rfl
    have hT3 : Turns w W3 mb := (HT1.out.trans (Turns.of_below mb hb2)).trans (Turns.of_below mb hb3)
    have hM3 := (HM1.out.below hb2).below hb3
    have hs2 := (HT1.out.trans (Turns.of_below mb hb2)).size
    have hmb : ∀ k, w.heap.size <= k -> some k ≠ mb := fun k hk e => by have := HMB.out k e.symm; omega
    have hs12 : w.heap.size <= w1.heap.size := HT1.out.size
    have SK : Hid (∀ W, Turns W3 W mb -> W.cell? ⟨w2.heap.size, 0, none⟩ = some (.slice X1 q.1.length cx1) /\ W.cell? ⟨w2.heap.size, 1, none⟩ = some (.slice X2 q.2.length cx2)) := Lib.hid fun W hW => ⟨hW.cell y0 (hmb _ hs2), hW.cell y1 (hmb _ hs2)⟩
    have hc := HC.out
    have hdl := HDL.out
    have CV := Lib.hid (visit_any hM3 (by show c.1 + D < _; omega))
    have CC := Lib.hid (fun (W : World) (mc : Nat × Nat) (hW : Turns W3 W mb) (hm' : MeterAt W (.pointer M) mc mb) (hc2 : mc.2 < 4611686018427387904) => mcmp_any (ok' := fun k => w1.heap.size < k) hm' hc2 (HK.out.move goodByte (Turns.moves (World.grownBy.trans hT3 hW) HOK'.out)) ((hx1.move (ok' := fun k => w1.heap.size < k) goodByte (Moves.below hb3)).move goodByte (Turns.moves hW (fun k hk => hmb k (by omega)))) HOK'.out (fun k hk => hmb k (by omega)))
    have HX2 := Lib.hid (fun (W : World) (hW : Turns W3 W mb) => ((hx2.move (ok' := fun k => w1.heap.size < k) goodByte (Moves.below hb3)).move (ok' := fun k => w1.heap.size < k) goodByte (Turns.moves hW (fun k hk => hmb k (by omega)))).move (ok' := fun k => w.heap.size <= k) goodByte (Moves.weaken fun k hk _ => Nat.le_trans hs12 (Nat.le_of_lt hk)))
    have HT3 := Lib.hid hT3; have HW3 := Lib.hid hW3
    have HC2 : Hid (c.2 < 4611686018427387904) := Lib.hid (by omega)
    clear hx1 hx2 hb2 hb3 y0 y1 hT3 hM3 hs2 hmb hs12 hc hdl hW3
    by_cases hgh : g = h
    · have heq : ((g : Int) == (h : Int)) = true := by rw [beq_iff_eq]; omega
      have HG := Lib.hid hgh
      have hco : Bw.costEnd (some (.leaf g q)) h key = (1, 1) := by simp [Bw.costEnd, hgh]
      have HCO := Lib.hid hco
      clear hgh hco
      rcases Bw.cmp_range key q.1 with hcmp | hcmp | hcmp
      · have hlo : Bw.lookEnd (some (.leaf g q)) h key = some q.2 := by simp [Bw.lookEnd, HG.out, (Bw.cmp_eq_zero _ _).1 hcmp]
        have HLO := Lib.hid hlo
        simp only [hcmp] at CC
        clear hlo
        go_wp2_with (first
          | (rw [HW3.out])
          | (refine CV.out.mono ?_; rintro e w4 ⟨rfl, hm4, hT4⟩; obtain ⟨z0, z1⟩ := SK.out w4 hT4; have CC4 := Lib.hid (CC.out w4 _ hT4 hm4 HC2.out); clear hm4)
          | (refine CC4.out.mono ?_; rintro e w5 ⟨rfl, hm5, hT5'⟩; have hT5 := hT4.trans hT5'; obtain ⟨a0, a1⟩ := SK.out w5 hT5; clear hT5'))
        go_ret2
        exact ⟨_, _, rfl, by rw [HLO.out]; exact ⟨rfl, HX2.out _ hT5⟩, by rw [HCO.out]; exact hm5, HT3.out.trans hT5⟩
      all_goals
        have hlo : Bw.lookEnd (some (.leaf g q)) h key = none := by
          have hne : ¬ key = q.1 := fun e => by rw [(Bw.cmp_eq_zero _ _).2 e] at hcmp; cases hcmp
          simp [Bw.lookEnd, hne]
        have HLO := Lib.hid hlo
        simp only [hcmp] at CC
        clear hlo
        go_wp2_with (first
          | (rw [HW3.out])
          | (refine CV.out.mono ?_; rintro e w4 ⟨rfl, hm4, hT4⟩; obtain ⟨z0, z1⟩ := SK.out w4 hT4; have CC4 := Lib.hid (CC.out w4 _ hT4 hm4 HC2.out); clear hm4)
          | (refine CC4.out.mono ?_; rintro e w5 ⟨rfl, hm5, hT5'⟩; have hT5 := hT4.trans hT5'; clear hT5'))
        go_ret2
        exact ⟨_, _, rfl, by rw [HLO.out]; exact ⟨rfl, rfl⟩, by rw [HCO.out]; exact hm5, HT3.out.trans hT5⟩
    · have heq : ((g : Int) == (h : Int)) = false := by rw [beq_eq_false_iff_ne]; omega
      have hco : Bw.costEnd (some (.leaf g q)) h key = (1, 0) := by simp [Bw.costEnd, hgh]
      have hlo : Bw.lookEnd (some (.leaf g q)) h key = none := by simp [Bw.lookEnd, hgh]
      have HLO := Lib.hid hlo; have HCO := Lib.hid hco
      clear hlo hco hgh
      go_wp2_with (first
        | (rw [HW3.out])
        | (refine CV.out.mono ?_; rintro e w4 ⟨rfl, hm4, hT4⟩; obtain ⟨z0, z1⟩ := SK.out w4 hT4))
      go_ret2
      exact ⟨_, _, rfl, by rw [HLO.out]; exact ⟨rfl, rfl⟩, by rw [HCO.out]; exact hm4, HT3.out.trans hT4⟩
  | some (.bucket g t), _, hO' =>
    have hfit := hL'.fit hO'
    simp only [Bw.N.fit] at hfit
    have HQ := Lib.hid hfit
    clear hnb hO' hL' hfit
    go_enter Tryz.func47, Tryz.ntmps47
    go_wp2_with fail
    refine CW.out.mono ?_
    rintro e w1 ⟨u1, rfl, hu1, hm1, hT1⟩
    have CH := hash_any (n := some (.bucket g t)) hu1
    have CP := pair_any (n := some (.bucket g t)) hu1 (fun _ _ e => by cases e)
    simp only [hashO] at CH
    have CT := Lib.hid (fun (W : World) (hW : Below w1.heap.size w1 W) => tree_any (n := some (.bucket g t)) (ONodeAt.move (n := some (.bucket g t)) (Moves.below hW) hu1))
    have CH := Lib.hid CH; have CP := Lib.hid CP
    obtain ⟨t1, b1, rfl⟩ := NodeAt.form hu1
    have HM1 := Lib.hid hm1; have HT1 := Lib.hid hT1
    clear hu1 hm1 hT1
    go_wp2_with fail
    refine CH.out.mono ?_
    rintro e w2 ⟨rfl, rfl⟩
    go_wp2_with fail
    refine CP.out.mono ?_
    rintro e w2 ⟨r2, rfl, hr2, hb2⟩
    simp only [PairTold] at hr2
    subst hr2
    obtain ⟨W3, hW3⟩ : ∃ W3, w2.alloc (.cells #[.slice none 0 0, .slice none 0 0] 62) = W3 := ⟨_, rfl⟩
    have hb3 : Below w1.heap.size w1 W3 := hb2.trans (by rw [<- hW3]; exact (Below.refl _ _).alloc hb2.size _)
    have hT3 : Turns w W3 mb := HT1.out.trans (Turns.of_below mb hb3)
    have hM3 := HM1.out.below hb3
    have HT3 := Lib.hid hT3; have HM3 := Lib.hid hM3
    have CT3 := Lib.hid (CT.out W3 hb3)
    clear hb2 hb3 hT3 hM3
    subst hW3
    by_cases hgh : g = h
    · have heq : ((g : Int) != (h : Int)) = false := by rw [bne_eq_false_iff_eq]; omega
      have hco : Bw.costEnd (some (.bucket g t)) h key = (t.steps key, t.steps key) := by simp [Bw.costEnd, hgh]
      have hlo : Bw.lookEnd (some (.bucket g t)) h key = t.look key := by simp [Bw.lookEnd, hgh]
      have HLO := Lib.hid hlo; have HCO := Lib.hid hco
      clear hlo hco hgh
      have hc := HC.out
      have hdl := HDL.out
      have hq := HQ.out
      have hsz : t.size <= 1048576 := hq.2.2.2
      have CG := Lib.hid (fun (W : World) (tv : Value) (hW : W = w2.alloc (.cells #[.slice none 0 0, .slice none 0 0] 62)) (ht : TreeAt ok W tv t) => tget_fresh (mv := .pointer M) (c := (c.1 + D, c.2)) ht (HK.out.move goodByte (Turns.moves (hW ▸ HT3.out) HOK'.out)) (hW ▸ HM3.out) HOK.out HOK'.out ⟨by show c.1 + D + t.size < _; omega, by show c.2 + t.size < _; omega⟩ (fun p hp => (hq.2.2.1 p hp).2))
      clear hc hdl hq hsz
      go_wp2_with (first
        | (refine CT3.out.mono ?_; rintro e w4 ⟨⟨r4, rfl, tv, rfl, htv⟩, rfl⟩; have CG4 := Lib.hid (CG.out _ tv rfl htv); obtain ⟨TA, rfl⟩ := htv.form; clear htv)
        | (refine CG4.out.mono ?_; rintro e w5 ⟨u5, b5, rfl, hl5, hm5, hT5⟩))
      go_ret2
      exact ⟨_, _, rfl, by rw [HLO.out]; exact hl5.early HT3.out.size, by rw [HCO.out]; exact hm5, HT3.out.trans hT5⟩
    · have heq : ((g : Int) != (h : Int)) = true := by rw [bne_iff_ne]; omega
      have hco : Bw.costEnd (some (.bucket g t)) h key = (0, 0) := by simp [Bw.costEnd, hgh]
      have hlo : Bw.lookEnd (some (.bucket g t)) h key = none := by simp [Bw.lookEnd, hgh]
      have HLO := Lib.hid hlo; have HCO := Lib.hid hco
      clear hlo hco hgh
      go_wp2
      go_ret2
      exact ⟨_, _, rfl, by rw [HLO.out]; exact ⟨rfl, rfl⟩, by rw [HCO.out]; exact HM3.out, HT3.out⟩
  | some (.branch m kids), hnb, _ => exact absurd rfl (hnb m kids)
end Go.Proofs.YtadaoceidkagfaaGreatDoor
