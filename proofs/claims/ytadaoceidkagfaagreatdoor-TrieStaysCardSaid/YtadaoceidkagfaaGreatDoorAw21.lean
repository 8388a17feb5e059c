/- law21.awake. -/
import Derived.Test.YtadaoceidkagfaaGreatDoorTrieT
import Derived.Test.YtadaoceidkagfaaGreatDoorStepT
import Derived.DeepKeys
import Derived.Laws.StructEq
namespace Go.Proofs.YtadaoceidkagfaaGreatDoor
open Go.RowKit Go.Bw
theorem eqSeed1 (w : World) : (Op.equalIn 10000 23 (.agg #[.int .u8 1, .int .u8 0, .int .u8 0, .int .u8 0, .int .u8 0, .int .u8 0, .int .u8 0, .int .u8 0, .int .u8 0, .int .u8 0, .int .u8 0, .int .u8 0, .int .u8 0, .int .u8 0, .int .u8 0, .int .u8 0]) (.agg #[.int .u8 1, .int .u8 0, .int .u8 0, .int .u8 0, .int .u8 0, .int .u8 0, .int .u8 0, .int .u8 0, .int .u8 0, .int .u8 0, .int .u8 0, .int .u8 0, .int .u8 0, .int .u8 0, .int .u8 0, .int .u8 0])).run Tryz.prog w = .ok true w := by
  have hk : Tryz.prog.keyTypeAt 2 23 = true := by kernel_rfl
  have hf : (Value.agg #[.int .u8 1, .int .u8 0, .int .u8 0, .int .u8 0, .int .u8 0, .int .u8 0, .int .u8 0, .int .u8 0, .int .u8 0, .int .u8 0, .int .u8 0, .int .u8 0, .int .u8 0, .int .u8 0, .int .u8 0, .int .u8 0]).formed Tryz.prog 23 = true := by kernel_rfl
  have hl : (Tryz.prog.keyLits 2 23 (Value.agg #[.int .u8 1, .int .u8 0, .int .u8 0, .int .u8 0, .int .u8 0, .int .u8 0, .int .u8 0, .int .u8 0, .int .u8 0, .int .u8 0, .int .u8 0, .int .u8 0, .int .u8 0, .int .u8 0, .int .u8 0, .int .u8 0]).cells.toList).isSome = true := by kernel_rfl
  obtain ⟨la, hla⟩ := Option.isSome_iff_exists.1 hl
  obtain ⟨r, hr, hiff⟩ := run_equalIn_deep (P := Tryz.prog) 9998 2 23 hk w 2 2 _ _ la la hf hf hla hla
  rw [show (10000 : Nat) = 9998 + 2 from rfl, hr, hiff.2 rfl]
theorem wpList_load_want {P : Program} {ops : Array Oper} {rest : List Oper} {op : Oper} {a : Act} {w : World} {Q : Exit -> Act -> World -> Prop} (hw : Region.wanted op (yielded ops a.tmps) = true) (ty : TypeId) (x : Operand) (ho : op.op = .load ty x)
    (b o : Nat) (hx : a.eval x = .pointer (some ⟨b, o, none⟩)) (cs : List Value) (d : TypeDesc) (hc : w.rangeAt b o cs)
    (hu : P.underlying ty = some d) (hd : d.isRow = true) (hi : (P.info? ty).map (·.size) = some cs.length)
    (h : wpList P ops Q rest (a.put op.dst (.agg cs.toArray)) w) : wpList P ops Q (op :: rest) a w :=
  BigFrame.wpList_want hw fun _ hK => wp_load_mid ty x ho b o hx cs d hc hu hd hi (hK _ _ h)
theorem mapOk_nil : MapOk [] := ⟨List.Pairwise.nil, Nat.zero_le _, fun _ h => by cases h⟩
set_option maxRecDepth 100000 in
set_option maxHeartbeats 2000000 in
theorem awake21_any (w : World) (hT : Tab w) (hS : Sta w) :
    Calls Tryz.prog 8 #[] w fun e w' => e = .returned (.bool true) /\ Below w.heap.size w w' := by
  have conv : ∀ (W : World) (x : Int), (convert 33 33 (.slice (some ⟨W.heap.size, 0, none⟩) 1 1)).run Tryz.prog (W.alloc (.cells #[.int .u8 x] 5)) = .ok (.slice (some ⟨W.heap.size, 0, none⟩) 1 1) (W.alloc (.cells #[.int .u8 x] 5 (1, 2))) := fun W x =>
    Lib.run_convert_bytes_const (P := Tryz.prog) W 33 5 #[.int .u8 x] 1 1 Tryz.underlying33 Tryz.underlying5
  have brow : ∀ (W : World) (x : UInt8), BytesAt (fun k => k = W.heap.size) (W.alloc (.cells #[.int .u8 (x.toNat : Nat)] 5 (1, 2))) (.slice (some ⟨W.heap.size, 0, none⟩) 1 1) [x] := fun W x =>
    RowAt.single goodByte (cs := #[.int .u8 (x.toNat : Nat)]) (t := 5) (fr := (1, 2)) rfl rfl (heap_alloc_new W _)
  obtain ⟨sd, hsd⟩ : ∃ sd : List UInt8, sd = [1, 0, 0, 0, 0, 0, 0, 0, 0, 0, 0, 0, 0, 0, 0, 0] := ⟨_, rfl⟩
  have hlen : sd.length = 16 := by rw [hsd]; rfl
  have hsv : seedV sd = .agg #[.int .u8 1, .int .u8 0, .int .u8 0, .int .u8 0, .int .u8 0, .int .u8 0, .int .u8 0, .int .u8 0, .int .u8 0, .int .u8 0, .int .u8 0, .int .u8 0, .int .u8 0, .int .u8 0, .int .u8 0, .int .u8 0] := by rw [hsd]; rfl
  have htv : ∀ x, trieV sd x = .agg #[.int .u8 1, .int .u8 0, .int .u8 0, .int .u8 0, .int .u8 0, .int .u8 0, .int .u8 0, .int .u8 0, .int .u8 0, .int .u8 0, .int .u8 0, .int .u8 0, .int .u8 0, .int .u8 0, .int .u8 0, .int .u8 0, x] := fun x => by rw [hsd]; rfl
  have eqS := eqSeed1
  have slen : ∀ {x : Value}, (Tryz.prog.info? 30).map (·.size) = some ([.int .u8 1, .int .u8 0, .int .u8 0, .int .u8 0, .int .u8 0, .int .u8 0, .int .u8 0, .int .u8 0, .int .u8 0, .int .u8 0, .int .u8 0, .int .u8 0, .int .u8 0, .int .u8 0, .int .u8 0, .int .u8 0, x] : List Value).length := fun {x} => trie_size.trans (congrArg some rfl)
  have sone : ∀ {x : Value}, x.oneCell' = true -> (#[.int .u8 1, .int .u8 0, .int .u8 0, .int .u8 0, .int .u8 0, .int .u8 0, .int .u8 0, .int .u8 0, .int .u8 0, .int .u8 0, .int .u8 0, .int .u8 0, .int .u8 0, .int .u8 0, .int .u8 0, .int .u8 0, x] : Array Value).all (·.oneCell') = true := fun {x} h => all_oneCell_toArray (cs := [.int .u8 1, .int .u8 0, .int .u8 0, .int .u8 0, .int .u8 0, .int .u8 0, .int .u8 0, .int .u8 0, .int .u8 0, .int .u8 0, .int .u8 0, .int .u8 0, .int .u8 0, .int .u8 0, .int .u8 0, .int .u8 0, x]) (by simpa [Value.oneCell'] using h)
  have CN := tnew_any hlen w
  simp only [hsv, htv] at CN
  have CN := Lib.hid CN
  have CP := fun (W : World) (hW : Below w.heap.size w W) (u1 u2 : Value) (h1 : BytesAt AllB W u1 [107]) (h2 : BytesAt AllB W u2 [118]) =>
    tput_trie (ok := AllB) (okb := AllB) (mb := none) (s := sd) (m := []) (p := ([107], [118])) (o := none) (nv := .nilIface) (u1 := u1) (u2 := u2) (mv := .pointer none) (c := (0, 0)) (w := W) hlen mapOk_nil rfl rfl h1 h2 ⟨by decide, by decide⟩ rfl (fun k _ e => by cases e) (fun k _ e => by cases e) (by simp) (fun _ _ => trivial) (hT.below hT.pos hW) (hS.below hS.pos hW) ⟨by decide, by decide⟩
  have hgn : (Bw.get [] ([107] : Bw.Bytes)).isSome = false := rfl
  simp only [htv, hgn, Bool.not_false] at CP
  have CP := Lib.hid CP
  have hm1 : MapOk (Bw.put [] ([107], [118])) := ⟨Bw.rises_put List.Pairwise.nil _, by decide, by decide⟩
  have CG := fun (W : World) (hW : Below w.heap.size w W) (o : Option Bw.N) (nv u1 : Value) (hn : ONodeAt nt AllB W nv o) (hL : Bw.OLays 0 o (Bw.ents (Bw.sipHash sd) (Bw.put [] ([107], [118])))) (h1 : BytesAt AllB W u1 [107]) =>
    tget_trie (ok := AllB) (okb := AllB) (mb := none) (s := sd) (m := Bw.put [] ([107], [118])) (key := [107]) (o := o) (nv := nv) (kv := u1) (mv := .pointer none) (c := (0, 0)) (w := W) hlen hm1 hn hL h1 (by decide) rfl (fun k _ e => by cases e) (fun k _ e => by cases e) (hS.below hS.pos hW) ⟨by decide, by decide⟩
  have hgs : Bw.get (Bw.put [] ([107], [118])) ([107] : Bw.Bytes) = some [118] := by decide
  simp only [htv, hgs] at CG
  have CG := Lib.hid CG
  have CL := fun (W : World) (nv : Value) (o : Option Bw.N) (hn : ONodeAt nt AllB W nv o) => tlen_any (s := sd) hlen hn
  simp only [htv] at CL
  have CL := Lib.hid CL
  have CS := fun (W : World) (nv : Value) => tseed_any (nv := nv) hlen W
  simp only [hsv, htv] at CS
  have CS := Lib.hid CS
  have HBR := Lib.hid brow; have CONV := Lib.hid conv
  have HM : Hid (∀ o, Bw.OLays 0 o (Bw.ents (Bw.sipHash sd) (Bw.put [] ([107], [118]))) -> manyO o = 1) := Lib.hid fun o ho => (ents_many hm1 ho).trans rfl
  clear conv brow hT hS hgn hgs hm1 hsv htv hlen hsd
  go_enter Tryz.func8, Tryz.ntmps8
  go_wp2_with (first
    | (go_at_call 9; (with_reducible refine CN.out.mono ?_); rintro e w1 ⟨rfl, hb1⟩
       obtain ⟨W2, hW2⟩ : ∃ W2, w1.alloc (.cells #[.int .u8 107] 5 (1, 2)) = W2 := ⟨_, rfl⟩
       have kc := CONV.out w1 107
       have hr2 := HBR.out w1 107
       rw [hW2] at kc
       rw [show ((107 : UInt8).toNat : Int) = 107 from rfl, hW2] at hr2
       have hb2 : Below w1.heap.size w1 W2 := by rw [<- hW2]; exact (Below.refl _ _).alloc (Nat.le_refl _) _
       obtain ⟨W3, hW3⟩ : ∃ W3, W2.alloc (.cells #[.int .u8 118] 5 (1, 2)) = W3 := ⟨_, rfl⟩
       have kd := CONV.out W2 118
       have hr3 := HBR.out W2 118
       rw [hW3] at kd
       rw [show ((118 : UInt8).toNat : Int) = 118 from rfl, hW3] at hr3
       have hb3 : Below W2.heap.size W2 W3 := by rw [<- hW3]; exact (Below.refl _ _).alloc (Nat.le_refl _) _
       have hw3 : Below w.heap.size w W3 := (hb1.trans (hb2.mono hb1.size)).trans (hb3.mono (Nat.le_trans hb1.size hb2.size))
       have CP3 := Lib.hid (CP.out W3 hw3 _ _ ((hr2.move (ok' := AllB) goodByte (Moves.weaken fun _ _ _ => trivial)).move (ok' := AllB) goodByte (Moves.below hb3)) (hr3.move (ok' := AllB) goodByte (Moves.weaken fun _ _ _ => trivial)))
       have HW3 := Lib.hid hw3
       clear hW2 hW3 hr2 hr3 hb1 hb2 hb3 hw3)
    | (go_at_call 19; (with_reducible refine CP3.out.mono ?_); rintro e w4 ⟨v4, n4, rfl, hn4, hl4, _, ht4⟩
       have hone4 := one_node (ok := AllB) (w := w4) (v := v4) (o := some n4) hn4
       have hth := there_of (W := w4.alloc (.cells #[.int .u8 0, .int .u8 0, .int .u8 0, .int .u8 0, .int .u8 0, .int .u8 0, .int .u8 0, .int .u8 0, .int .u8 0, .int .u8 0, .int .u8 0, .int .u8 0, .int .u8 0, .int .u8 0, .int .u8 0, .int .u8 0, .nilIface] 30)) (b := w4.heap.size) (n := 17) (heap_alloc_new w4 _) rfl
       obtain ⟨WS, hWS⟩ : ∃ WS, (w4.alloc (.cells #[.int .u8 0, .int .u8 0, .int .u8 0, .int .u8 0, .int .u8 0, .int .u8 0, .int .u8 0, .int .u8 0, .int .u8 0, .int .u8 0, .int .u8 0, .int .u8 0, .int .u8 0, .int .u8 0, .int .u8 0, .int .u8 0, .nilIface] 30)).setCells w4.heap.size 0 [.int .u8 1, .int .u8 0, .int .u8 0, .int .u8 0, .int .u8 0, .int .u8 0, .int .u8 0, .int .u8 0, .int .u8 0, .int .u8 0, .int .u8 0, .int .u8 0, .int .u8 0, .int .u8 0, .int .u8 0, .int .u8 0, v4] = WS := ⟨_, rfl⟩
       have hrS : WS.rangeAt w4.heap.size 0 [.int .u8 1, .int .u8 0, .int .u8 0, .int .u8 0, .int .u8 0, .int .u8 0, .int .u8 0, .int .u8 0, .int .u8 0, .int .u8 0, .int .u8 0, .int .u8 0, .int .u8 0, .int .u8 0, .int .u8 0, .int .u8 0, v4] := by rw [<- hWS]; exact World.rangeAt_setCells_same _ _ _ _ hth
       have hbS : Below w4.heap.size w4 WS := by rw [<- hWS]; exact World.below_setCells (Nat.le_refl _) _ _ _ (by exact gB3)
       have HWS := Lib.hid hWS; have HTH := Lib.hid hth
       obtain ⟨W5, hW5⟩ : ∃ W5, WS.alloc (.cells #[.int .u8 107] 5 (1, 2)) = W5 := ⟨_, rfl⟩
       have ke := CONV.out WS 107
       have hr5 := HBR.out WS 107
       rw [hW5] at ke
       rw [show ((107 : UInt8).toNat : Int) = 107 from rfl, hW5] at hr5
       have hb5 : Below WS.heap.size WS W5 := by rw [<- hW5]; exact (Below.refl _ _).alloc (Nat.le_refl _) _
       have hw4 : Below w.heap.size w w4 := HW3.out.trans (ht4.below.mono HW3.out.size)
       have hbS5 : Below w4.heap.size w4 W5 := hbS.trans (hb5.mono hbS.size)
       have hw5 : Below w.heap.size w W5 := hw4.trans (hbS5.mono hw4.size)
       have hn5 : ONodeAt nt AllB W5 v4 (some n4) := NodeAt.move (ok := AllB) (ok' := AllB) (Moves.below hbS5) _ _ hn4
       have CG5 := Lib.hid (CG.out W5 hw5 (some n4) v4 _ hn5 hl4 (hr5.move (ok' := AllB) goodByte (Moves.weaken fun _ _ _ => trivial)))
       have hltS : w4.heap.size < WS.heap.size := World.block_lt_of_cell? WS _ (hrS 0 _ rfl)
       have HR5 : Hid (∀ W, Below W5.heap.size W5 W -> W.rangeAt w4.heap.size 0 [.int .u8 1, .int .u8 0, .int .u8 0, .int .u8 0, .int .u8 0, .int .u8 0, .int .u8 0, .int .u8 0, .int .u8 0, .int .u8 0, .int .u8 0, .int .u8 0, .int .u8 0, .int .u8 0, .int .u8 0, .int .u8 0, v4]) := Lib.hid fun W hW j x hj => (World.cell?_of_block ((hb5.trans (hW.mono hb5.size)).block w4.heap.size hltS)).trans (hrS j x hj)
       have HN5 := Lib.hid hn5; have HRS := Lib.hid hrS; have HW5 := Lib.hid hw5
       have HM4 : Hid (manyO (some n4) = 1) := Lib.hid (HM.out _ hl4)
       clear hWS hth hrS hbS hW5 hr5 hb5 hw4 hbS5 hw5 hn5 hltS hn4 hl4 ht4)
    | (refine wpList_store_mid (P := Tryz.prog) rfl 30 (.tmp 1) (.tmp 14) rfl (w4.heap.size) 0 #[.int .u8 1, .int .u8 0, .int .u8 0, .int .u8 0, .int .u8 0, .int .u8 0, .int .u8 0, .int .u8 0, .int .u8 0, .int .u8 0, .int .u8 0, .int .u8 0, .int .u8 0, .int .u8 0, .int .u8 0, .int .u8 0, v4] rfl rfl HTH.out trie_size (sone hone4) ?_; simp only [HWS.out, Act.put])
    | (refine wpList_load_want (P := Tryz.prog) (by rfl) 30 (.tmp 1) rfl (w4.heap.size) 0 rfl [.int .u8 1, .int .u8 0, .int .u8 0, .int .u8 0, .int .u8 0, .int .u8 0, .int .u8 0, .int .u8 0, .int .u8 0, .int .u8 0, .int .u8 0, .int .u8 0, .int .u8 0, .int .u8 0, .int .u8 0, .int .u8 0, v4] _ HRS.out Tryz.underlying30 rfl slen ?_; simp only [Act.put, List.setIfInBounds_toArray, List.set_cons_zero, List.set_cons_succ])
    | (refine wpList_load_want (P := Tryz.prog) (by rfl) 30 (.tmp 1) rfl (w4.heap.size) 0 rfl [.int .u8 1, .int .u8 0, .int .u8 0, .int .u8 0, .int .u8 0, .int .u8 0, .int .u8 0, .int .u8 0, .int .u8 0, .int .u8 0, .int .u8 0, .int .u8 0, .int .u8 0, .int .u8 0, .int .u8 0, .int .u8 0, v4] _ (HR5.out _ hb6) Tryz.underlying30 rfl slen ?_; simp only [Act.put, List.setIfInBounds_toArray, List.set_cons_zero, List.set_cons_succ])
    | (refine wpList_load_want (P := Tryz.prog) (by rfl) 30 (.tmp 1) rfl (w4.heap.size) 0 rfl [.int .u8 1, .int .u8 0, .int .u8 0, .int .u8 0, .int .u8 0, .int .u8 0, .int .u8 0, .int .u8 0, .int .u8 0, .int .u8 0, .int .u8 0, .int .u8 0, .int .u8 0, .int .u8 0, .int .u8 0, .int .u8 0, v4] _ (HR5.out _ hb7) Tryz.underlying30 rfl slen ?_; simp only [Act.put, List.setIfInBounds_toArray, List.set_cons_zero, List.set_cons_succ])
    | (go_at_call 25; (with_reducible refine CG5.out.mono ?_); rintro e w6 ⟨u6, b6, rfl, ⟨rfl, hu6⟩, _, ht6⟩
       have hb6 : Below W5.heap.size W5 w6 := ht6.below
       obtain ⟨U6, cu6, rfl⟩ := hu6.form
       have HU6 := Lib.hid hu6
       have hn6 : ONodeAt nt AllB w6 v4 (some n4) := NodeAt.move (ok := AllB) (ok' := AllB) (Moves.below hb6) _ _ HN5.out
       have CL6 := CL.out w6 v4 (some n4) hn6
       rw [HM4.out] at CL6
       have CL6 := Lib.hid CL6
       clear hu6 ht6 hn6)
    | (go_at_call 11; (with_reducible refine CL6.out.mono ?_); rintro e w7 ⟨rfl, hb7'⟩
       have hb7 : Below W5.heap.size W5 w7 := hb6.trans (hb7'.mono hb6.size)
       have qc : (convert 33 9 (.slice U6 1 cu6)).run Tryz.prog w7 = .ok (.string ⟨#[118]⟩) w7 := run_conv (P := Tryz.prog) 33 9 5 Tryz.underlying33 Tryz.underlying5 Tryz.underlying9 (HU6.out.move (ok' := AllB) goodByte (fun k _ hk => ⟨trivial, hb7'.block k hk⟩))
       clear hb7')
    | (go_at_call 21; (with_reducible refine (CS.out _ v4).mono ?_); rintro e w8 ⟨rfl, hb8⟩; have e8 := eqS w8))
  go_ret
  exact ⟨rfl, HW5.out.trans ((hb7.trans (hb8.mono hb7.size)).mono HW5.out.size)⟩
end Go.Proofs.YtadaoceidkagfaaGreatDoor
