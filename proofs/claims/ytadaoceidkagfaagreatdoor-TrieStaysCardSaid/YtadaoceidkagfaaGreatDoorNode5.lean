
import Derived.Test.YtadaoceidkagfaaGreatDoorNodeA
import Derived.Deep.RegionLaw
namespace Go.Proofs.YtadaoceidkagfaaGreatDoor
open Go.RowKit Go.Bw
def countO : Option Bw.N -> Nat
  | none => 0
  | some n => n.count
def countOs (l : List (Option Bw.N)) : Nat := (l.map countO).sum
def BrRel (l : List (Option Bw.N)) (bx : Nat) (w1 : World) (u0 u1 : Value) (i : Value) (wr : World) : Prop :=
  ∃ k : Nat, k <= l.length /\ i = .int .i64 k /\ (∀ o ∈ l.take k, o.isSome) /\ wr.cell? ⟨bx, 0, none⟩ = some u0 /\ wr.cell? ⟨bx, 1, none⟩ = some u1 /\
    wr.cell? ⟨bx, 2, none⟩ = some (.int .i64 (countOs (l.take k) : Nat)) /\ wr.frozen? ⟨bx, 2, none⟩ = false /\ Below bx w1 wr
theorem method_leaf (a : Addr) (w : World) : (method 342 114 (.pointer (some a)) "Count").run Tryz.prog w = .ok (174, .pointer (some a)) w := by kernel_rfl
theorem method_bucket (a : Addr) (w : World) : (method 342 117 (.pointer (some a)) "Count").run Tryz.prog w = .ok (176, .pointer (some a)) w := by kernel_rfl
theorem method_branch (a : Addr) (w : World) : (method 342 122 (.pointer (some a)) "Count").run Tryz.prog w = .ok (178, .pointer (some a)) w := by kernel_rfl
theorem countOs_take (l : List (Option Bw.N)) (k : Nat) : countOs (l.take k) <= countOs l := by
  induction l generalizing k with
  | nil => simp [countOs]
  | cons a r ih =>
    cases k with
    | zero => simp [countOs]
    | succ k =>
      have := ih k
      simp only [countOs, List.take_succ_cons, List.map_cons, List.sum_cons] at this ⊢
      omega
theorem _root_.Bw.seqO_none {l : List (Option Bw.N)} (h : none ∈ l) : Bw.seqO l = none := by
  induction l with
  | nil => simp at h
  | cons a r ih =>
    cases a with
    | none => rfl
    | some k =>
      have h' : none ∈ r := by simpa using h
      simp [Bw.seqO, ih h']
theorem _root_.Bw.seqO_of_all {l : List (Option Bw.N)} (h : ∀ o ∈ l, o.isSome) : ∃ ks, Bw.seqO l = some ks := by
  induction l with
  | nil => exact ⟨[], rfl⟩
  | cons a r ih =>
    obtain ⟨ks, hk⟩ := ih (fun o ho => h o (List.mem_cons_of_mem _ ho))
    cases a with
    | none => have := h none (by simp); simp at this
    | some k => exact ⟨k :: ks, by simp [Bw.seqO, hk]⟩
theorem countOs_some (ks : List Bw.N) : countOs (ks.map some) = Bw.N.countL ks := by
  induction ks with
  | nil => simp [countOs, Bw.N.countL]
  | cons k r ih => simp only [countOs, List.map_cons, List.sum_cons, countO, Bw.N.countL] at ih ⊢; omega
set_option maxRecDepth 100000 in
set_option maxHeartbeats 4000000 in
theorem branch_any {ok : Nat -> Prop} {v : Value} {m : Nat} {l : List (Option Bw.N)} (w : World) (hv : NodesAt nt ok w v l) (hl : l.length <= 32) (hm : m < 4294967296) (hok : ∀ k, w.heap.size <= k -> ok k) (hc : countOs l <= 4611686018427387904) :
    Calls Tryz.prog 127 #[.int .u32 (m : Nat), v] w (Gives w fun r w' => ONodeAt nt ok w' r (Bw.branchO m l)) := by
  obtain ⟨A, c, rfl⟩ := hv.form
  by_cases h0 : l.length = 0
  · have HF := Lib.hid (show Bw.branchO m l = none by unfold Bw.branchO; rw [if_pos (.inl h0)])
    have h0 : (l.length : Int) = 0 := by omega
    clear hv hl hok
    go_enter Tryz.func127, Tryz.ntmps127
    go_wp2
    go_ret
    exact ⟨_, rfl, by rw [HF.out]; rfl, Below.refl _ _⟩
  · have h1 : ((l.length : Int) == 0) = false := beq_eq_false_iff_ne.2 (by omega)
    have CC := Lib.hid (fun (w : World) => count_any m w hm)
    by_cases h2 : l.length = (Bw.bitsOf m).length
    · have CL := Lib.hid (fun W (hW : Below w.heap.size w W) => cloneN W (hv.move (goodNode nt) (Moves.below hW)) (by omega) (fun k hk => hok k (Nat.le_trans hW.size hk)))
      have h3 : ((l.length : Int) == (((Bw.bitsOf m).length : Nat) : Int)) = true := by rw [beq_iff_eq]; omega
      have HF := Lib.hid (show Bw.branchO m l = (Bw.seqO l).map (Bw.N.branch m) by unfold Bw.branchO; rw [if_neg (by omega)])
      have HV := Lib.hid hv; have HC := Lib.hid hc; have HL := Lib.hid hl; have HOK := Lib.hid hok; have H2 := Lib.hid h2
      clear hv hc hl hok h0 h2
      go_enter Tryz.func127, Tryz.ntmps127
      go_wp2_with fail
      refine (CC.out _).mono ?_
      rintro e w1 ⟨rfl, n, rfl⟩
      go_wp2_with fail
      refine (CL.out _ (b_drewN (Below.refl _ _) _)).mono ?_
      rintro e w1 ⟨q, rfl, hown, hb1⟩
      obtain ⟨g, cap, rfl⟩ := hown.block (fun e => by subst e; simp at h1)
      have HOWN := Lib.hid hown
      have hbw : Below w.heap.size w w1 := Below.trans (b_drewN (Below.refl _ _) _) hb1
      have HB1 := Lib.hid hbw
      have hbx : Below w1.heap.size w1 (w1.alloc (.cells #[.int .u32 (m : Nat), .slice (some ⟨g, 0, none⟩) l.length cap, .int .i64 0] 126)) := by exact gB1
      have H0 : Hid (BrRel l w1.heap.size w1 (.int .u32 (m : Nat)) (.slice (some ⟨g, 0, none⟩) l.length cap) (.int .i64 0) (w1.alloc (.cells #[.int .u32 (m : Nat), .slice (some ⟨g, 0, none⟩) l.length cap, .int .i64 0] 126))) :=
        Lib.hid ⟨0, Nat.zero_le _, rfl, (by simp), cell_new w1 0 _ _ 0 _ rfl, cell_new w1 0 _ _ 1 _ rfl, cell_new w1 0 _ _ 2 _ rfl, by go_simp, hbx⟩
      clear hown hb1 hbx hbw
      go_wp2_with fail
      go_loopw [25] (BrRel l w1.heap.size w1 (.int .u32 (m : Nat)) (.slice (some ⟨g, 0, none⟩) l.length cap)) (fun i _ => l.length - (intOf i).toNat)
      case atStart => exact H0.out
      case round =>
        obtain ⟨k, hk, rfl, hall, c0, c1, c2, f2, hB⟩ := hrel
        by_cases hlt : k < l.length
        · obtain ⟨b, o, cs, rfl, ⟨vk, rfl, hvk⟩, hck⟩ := HV.out.get (List.getElem?_eq_getElem hlt)
          have d0 := (hck 0 vk rfl).2
          simp only [Nat.mul_one, Nat.add_zero] at d0
          have hbl := World.block_lt_of_cell? w _ d0
          dsimp only at hbl
          have hB0 : Below w.heap.size w wr := HB1.out.trans (hB.mono HB1.out.size)
          have e0 := (hB0.cell (p := ⟨b, o + k, none⟩) hbl).trans d0
          have hbl2 : b < wr.heap.size := Nat.lt_of_lt_of_le hbl hB0.size
          have h5 : (0 : Int) <= (k : Int) := by omega
          have h6 : (k : Int) < (l.length : Int) := by omega
          have HB := Lib.hid hB
          have HALL := Lib.hid hall
          clear hall d0 hB hck
          cases hkk : l[k] with
          | none =>
            rw [hkk] at hvk
            simp only [ONodeAt] at hvk
            subst hvk
            have HK := Lib.hid hkk
            clear hkk
            have he := fun (W : World) => (show (binOp .eql 28 .nilIface .nilIface).run Tryz.prog W = .ok (.bool true) W by rfl)
            go_wp2_with fail
            go_ret
            exact ⟨_, rfl, by rw [HF.out, Bw.seqO_none (HK.out ▸ List.getElem_mem hlt)]; rfl, HB1.out.trans (HB.out.mono HB1.out.size)⟩
          | some n =>
            rw [hkk] at hvk
            simp only [ONodeAt] at hvk
            have hcnt : countOs (l.take (k + 1)) = countOs (l.take k) + n.count := by
              rw [take_succ_snoc hlt, hkk]; simp [countOs, countO]
            have hle : countOs (l.take (k + 1)) <= 4611686018427387904 := Nat.le_trans (countOs_take l (k + 1)) HC.out
            have hs : IntKind.i64.wrap ((countOs (l.take k) : Nat) + (n.count : Nat)) = ((countOs (l.take (k + 1)) : Nat) : Int) := by rw [IntKind.wrap_i64]; omega
            have HK := Lib.hid hkk
            have HS := Lib.hid hs
            have HALL2 : Hid (∀ o ∈ l.take (k + 1), o.isSome) := Lib.hid fun x hx => by
              rw [take_succ_snoc hlt, List.mem_append] at hx
              rcases hx with hx | hx
              · exact HALL.out x hx
              · simp only [List.mem_singleton] at hx; subst hx; rw [HK.out]; rfl
            obtain ⟨s1, hs1⟩ : ∃ s1, countOs (l.take (k + 1)) = s1 := ⟨_, rfl⟩
            have HS1 := Lib.hid hs1
            rw [hs1] at HS
            clear hcnt hle hs hkk hs1
            cases n with
            | leaf h p =>
              simp only [NodeAt] at hvk
              obtain ⟨b2, _, _, rfl, _⟩ := hvk
              have hmth := method_leaf ⟨b2, 0, none⟩
              have hs : IntKind.i64.wrap (((countOs (l.take k) : Nat) : Int) + 1) = (s1 : Int) := by have := HS.out; simp only [Bw.N.count] at this; exact this
              have HB0 := Lib.hid hB0
              have h9 : w1.heap.size < wr.heap.size := (World.block_lt_of_cell? wr _ c0)
              clear hB0
              go_wp2_with fail
              go_region_law
                ((first
                  | (go_simp; go_at_call 174; (with_reducible refine (count_leaf _ _).mono ?_); rintro e w2 ⟨rfl, rfl⟩)
                  | (go_simp; go_at_call 176; (with_reducible refine (CT.out _ (HB0.out.trans (Below.mono (by exact gB1) HB0.out.size))).mono ?_); rintro e w2 ⟨rfl, rfl⟩)
                  | (go_simp; go_at_call 178; (with_reducible refine (CT.out _ (HB0.out.trans (Below.mono (by exact gB1) HB0.out.size))).mono ?_); rintro e w2 ⟨rfl, rfl⟩)))
              all_goals go_wp2
              all_goals refine ⟨⟨k + 1, hlt, int_succ hlt (Nat.le_trans HL.out (by decide)), HALL2.out, by go_simp, by go_simp, by rw [HS1.out]; go_simp, by go_simp, (HB.out.setCell (by simp) _).drew⟩, less_succ hlt (Nat.le_trans HL.out (by decide))⟩
            | bucket h t =>
              simp only [NodeAt] at hvk
              obtain ⟨b2, tv, rfl, _, c3, ht⟩ := hvk
              have hmth := method_bucket ⟨b2, 0, none⟩
              have hs : IntKind.i64.wrap (((countOs (l.take k) : Nat) : Int) + (t.size : Int)) = (s1 : Int) := by have := HS.out; simp only [Bw.N.count] at this; exact this
              have CT := Lib.hid (fun W (hW : Below w.heap.size w W) => count_bucket b2 W ((hW.cell (p := ⟨b2, 1, none⟩) (World.block_lt_of_cell? w _ c3.2)).trans c3.2) (ht.move (Moves.below hW)))
              clear c3 ht
              have HB0 := Lib.hid hB0
              have h9 : w1.heap.size < wr.heap.size := (World.block_lt_of_cell? wr _ c0)
              clear hB0
              go_wp2_with fail
              go_region_law
                ((first
                  | (go_simp; go_at_call 174; (with_reducible refine (count_leaf _ _).mono ?_); rintro e w2 ⟨rfl, rfl⟩)
                  | (go_simp; go_at_call 176; (with_reducible refine (CT.out _ (HB0.out.trans (Below.mono (by exact gB1) HB0.out.size))).mono ?_); rintro e w2 ⟨rfl, rfl⟩)
                  | (go_simp; go_at_call 178; (with_reducible refine (CT.out _ (HB0.out.trans (Below.mono (by exact gB1) HB0.out.size))).mono ?_); rintro e w2 ⟨rfl, rfl⟩)))
              all_goals go_wp2
              all_goals refine ⟨⟨k + 1, hlt, int_succ hlt (Nat.le_trans HL.out (by decide)), HALL2.out, by go_simp, by go_simp, by rw [HS1.out]; go_simp, by go_simp, (HB.out.setCell (by simp) _).drew⟩, less_succ hlt (Nat.le_trans HL.out (by decide))⟩
            | branch m2 kids =>
              simp only [NodeAt] at hvk
              obtain ⟨b2, _, _, _, rfl, _, _, c3, _⟩ := hvk
              have hmth := method_branch ⟨b2, 0, none⟩
              have hs : IntKind.i64.wrap (((countOs (l.take k) : Nat) : Int) + ((Bw.N.countL kids : Nat) : Int)) = (s1 : Int) := by have := HS.out; simp only [Bw.N.count] at this; exact this
              have CT := Lib.hid (fun W (hW : Below w.heap.size w W) => count_branch b2 _ W ((hW.cell (p := ⟨b2, 2, none⟩) (World.block_lt_of_cell? w _ c3.2)).trans c3.2))
              clear c3
              have HB0 := Lib.hid hB0
              have h9 : w1.heap.size < wr.heap.size := (World.block_lt_of_cell? wr _ c0)
              clear hB0
              go_wp2_with fail
              go_region_law
                ((first
                  | (go_simp; go_at_call 174; (with_reducible refine (count_leaf _ _).mono ?_); rintro e w2 ⟨rfl, rfl⟩)
                  | (go_simp; go_at_call 176; (with_reducible refine (CT.out _ (HB0.out.trans (Below.mono (by exact gB1) HB0.out.size))).mono ?_); rintro e w2 ⟨rfl, rfl⟩)
                  | (go_simp; go_at_call 178; (with_reducible refine (CT.out _ (HB0.out.trans (Below.mono (by exact gB1) HB0.out.size))).mono ?_); rintro e w2 ⟨rfl, rfl⟩)))
              all_goals go_wp2
              all_goals refine ⟨⟨k + 1, hlt, int_succ hlt (Nat.le_trans HL.out (by decide)), HALL2.out, by go_simp, by go_simp, by rw [HS1.out]; go_simp, by go_simp, (HB.out.setCell (by simp) _).drew⟩, less_succ hlt (Nat.le_trans HL.out (by decide))⟩
        · have hkl : k = l.length := by omega
          subst hkl
          rw [List.take_length] at hall c2
          obtain ⟨ks, hks⟩ := Bw.seqO_of_all hall
          have hl2 := Bw.seqO_some hks
          have HBF := Lib.hid (HB1.out.trans (hB.mono HB1.out.size))
          have hrow := (HOWN.out.move (goodNode nt) (Moves.below hB)).row (goodNode nt)
          have HROW := Lib.hid hrow
          have HC2 := Lib.hid c2; have HC0 := Lib.hid c0; have HC1 := Lib.hid c1
          have HKS := Lib.hid hks; have HL2 := Lib.hid hl2
          clear hrow hks hl2 hall hB
          go_wp2
          go_ret
          refine ⟨_, rfl, ?_, HBF.out⟩
          rw [HF.out, HKS.out]
          have hok1 : ok w1.heap.size := HOK.out _ HB1.out.size
          obtain rfl := HL2.out
          have e1 := HC1.out; have e2 := HC2.out
          have hcap := HROW.out.cap
          rw [countOs_some] at e2
          simp only [List.length_map] at e1 hcap
          simp only [Option.map, ONodeAt, NodeAt]
          refine ⟨w1.heap.size, g, 0, cap, rfl, ⟨hok1, HC0.out⟩, ⟨hok1, e1⟩, ⟨hok1, e2⟩, hcap.2.1, hcap.2.2, kids_of_row fun j x hj => ?_⟩
          obtain ⟨b', o', cs, he, hx, hc⟩ := HROW.out.get hj
          cases he
          exact ⟨cs, hx, hc⟩
    · have HF := Lib.hid (show Bw.branchO m l = none by unfold Bw.branchO; rw [if_pos (.inr h2)])
      have h3 : ((l.length : Int) == (((Bw.bitsOf m).length : Nat) : Int)) = false := beq_eq_false_iff_ne.2 (by omega)
      clear hv hl hok h0 h2
      go_enter Tryz.func127, Tryz.ntmps127
      go_wp2_with fail
      refine (CC.out _).mono ?_
      rintro e w1 ⟨rfl, n, rfl⟩
      go_wp2
      go_ret
      exact ⟨_, rfl, by rw [HF.out]; rfl, b_drewN (Below.refl _ _) _⟩
end Go.Proofs.YtadaoceidkagfaaGreatDoor
