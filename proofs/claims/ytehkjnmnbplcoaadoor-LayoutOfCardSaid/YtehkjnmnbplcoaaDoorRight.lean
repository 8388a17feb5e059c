
import Derived.Test.YtehkjnmnbplcoaaDoorUnder
import Derived.Test.YtehkjnmnbplcoaaDoorRangeA
import Derived.Test.YtehkjnmnbplcoaaDoorNodeC
namespace Go.Proofs.YtehkjnmnbplcoaaDoor
open Go.RowKit Go.Bw

theorem _root_.Bw.N.rightL_append (level : Nat) (cs : List Nat) (a b : List Bw.N) : Bw.N.rightL level cs (a ++ b) = (Bw.N.rightL level cs a && Bw.N.rightL level (cs.drop a.length) b) := by
  induction a generalizing cs with
  | nil => simp [Bw.N.rightL]
  | cons k r ih => simp [Bw.N.rightL, ih, Bool.and_assoc, List.drop_tail]

mutual
def _root_.Bw.N.m32 : Bw.N → Prop
  | .leaf .. => True
  | .bucket .. => True
  | .branch m kids => m < 4294967296 ∧ Bw.N.m32L kids
def _root_.Bw.N.m32L : List Bw.N → Prop
  | [] => True
  | k :: r => k.m32 ∧ Bw.N.m32L r
end
theorem _root_.Bw.N.m32L_mem {l : List Bw.N} (h : Bw.N.m32L l) : ∀ k ∈ l, k.m32 := by
  induction l with
  | nil => intro k hk; simp at hk
  | cons a r ih =>
    simp only [Bw.N.m32L] at h
    intro k hk
    rcases List.mem_cons.1 hk with rfl | hk
    · exact h.1
    · exact ih h.2 k hk

def RightRel (level m : Nat) (kids : List Bw.N) (w : World) (i : Value) (wr : World) : Prop :=
  ∃ j : Nat, j ≤ kids.length ∧ i = .int .i64 (j : Nat) ∧ Bw.N.rightL level (Bw.bitsOf m) (kids.take j) = true ∧ Below w.heap.size w wr

/-- what Right answers of a node, for this node -/
def RightAns (ok : Nat → Prop) (n : Bw.N) : Prop := ∀ level, level ≤ 13 → ∀ (v : Value) (w : World), NodeAt nt ok w v n → n.wf → n.m32 → (∀ h ∈ n.abs.hashes, h < 18446744073709551616) → Tab w →
    Calls Tryd.prog 34 #[v, .int .i64 (level : Nat)] w fun e w' => e = .returned (.bool (n.right level)) ∧ Below w.heap.size w w'

set_option maxRecDepth 100000 in
set_option maxHeartbeats 1000000 in
theorem right_leaf (ok : Nat → Prop) (h : Nat) (p : Bw.PV) : RightAns ok (.leaf h p) := by
  intro level hl v w hn _ _ _ _
  simp only [NodeAt] at hn
  obtain ⟨b, u1, u2, rfl, _⟩ := hn
  have t := @ta_lr
  have h1 : (0 : Int) ≤ (level : Int) := by omega
  have h2 : (level : Int) ≤ 13 := by omega
  simp only [Bw.N.right]
  go_enter Tryd.func34, Tryd.ntmps34
  go_wp2
  go_ret
  exact ⟨rfl, Below.refl _ _⟩

set_option maxRecDepth 100000 in
set_option maxHeartbeats 1000000 in
theorem right_bucket (ok : Nat → Prop) (h : Nat) (p : Bw.T) : RightAns ok (.bucket h p) := by
  intro level hl v w hn _ _ _ _
  simp only [NodeAt] at hn
  obtain ⟨b, u1, rfl, _⟩ := hn
  have t := @ta_br
  have h1 : (0 : Int) ≤ (level : Int) := by omega
  have h2 : (level : Int) ≤ 13 := by omega
  simp only [Bw.N.right]
  go_enter Tryd.func34, Tryd.ntmps34
  go_wp2
  go_ret
  exact ⟨rfl, Below.refl _ _⟩

set_option maxRecDepth 100000 in
set_option maxHeartbeats 2000000 in
theorem right_branch (ok : Nat → Prop) (m : Nat) (kids : List Bw.N) (ih : ∀ k ∈ kids, RightAns ok k) : RightAns ok (.branch m kids) := by
  intro level hl v w hn hwf hm32 hh hT
  simp only [NodeAt] at hn
  obtain ⟨b, g, o, cap, rfl, ⟨_, c0⟩, ⟨_, c1⟩, _, hcap, hmax, hk⟩ := hn
  simp only [Bw.N.wf] at hwf
  simp only [Bw.N.m32] at hm32
  have HLEN := Lib.hid hwf.2.1
  have HWF := Lib.hid ((Bw.N.wfL_iff _).1 hwf.2.2)
  have HM2 := Lib.hid (Bw.N.m32L_mem hm32.2)
  have HM := Lib.hid hm32.1
  have HK := Lib.hid hk
  have HMX : Hid (kids.length ≤ maxLen) := Lib.hid (Nat.le_trans hcap hmax)
  have HIH := Lib.hid ih
  have HH := Lib.hid hh
  have HT := Lib.hid hT
  have t9 := @ta_rr
  simp only [Bw.N.right]
  have h1 : (0 : Int) ≤ (level : Int) := by omega
  have h2 : (level : Int) ≤ 13 := by omega
  have hpos : 0 < kids.length := List.length_pos_iff.2 hwf.1
  clear hk ih hh hcap hmax hwf hm32 hT
  by_cases h13 : level = 13
  · subst h13
    go_enter Tryd.func34, Tryd.ntmps34
    go_wp2
    go_ret
    exact ⟨rfl, Below.refl _ _⟩
  have h3 : ((level : Int) == 13) = false := by rw [beq_eq_false_iff_ne]; omega
  have h3n : (level == 13) = false := by rw [beq_eq_false_iff_ne]; omega
  rw [h3n, Bool.not_false, Bool.true_and]
  by_cases hone : kids.length = 1
  · have h4 : (kids.length : Int) = 1 := by omega
    have h4n : (kids.length == 1) = true := by rw [beq_iff_eq]; omega
    rw [h4n, Bool.true_and]
    obtain ⟨cs, ⟨vk, rfl, hvk⟩, hck⟩ := row_of_kids HK.out 0 (some kids[0]) (by rw [List.getElem?_map, List.getElem?_eq_getElem hpos]; rfl)
    have e00 : w.cell? ⟨g, o, none⟩ = some vk := by have := (hck 0 vk rfl).2; simpa using this
    simp only [ONodeAt] at hvk
    have hany : Bw.N.anyBranch kids = (kids[0]).isBranch := by
      match kids, hone with
      | [k], _ => simp [Bw.N.anyBranch]
    rw [hany]
    clear hany hck
    cases hk0 : kids[0] with
    | leaf hh0 p0 =>
      rw [hk0] at hvk
      simp only [NodeAt] at hvk
      obtain ⟨b0, u1, u2, rfl, _⟩ := hvk
      clear hk0
      have hm := kindm_leaf
      simp only [Bw.N.isBranch, Bool.not_false, Bool.not_true, Bool.false_and]
      go_enter Tryd.func34, Tryd.ntmps34
      go_wp2_with (go_at_call 161; refine (kind_leaf _ _).mono ?_; rintro e w' ⟨rfl, rfl⟩)
      go_ret
      exact ⟨rfl, Below.refl _ _⟩
    | bucket hh0 t0 =>
      rw [hk0] at hvk
      simp only [NodeAt] at hvk
      obtain ⟨b0, u1, rfl, _⟩ := hvk
      clear hk0
      have hm := kindm_bucket
      simp only [Bw.N.isBranch, Bool.not_false, Bool.not_true, Bool.false_and]
      go_enter Tryd.func34, Tryd.ntmps34
      go_wp2_with (go_at_call 163; refine (kind_bucket _ _).mono ?_; rintro e w' ⟨rfl, rfl⟩)
      go_ret
      exact ⟨rfl, Below.refl _ _⟩
    | branch m0 kids0 =>
      rw [hk0] at hvk
      simp only [NodeAt] at hvk
      obtain ⟨b0, g0, o0, cap0, rfl, _⟩ := hvk
      clear hk0
      have hm := kindm_branch
      simp only [Bw.N.isBranch, Bool.not_false, Bool.not_true, Bool.true_and]
      go_enter Tryd.func34, Tryd.ntmps34
      go_wp2_with (go_at_call 159; refine (kind_branch _ _).mono ?_; rintro e w' ⟨rfl, rfl⟩)
      clear e00
      have H0 : Hid (RightRel level m kids w (.int .i64 0) w) := Lib.hid ⟨0, Nat.zero_le _, rfl, by simp [Bw.N.rightL], Below.refl _ _⟩
      go_loopw [53] (RightRel level m kids w) (fun i _ => kids.length - (intOf i).toNat)
      case atStart => exact H0.out
      case round =>
        obtain ⟨j, hj, rfl, hpre, hB⟩ := hrel
        by_cases hlt : j < kids.length
        · obtain ⟨cs, ⟨vk, rfl, hvk⟩, hck⟩ := row_of_kids HK.out j (some kids[j]) (by rw [List.getElem?_map, List.getElem?_eq_getElem hlt]; rfl)
          have d0 := (hck 0 vk rfl).2
          simp only [Nat.mul_one, Nat.add_zero] at d0
          have hbl := World.block_lt_of_cell? w _ d0
          dsimp only at hbl
          simp only [ONodeAt] at hvk
          have e0 := (hB.cell (p := ⟨g, o + j, none⟩) hbl).trans d0
          have f0 := (hB.cell (p := ⟨b, 0, none⟩) (World.block_lt_of_cell? w _ c0)).trans c0
          have hmem : kids[j] ∈ kids := List.getElem_mem hlt
          obtain ⟨c, hc⟩ : ∃ c, (Bw.bitsOf m)[j]? = some c := ⟨_, List.getElem?_eq_getElem (by have := HLEN.out; omega)⟩
          have HVK := fun W (hW : Below w.heap.size w W) => NodeAt.move (ok' := ok) (Moves.below hW) _ _ hvk
          have CN := Lib.hid (nth_any m j c HM.out hc wr (HT.out.below HT.out.pos hB))
          have CI := Lib.hid (fun W (hW : Below w.heap.size w W) => HIH.out kids[j] hmem (level + 1) (by omega) vk W (HVK W hW) (HWF.out _ hmem) (HM2.out _ hmem) (fun h hh => HH.out h (Bw.hashes_kid hmem hh)) (HT.out.below HT.out.pos hW))
          have CU := Lib.hid (fun W (hW : Below w.heap.size w W) => under_any level c (by omega) kids[j] vk W (HVK W hW) (fun h hh => HH.out h (Bw.hashes_kid hmem hh)))
          have hs : Bw.N.rightL level (Bw.bitsOf m) (kids.take (j + 1)) = (kids[j].right (level + 1) && kids[j].under level c) := by
            rw [take_succ_snoc hlt, Bw.N.rightL_append, hpre]
            have : (Bw.bitsOf m).drop (kids.take j).length = c :: (Bw.bitsOf m).drop (j + 1) := by
              obtain ⟨h1, h2⟩ := List.getElem?_eq_some_iff.1 hc
              rw [List.length_take, Nat.min_eq_left hj, List.drop_eq_getElem_cons h1, h2]
            rw [this]
            simp [Bw.N.rightL]
          have hfull : (kids[j].right (level + 1) && kids[j].under level c) = false → Bw.N.rightL level (Bw.bitsOf m) kids = false := by
            intro e
            have h1 : kids = kids.take (j + 1) ++ kids.drop (j + 1) := (List.take_append_drop _ _).symm
            rw [h1, Bw.N.rightL_append, hs, e]; rfl
          obtain ⟨t0, b0, rfl⟩ := hvk.form
          have h0 : (0 : Int) ≤ (j : Int) := by omega
          have h1 : (j : Int) < (kids.length : Int) := by omega
          have HB := Lib.hid hB
          have HS := Lib.hid hs
          have HF := Lib.hid hfull
          have hlw : Hid (((level : Nat) : Int) + 1 = ((level + 1 : Nat) : Int)) := Lib.hid (by omega)
          clear hpre hvk d0 hck hB hs hfull hmem HVK hc
          generalize kids[j].under level c = u2 at *
          generalize kids[j].right (level + 1) = u1 at *
          go_wp2_with (go_at_call 67; refine CN.out.mono ?_; rintro e w1 ⟨rfl, hb1⟩)
          rw [hlw.out]
          have hB1 : Below w.heap.size w w1 := HB.out.trans (hb1.mono HB.out.size)
          have HB1 := Lib.hid hB1
          refine (CI.out w1 hB1).mono ?_
          rintro e w2 ⟨rfl, hb2⟩
          have hB2 : Below w.heap.size w w2 := hB1.trans (hb2.mono hB1.size)
          have CU2 := Lib.hid (CU.out w2 hB2)
          have HB2 := Lib.hid hB2
          clear hb1 hb2 hB1 hB2
          cases u1 with
          | false =>
            go_wp2
            go_ret
            exact ⟨by rw [HF.out (by trivial)]; rfl, HB2.out⟩
          | true =>
            cases u2 with
            | false =>
              go_wp2_with (go_at_call 68; refine CU2.out.mono ?_; rintro e w3 ⟨rfl, hb3⟩)
              go_ret
              exact ⟨by rw [HF.out (by trivial)]; rfl, HB2.out.trans (hb3.mono HB2.out.size)⟩
            | true =>
              go_wp2_with (go_at_call 68; refine CU2.out.mono ?_; rintro e w3 ⟨rfl, hb3⟩)
              exact ⟨⟨j + 1, hlt, by first | exact int_succM hlt HMX.out | rfl, HS.out, HB2.out.trans (hb3.mono HB2.out.size)⟩, by first | exact less_succM hlt HMX.out | (simp only [intOf]; omega)⟩
        · obtain rfl : j = kids.length := by omega
          rw [List.take_length] at hpre
          have HP := Lib.hid hpre
          clear hpre
          go_wp2
          go_ret
          exact ⟨by rw [HP.out]; rfl, hB⟩
  · have h4 : ((kids.length : Int) == 1) = false := by rw [beq_eq_false_iff_ne]; omega
    have h4n : (kids.length == 1) = false := by rw [beq_eq_false_iff_ne]; omega
    rw [h4n, Bool.false_and, Bool.not_false, Bool.true_and]
    go_enter Tryd.func34, Tryd.ntmps34
    go_wp2_with fail
    have H0 : Hid (RightRel level m kids w (.int .i64 0) w) := Lib.hid ⟨0, Nat.zero_le _, rfl, by simp [Bw.N.rightL], Below.refl _ _⟩
    go_loopw [53] (RightRel level m kids w) (fun i _ => kids.length - (intOf i).toNat)
    case atStart => exact H0.out
    case round =>
      obtain ⟨j, hj, rfl, hpre, hB⟩ := hrel
      by_cases hlt : j < kids.length
      · obtain ⟨cs, ⟨vk, rfl, hvk⟩, hck⟩ := row_of_kids HK.out j (some kids[j]) (by rw [List.getElem?_map, List.getElem?_eq_getElem hlt]; rfl)
        have d0 := (hck 0 vk rfl).2
        simp only [Nat.mul_one, Nat.add_zero] at d0
        have hbl := World.block_lt_of_cell? w _ d0
        dsimp only at hbl
        simp only [ONodeAt] at hvk
        have e0 := (hB.cell (p := ⟨g, o + j, none⟩) hbl).trans d0
        have f0 := (hB.cell (p := ⟨b, 0, none⟩) (World.block_lt_of_cell? w _ c0)).trans c0
        have hmem : kids[j] ∈ kids := List.getElem_mem hlt
        obtain ⟨c, hc⟩ : ∃ c, (Bw.bitsOf m)[j]? = some c := ⟨_, List.getElem?_eq_getElem (by have := HLEN.out; omega)⟩
        have HVK := fun W (hW : Below w.heap.size w W) => NodeAt.move (ok' := ok) (Moves.below hW) _ _ hvk
        have CN := Lib.hid (nth_any m j c HM.out hc wr (HT.out.below HT.out.pos hB))
        have CI := Lib.hid (fun W (hW : Below w.heap.size w W) => HIH.out kids[j] hmem (level + 1) (by omega) vk W (HVK W hW) (HWF.out _ hmem) (HM2.out _ hmem) (fun h hh => HH.out h (Bw.hashes_kid hmem hh)) (HT.out.below HT.out.pos hW))
        have CU := Lib.hid (fun W (hW : Below w.heap.size w W) => under_any level c (by omega) kids[j] vk W (HVK W hW) (fun h hh => HH.out h (Bw.hashes_kid hmem hh)))
        have hs : Bw.N.rightL level (Bw.bitsOf m) (kids.take (j + 1)) = (kids[j].right (level + 1) && kids[j].under level c) := by
          rw [take_succ_snoc hlt, Bw.N.rightL_append, hpre]
          have : (Bw.bitsOf m).drop (kids.take j).length = c :: (Bw.bitsOf m).drop (j + 1) := by
            obtain ⟨h1, h2⟩ := List.getElem?_eq_some_iff.1 hc
            rw [List.length_take, Nat.min_eq_left hj, List.drop_eq_getElem_cons h1, h2]
          rw [this]
          simp [Bw.N.rightL]
        have hfull : (kids[j].right (level + 1) && kids[j].under level c) = false → Bw.N.rightL level (Bw.bitsOf m) kids = false := by
          intro e
          have h1 : kids = kids.take (j + 1) ++ kids.drop (j + 1) := (List.take_append_drop _ _).symm
          rw [h1, Bw.N.rightL_append, hs, e]; rfl
        obtain ⟨t0, b0, rfl⟩ := hvk.form
        have h0 : (0 : Int) ≤ (j : Int) := by omega
        have h1 : (j : Int) < (kids.length : Int) := by omega
        have HB := Lib.hid hB
        have HS := Lib.hid hs
        have HF := Lib.hid hfull
        have hlw : Hid (((level : Nat) : Int) + 1 = ((level + 1 : Nat) : Int)) := Lib.hid (by omega)
        clear hpre hvk d0 hck hB hs hfull hmem HVK hc
        generalize kids[j].under level c = u2 at *
        generalize kids[j].right (level + 1) = u1 at *
        go_wp2_with (go_at_call 67; refine CN.out.mono ?_; rintro e w1 ⟨rfl, hb1⟩)
        rw [hlw.out]
        have hB1 : Below w.heap.size w w1 := HB.out.trans (hb1.mono HB.out.size)
        have HB1 := Lib.hid hB1
        refine (CI.out w1 hB1).mono ?_
        rintro e w2 ⟨rfl, hb2⟩
        have hB2 : Below w.heap.size w w2 := hB1.trans (hb2.mono hB1.size)
        have CU2 := Lib.hid (CU.out w2 hB2)
        have HB2 := Lib.hid hB2
        clear hb1 hb2 hB1 hB2
        cases u1 with
        | false =>
          go_wp2
          go_ret
          exact ⟨by rw [HF.out (by trivial)]; rfl, HB2.out⟩
        | true =>
          cases u2 with
          | false =>
            go_wp2_with (go_at_call 68; refine CU2.out.mono ?_; rintro e w3 ⟨rfl, hb3⟩)
            go_ret
            exact ⟨by rw [HF.out (by trivial)]; rfl, HB2.out.trans (hb3.mono HB2.out.size)⟩
          | true =>
            go_wp2_with (go_at_call 68; refine CU2.out.mono ?_; rintro e w3 ⟨rfl, hb3⟩)
            exact ⟨⟨j + 1, hlt, by first | exact int_succM hlt HMX.out | rfl, HS.out, HB2.out.trans (hb3.mono HB2.out.size)⟩, by first | exact less_succM hlt HMX.out | (simp only [intOf]; omega)⟩
      · obtain rfl : j = kids.length := by omega
        rw [List.take_length] at hpre
        have HP := Lib.hid hpre
        clear hpre
        go_wp2
        go_ret
        exact ⟨by rw [HP.out]; rfl, hB⟩

theorem right_node (ok : Nat → Prop) (n : Bw.N) : RightAns ok n :=
  Bw.N.ind (P := RightAns ok) (right_leaf ok) (right_bucket ok) (right_branch ok) n

set_option maxRecDepth 100000 in
set_option maxHeartbeats 1000000 in
theorem right_out {ok : Nat → Prop} {v : Value} {n : Option Bw.N} {w : World} (level : Int) (h : ONodeAt nt ok w v n) (hout : n = none ∨ level < 0 ∨ 13 < level) :
    Calls Tryd.prog 34 #[v, .int .i64 level] w fun e w' => e = .returned (.bool false) ∧ Below w.heap.size w w' := by
  cases n with
  | none =>
    simp only [ONodeAt] at h
    subst h
    have he := fun (W : World) => (show (binOp .eql 27 .nilIface .nilIface).run Tryd.prog W = .ok (.bool true) W by rfl)
    go_enter Tryd.func34, Tryd.ntmps34
    go_wp2
    go_ret
    exact ⟨rfl, Below.refl _ _⟩
  | some n =>
    simp only [ONodeAt] at h
    obtain ⟨t, b, rfl⟩ := h.form
    clear h
    rcases hout with h | h | h
    · cases h
    · go_enter Tryd.func34, Tryd.ntmps34
      go_wp2
      go_ret
      exact ⟨rfl, Below.refl _ _⟩
    · have h2 : (0 : Int) ≤ level := by omega
      go_enter Tryd.func34, Tryd.ntmps34
      go_wp2
      go_ret
      exact ⟨rfl, Below.refl _ _⟩
end Go.Proofs.YtehkjnmnbplcoaaDoor
