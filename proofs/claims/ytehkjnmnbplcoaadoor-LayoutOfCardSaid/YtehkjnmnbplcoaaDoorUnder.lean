
import Derived.Test.YtehkjnmnbplcoaaDoorNodeC
import Derived.Test.YtehkjnmnbplcoaaDoorChunk
import Derived.Test.YtehkjnmnbplcoaaDoorLawA
import Derived.Test.YtehkjnmnbplcoaaDoorBwAll
namespace Go.Proofs.YtehkjnmnbplcoaaDoor
open Go.RowKit Go.Bw

theorem _root_.Bw.N.underL_append (level c : Nat) (a b : List Bw.N) : Bw.N.underL level c (a ++ b) = (Bw.N.underL level c a && Bw.N.underL level c b) := by
  induction a with
  | nil => simp [Bw.N.underL]
  | cons k r ih => simp [Bw.N.underL, ih, Bool.and_assoc]

theorem _root_.Bw.hashes_kid {m : Nat} {kids : List Bw.N} {k : Bw.N} (hk : k ∈ kids) {h : Nat} (hh : h ∈ k.abs.hashes) : h ∈ (Bw.N.branch m kids).abs.hashes := by
  simp only [Bw.N.abs, Bw.X.hashes, if_true]
  induction kids with
  | nil => simp at hk
  | cons a r ih =>
    simp only [Bw.N.absL, Bw.X.hashesL, List.mem_append]
    rcases List.mem_cons.1 hk with rfl | hk
    · exact .inl hh
    · exact .inr (ih hk)

theorem int_beq (a b : Nat) : ((a : Int) == (b : Int)) = (a == b) := by
  rw [Bool.eq_iff_iff, beq_iff_eq, beq_iff_eq]; omega

def UnderRel (level c : Nat) (kids : List Bw.N) (w : World) (i : Value) (wr : World) : Prop :=
  ∃ j : Nat, j ≤ kids.length ∧ i = .int .i64 (j : Nat) ∧ Bw.N.underL level c (kids.take j) = true ∧ Below w.heap.size w wr

set_option maxRecDepth 100000 in
set_option maxHeartbeats 1000000 in
theorem under_any {ok : Nat → Prop} (level c : Nat) (hl : level ≤ 12) (n : Bw.N) : ∀ (v : Value) (w : World), NodeAt nt ok w v n → (∀ h ∈ n.abs.hashes, h < 18446744073709551616) →
    Calls Tryd.prog 68 #[v, .int .i64 (level : Nat), .int .i64 (c : Nat)] w fun e w' => e = .returned (.bool (n.under level c)) ∧ Below w.heap.size w w' := by
  refine Bw.N.ind (P := fun n => ∀ (v : Value) (w : World), NodeAt nt ok w v n → (∀ h ∈ n.abs.hashes, h < 18446744073709551616) →
    Calls Tryd.prog 68 #[v, .int .i64 (level : Nat), .int .i64 (c : Nat)] w fun e w' => e = .returned (.bool (n.under level c)) ∧ Below w.heap.size w w') ?_ ?_ ?_ n
  · intro h p v w hn hh
    have CH := Lib.hid (hash_any (v := v) (n := some (.leaf h p)) (w := w) (ok := ok) hn)
    have CA := Lib.hid (at_any h level hl w)
    simp only [Bw.N.under]
    obtain ⟨t, b, rfl⟩ := hn.form
    clear hn hh
    simp only [hashO] at CH
    go_enter Tryd.func68, Tryd.ntmps68
    go_wp2_with (first | (go_at_call 43; refine CH.out.mono ?_; rintro e w1 ⟨rfl, rfl⟩) | (go_at_call 98; refine CA.out.mono ?_; rintro e w1 ⟨rfl, rfl⟩))
    go_ret
    exact ⟨by rw [int_beq]; rfl, Below.refl _ _⟩
  · intro h t v w hn hh
    have CH := Lib.hid (hash_any (v := v) (n := some (.bucket h t)) (w := w) (ok := ok) hn)
    have CA := Lib.hid (at_any h level hl w)
    simp only [Bw.N.under]
    obtain ⟨t', b, rfl⟩ := hn.form
    clear hn hh
    simp only [hashO] at CH
    go_enter Tryd.func68, Tryd.ntmps68
    go_wp2_with (first | (go_at_call 43; refine CH.out.mono ?_; rintro e w1 ⟨rfl, rfl⟩) | (go_at_call 98; refine CA.out.mono ?_; rintro e w1 ⟨rfl, rfl⟩))
    go_ret
    exact ⟨by rw [int_beq]; rfl, Below.refl _ _⟩
  · intro m kids ih v w hn hh
    have CH := Lib.hid (hash_any (v := v) (n := some (.branch m kids)) (w := w) (ok := ok) hn)
    simp only [hashO] at CH
    simp only [NodeAt] at hn
    obtain ⟨b, g, o, cap, rfl, ⟨_, c0⟩, ⟨_, c1⟩, _, hcap, hmax, hk⟩ := hn
    have HK := Lib.hid hk
    have HMX : Hid (kids.length ≤ maxLen) := Lib.hid (Nat.le_trans hcap hmax)
    have HIH := Lib.hid ih
    have HH := Lib.hid hh
    have H0 : Hid (UnderRel level c kids w (.int .i64 0) w) := Lib.hid ⟨0, Nat.zero_le _, rfl, by simp [Bw.N.underL], Below.refl _ _⟩
    have t9 := @ta_rr
    simp only [Bw.N.under]
    clear hk ih hh hcap hmax
    go_enter Tryd.func68, Tryd.ntmps68
    go_wp2_with (go_at_call 43; refine CH.out.mono ?_; rintro e w1 ⟨rfl, rfl⟩)
    go_loopw [36] (UnderRel level c kids w) (fun i _ => kids.length - (intOf i).toNat)
    case atStart => exact H0.out
    case round =>
      obtain ⟨j, hj, rfl, hpre, hB⟩ := hrel
      by_cases hlt : j < kids.length
      · obtain ⟨cs, ⟨vk, rfl, hvk⟩, hck⟩ := row_of_kids HK.out j (some kids[j]) (by rw [List.getElem?_map, List.getElem?_eq_getElem hlt]; rfl)
        have d0 := (hck 0 vk rfl).2
        simp only [Nat.mul_one, Nat.add_zero] at d0
        have hbl := World.block_lt_of_cell? w _ d0
        dsimp only at hbl
        simp only [ONodeAt] at hvk
        have e0 := (hB.cell (p := ⟨g, o + j, none⟩) hbl).trans d0
        have hmem : kids[j] ∈ kids := List.getElem_mem hlt
        have CI := Lib.hid (HIH.out kids[j] hmem vk wr (NodeAt.move (Moves.below hB) _ _ hvk) (fun h hh => HH.out h (Bw.hashes_kid hmem hh)))
        have hs : Bw.N.underL level c (kids.take (j + 1)) = kids[j].under level c := by
          rw [take_succ_snoc hlt, Bw.N.underL_append, hpre]; simp [Bw.N.underL]
        have hfull : kids[j].under level c = false → Bw.N.underL level c kids = false := by
          intro e
          have h1 : kids = kids.take (j + 1) ++ kids.drop (j + 1) := (List.take_append_drop _ _).symm
          rw [h1, Bw.N.underL_append, hs, e]; rfl
        obtain ⟨t0, b0, rfl⟩ := hvk.form
        have h0 : (0 : Int) ≤ (j : Int) := by omega
        have h1 : (j : Int) < (kids.length : Int) := by omega
        have HB := Lib.hid hB
        have HS := Lib.hid hs
        have HF := Lib.hid hfull
        generalize hu : kids[j].under level c = u at *
        clear hpre hvk d0 hck hB hs hfull hmem
        cases u with
        | true =>
          go_wp2_with (go_at_call 68; refine CI.out.mono ?_; rintro e w2 ⟨rfl, hb2⟩)
          exact ⟨⟨j + 1, hlt, int_succM hlt HMX.out, HS.out, HB.out.trans (hb2.mono HB.out.size)⟩, less_succM hlt HMX.out⟩
        | false =>
          go_wp2_with (go_at_call 68; refine CI.out.mono ?_; rintro e w2 ⟨rfl, hb2⟩)
          go_ret
          exact ⟨by rw [HF.out (by trivial)]; rfl, HB.out.trans (hb2.mono HB.out.size)⟩
      · obtain rfl : j = kids.length := by omega
        rw [List.take_length] at hpre
        have HP := Lib.hid hpre
        clear hpre
        go_wp2
        go_ret
        exact ⟨by rw [HP.out]; rfl, hB⟩
end Go.Proofs.YtehkjnmnbplcoaaDoor
