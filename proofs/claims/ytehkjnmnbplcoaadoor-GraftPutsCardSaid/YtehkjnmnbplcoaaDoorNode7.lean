
import Derived.Test.YtehkjnmnbplcoaaDoorNode6
import Derived.Deep.QuietTactic
import Derived.BigQuiet
namespace Go.Proofs.YtehkjnmnbplcoaaDoor
open Go.RowKit Go.Bw

/-- what Kid tells: a node or none, and whether -/
def KidTold (ok : Nat → Prop) (w : World) (v : Value) (c : Int) : Option Bw.N → Prop
  | some (.branch m kids) => if 0 ≤ c ∧ c < 32 ∧ m.testBit c.toNat = true then ∃ u k, v = .tuple #[u, .bool true] ∧ kids[Bw.ones c.toNat m]? = some k ∧ NodeAt nt ok w u k else v = .tuple #[.nilIface, .bool false]
  | _ => v = .tuple #[.nilIface, .bool false]

set_option maxRecDepth 100000 in
set_option maxHeartbeats 400000 in
theorem kid_none (c : Int) (w : World) :
    Calls Tryd.prog 51 #[.nilIface, .int .i64 c] w fun e w' => e = .returned (.tuple #[.nilIface, .bool false]) ∧ w = w' := by
  have t1 := @ta_nl; have t2 := @ta_nb; have t3 := @ta_nr
  go_enter Tryd.func51, Tryd.ntmps51
  go_wp2
  go_ret2
  exact ⟨rfl, rfl⟩

set_option maxRecDepth 100000 in
set_option maxHeartbeats 400000 in
theorem kid_any {ok : Nat → Prop} {v : Value} {n : Option Bw.N} {w : World} (c : Int) (h : ONodeAt nt ok w v n) (hmk : ∀ m kids, n = some (.branch m kids) → m < 4294967296 ∧ kids.length = (Bw.bitsOf m).length) :
    Calls Tryd.prog 51 #[v, .int .i64 c] w fun e w' => (∃ r, e = .returned r ∧ KidTold ok w r c n) ∧ ∃ n, w' = w.drewN n := by
  cases n with
  | none =>
    simp only [ONodeAt] at h
    subst h
    exact (kid_none c w).mono fun e w' h => ⟨⟨_, h.1, rfl⟩, 0, h.2.symm⟩
  | some n =>
    cases n with
    | leaf hh p =>
      simp only [ONodeAt, NodeAt] at h
      obtain ⟨b, u1, u2, rfl, _⟩ := h
      have t1 := @ta_ll; have t2 := @ta_lb; have t3 := @ta_lr; have t4 := @ta_bl; have t5 := @ta_bb; have t6 := @ta_br; have t7 := @ta_rl; have t8 := @ta_rb; have t9 := @ta_rr
      go_enter Tryd.func51, Tryd.ntmps51
      go_wp2
      go_ret2
      exact ⟨⟨_, rfl, rfl⟩, 0, rfl⟩
    | bucket hh t =>
      simp only [ONodeAt, NodeAt] at h
      obtain ⟨b, tv, rfl, _⟩ := h
      have t1 := @ta_ll; have t2 := @ta_lb; have t3 := @ta_lr; have t4 := @ta_bl; have t5 := @ta_bb; have t6 := @ta_br; have t7 := @ta_rl; have t8 := @ta_rb; have t9 := @ta_rr
      go_enter Tryd.func51, Tryd.ntmps51
      go_wp2
      go_ret2
      exact ⟨⟨_, rfl, rfl⟩, 0, rfl⟩
    | branch m kids =>
      obtain ⟨hm, hkl⟩ := hmk m kids rfl
      clear hmk
      simp only [ONodeAt, NodeAt] at h
      obtain ⟨b, g, o, cap, rfl, ⟨_, c0⟩, ⟨_, c1⟩, _, hcap, hmax, hk⟩ := h
      by_cases hc : 0 ≤ c ∧ c < 32 ∧ m.testBit c.toNat = true
      · obtain ⟨h0, h1, hbit⟩ := hc
        obtain ⟨i, rfl⟩ := Int.eq_ofNat_of_zero_le h0
        rw [Int.toNat_natCast] at hbit
        have hat := Bw.bitsOf_at m i (by omega) hbit
        have hlt : Bw.ones i m < kids.length := by rw [hkl]; exact (List.getElem?_eq_some_iff.1 hat).1
        have CH := Lib.hid (fun w => has_in m i w hm (by omega))
        rw [hbit] at CH
        have CP := Lib.hid (fun n => (place_in m i (w.drewN n) hm (by omega)).mono (R' := fun e w' => e = .returned (.int .i64 (Bw.ones i m : Nat)) ∧ w' = w.drewN n) (fun _ _ h => ⟨h.1, h.2.symm⟩))
        obtain ⟨cs, ⟨vk, rfl, hvk⟩, hck⟩ := row_of_kids hk (Bw.ones i m) (some kids[Bw.ones i m]) (by rw [List.getElem?_map, List.getElem?_eq_getElem hlt]; rfl)
        have d0 := (hck 0 vk rfl).2
        simp only [Nat.mul_one, Nat.add_zero] at d0
        have hbl := World.block_lt_of_cell? w _ d0
        dsimp only at hbl
        simp only [ONodeAt] at hvk
        obtain ⟨t0, b0, rfl⟩ := hvk.form
        have h2 : ((Bw.ones i m : Nat) : Int) < (kids.length : Int) := by omega
        have h3 : (0 : Int) ≤ ((Bw.ones i m : Nat) : Int) := by omega
        have HFIN : Hid (KidTold ok w (.tuple #[.iface t0 (.pointer (some ⟨b0, 0, none⟩)), .bool true]) (i : Int) (some (.branch m kids))) := Lib.hid (by
          simp only [KidTold]
          rw [if_pos ⟨h0, h1, by rw [Int.toNat_natCast]; exact hbit⟩]
          exact ⟨_, kids[Bw.ones i m], rfl, by rw [Int.toNat_natCast]; exact List.getElem?_eq_getElem hlt, hvk⟩)
        generalize Bw.ones i m = pl at *
        clear hvk hck hk hat hbit hcap hmax hkl hm
        have t1 := @ta_ll; have t2 := @ta_lb; have t3 := @ta_lr; have t4 := @ta_bl; have t5 := @ta_bb; have t6 := @ta_br; have t7 := @ta_rl; have t8 := @ta_rb; have t9 := @ta_rr
        go_enter Tryd.func51, Tryd.ntmps51
        go_wp2_with fail
        refine (CH.out _).mono ?_
        rintro e w1 ⟨rfl, rfl⟩
        go_wp2_with fail
        go_quiet ((go_at_call 89; exact Calls.quiet_of_same (CP.out _)))
        go_wp2
        go_ret2
        exact ⟨⟨_, rfl, HFIN.out⟩, _, rfl⟩
      · have CH : Hid (Calls Tryd.prog 88 #[.int .u32 (m : Nat), .int .i64 c] w fun e w' => e = .returned (.bool false) ∧ w = w') := Lib.hid (by
          by_cases hr : 0 ≤ c ∧ c < 32
          · obtain ⟨i, rfl⟩ := Int.eq_ofNat_of_zero_le hr.1
            have hb : m.testBit i = false := by
              cases e : m.testBit i with
              | false => rfl
              | true => exact absurd ⟨hr.1, hr.2, by rw [Int.toNat_natCast]; exact e⟩ hc
            rw [← hb]
            exact has_in m i w hm (by omega)
          · exact has_out m c w hm (by omega))
        have HFIN : Hid (KidTold ok w (.tuple #[.nilIface, .bool false]) c (some (.branch m kids))) := Lib.hid (by
          simp only [KidTold]
          rw [if_neg hc]; trivial)
        clear hk hcap hmax hkl hm hc
        have t1 := @ta_ll; have t2 := @ta_lb; have t3 := @ta_lr; have t4 := @ta_bl; have t5 := @ta_bb; have t6 := @ta_br; have t7 := @ta_rl; have t8 := @ta_rb; have t9 := @ta_rr
        go_enter Tryd.func51, Tryd.ntmps51
        go_wp2_with fail
        refine CH.out.mono ?_
        rintro e w1 ⟨rfl, rfl⟩
        go_wp2
        go_ret2
        exact ⟨⟨_, rfl, HFIN.out⟩, 0, rfl⟩
end Go.Proofs.YtehkjnmnbplcoaaDoor
