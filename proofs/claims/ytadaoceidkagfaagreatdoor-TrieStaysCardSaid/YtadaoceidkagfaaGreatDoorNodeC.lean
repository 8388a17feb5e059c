
import Derived.Test.YtadaoceidkagfaaGreatDoorNode5
import Derived.Deep.QuietTactic
import Derived.BigQuiet
import Derived.WalkLawsBesides
namespace Go.Proofs.YtadaoceidkagfaaGreatDoor
open Go.RowKit Go.Bw
theorem ta_nl (w : World) : (Instr.typeAssert .nilIface 28 114 true).run Tryz.prog w = .ok (.tuple #[.pointer none, .bool false]) w := by kernel_rfl
theorem ta_ll (a : Addr) (w : World) : (Instr.typeAssert (.iface 114 (.pointer (some a))) 28 114 true).run Tryz.prog w = .ok (.tuple #[.pointer (some a), .bool true]) w := by kernel_rfl
theorem ta_bl (a : Addr) (w : World) : (Instr.typeAssert (.iface 117 (.pointer (some a))) 28 114 true).run Tryz.prog w = .ok (.tuple #[.pointer none, .bool false]) w := by kernel_rfl
theorem ta_rl (a : Addr) (w : World) : (Instr.typeAssert (.iface 122 (.pointer (some a))) 28 114 true).run Tryz.prog w = .ok (.tuple #[.pointer none, .bool false]) w := by kernel_rfl
theorem ta_nb (w : World) : (Instr.typeAssert .nilIface 28 117 true).run Tryz.prog w = .ok (.tuple #[.pointer none, .bool false]) w := by kernel_rfl
theorem ta_lb (a : Addr) (w : World) : (Instr.typeAssert (.iface 114 (.pointer (some a))) 28 117 true).run Tryz.prog w = .ok (.tuple #[.pointer none, .bool false]) w := by kernel_rfl
theorem ta_bb (a : Addr) (w : World) : (Instr.typeAssert (.iface 117 (.pointer (some a))) 28 117 true).run Tryz.prog w = .ok (.tuple #[.pointer (some a), .bool true]) w := by kernel_rfl
theorem ta_rb (a : Addr) (w : World) : (Instr.typeAssert (.iface 122 (.pointer (some a))) 28 117 true).run Tryz.prog w = .ok (.tuple #[.pointer none, .bool false]) w := by kernel_rfl
theorem ta_nr (w : World) : (Instr.typeAssert .nilIface 28 122 true).run Tryz.prog w = .ok (.tuple #[.pointer none, .bool false]) w := by kernel_rfl
theorem ta_lr (a : Addr) (w : World) : (Instr.typeAssert (.iface 114 (.pointer (some a))) 28 122 true).run Tryz.prog w = .ok (.tuple #[.pointer none, .bool false]) w := by kernel_rfl
theorem ta_br (a : Addr) (w : World) : (Instr.typeAssert (.iface 117 (.pointer (some a))) 28 122 true).run Tryz.prog w = .ok (.tuple #[.pointer none, .bool false]) w := by kernel_rfl
theorem ta_rr (a : Addr) (w : World) : (Instr.typeAssert (.iface 122 (.pointer (some a))) 28 122 true).run Tryz.prog w = .ok (.tuple #[.pointer (some a), .bool true]) w := by kernel_rfl
def hashO : Option Bw.N -> Nat × Bool
  | some (.leaf h _) => (h, true)
  | some (.bucket h _) => (h, true)
  | _ => (0, false)
set_option maxRecDepth 100000 in
set_option maxHeartbeats 400000 in
theorem hash_any {ok : Nat -> Prop} {v : Value} {n : Option Bw.N} {w : World} (h : ONodeAt nt ok w v n) :
    Calls Tryz.prog 29 #[v] w fun e w' => e = .returned (.tuple #[.int .u64 ((hashO n).1 : Nat), .bool (hashO n).2]) /\ w = w' := by
  cases n with
  | none =>
    simp only [ONodeAt] at h
    subst h
    have t1 := @ta_nl; have t2 := @ta_nb; have t3 := @ta_nr
    go_enter Tryz.func29, Tryz.ntmps29
    go_wp2
    go_ret2
    exact ⟨rfl, rfl⟩
  | some n =>
    cases n with
    | leaf hh p =>
      simp only [ONodeAt, NodeAt] at h
      obtain ⟨b, u1, u2, rfl, ⟨_, c0⟩, _⟩ := h
      have t1 := @ta_ll; have t2 := @ta_lb; have t3 := @ta_lr; have t4 := @ta_bl; have t5 := @ta_bb; have t6 := @ta_br; have t7 := @ta_rl; have t8 := @ta_rb; have t9 := @ta_rr
      go_enter Tryz.func29, Tryz.ntmps29
      go_wp2
      go_ret2
      exact ⟨rfl, rfl⟩
    | bucket hh t =>
      simp only [ONodeAt, NodeAt] at h
      obtain ⟨b, tv, rfl, ⟨_, c0⟩, _⟩ := h
      have t1 := @ta_ll; have t2 := @ta_lb; have t3 := @ta_lr; have t4 := @ta_bl; have t5 := @ta_bb; have t6 := @ta_br; have t7 := @ta_rl; have t8 := @ta_rb; have t9 := @ta_rr
      go_enter Tryz.func29, Tryz.ntmps29
      go_wp2
      go_ret2
      exact ⟨rfl, rfl⟩
    | branch m kids =>
      simp only [ONodeAt, NodeAt] at h
      obtain ⟨b, _, _, _, rfl, _⟩ := h
      have t1 := @ta_ll; have t2 := @ta_lb; have t3 := @ta_lr; have t4 := @ta_bl; have t5 := @ta_bb; have t6 := @ta_br; have t7 := @ta_rl; have t8 := @ta_rb; have t9 := @ta_rr
      go_enter Tryz.func29, Tryz.ntmps29
      go_wp2
      go_ret2
      exact ⟨rfl, rfl⟩
def mapO : Option Bw.N -> Nat × Bool
  | some (.branch m _) => (m, true)
  | _ => (0, false)
set_option maxRecDepth 100000 in
set_option maxHeartbeats 400000 in
theorem map_any {ok : Nat -> Prop} {v : Value} {n : Option Bw.N} {w : World} (h : ONodeAt nt ok w v n) :
    Calls Tryz.prog 32 #[v] w fun e w' => e = .returned (.tuple #[.int .u32 ((mapO n).1 : Nat), .bool (mapO n).2]) /\ w = w' := by
  cases n with
  | none =>
    simp only [ONodeAt] at h
    subst h
    have t1 := @ta_nl; have t2 := @ta_nb; have t3 := @ta_nr
    go_enter Tryz.func32, Tryz.ntmps32
    go_wp2
    go_ret2
    exact ⟨rfl, rfl⟩
  | some n =>
    cases n with
    | leaf hh p =>
      simp only [ONodeAt, NodeAt] at h
      obtain ⟨b, u1, u2, rfl, _⟩ := h
      have t1 := @ta_ll; have t2 := @ta_lb; have t3 := @ta_lr; have t4 := @ta_bl; have t5 := @ta_bb; have t6 := @ta_br; have t7 := @ta_rl; have t8 := @ta_rb; have t9 := @ta_rr
      go_enter Tryz.func32, Tryz.ntmps32
      go_wp2
      go_ret2
      exact ⟨rfl, rfl⟩
    | bucket hh t =>
      simp only [ONodeAt, NodeAt] at h
      obtain ⟨b, tv, rfl, _⟩ := h
      have t1 := @ta_ll; have t2 := @ta_lb; have t3 := @ta_lr; have t4 := @ta_bl; have t5 := @ta_bb; have t6 := @ta_br; have t7 := @ta_rl; have t8 := @ta_rb; have t9 := @ta_rr
      go_enter Tryz.func32, Tryz.ntmps32
      go_wp2
      go_ret2
      exact ⟨rfl, rfl⟩
    | branch m kids =>
      simp only [ONodeAt, NodeAt] at h
      obtain ⟨b, _, _, _, rfl, ⟨_, c0⟩, _⟩ := h
      have t1 := @ta_ll; have t2 := @ta_lb; have t3 := @ta_lr; have t4 := @ta_bl; have t5 := @ta_bb; have t6 := @ta_br; have t7 := @ta_rl; have t8 := @ta_rb; have t9 := @ta_rr
      go_enter Tryz.func32, Tryz.ntmps32
      go_wp2
      go_ret2
      exact ⟨rfl, rfl⟩
def TreeTold (ok : Nat -> Prop) (w : World) (v : Value) : Option Bw.N -> Prop
  | some (.bucket _ t) => ∃ tv, v = .tuple #[tv, .bool true] /\ TreeAt ok w tv t
  | _ => v = .tuple #[.pointer none, .bool false]
set_option maxRecDepth 100000 in
set_option maxHeartbeats 400000 in
theorem tree_any {ok : Nat -> Prop} {v : Value} {n : Option Bw.N} {w : World} (h : ONodeAt nt ok w v n) :
    Calls Tryz.prog 31 #[v] w fun e w' => (∃ r, e = .returned r /\ TreeTold ok w r n) /\ w = w' := by
  cases n with
  | none =>
    simp only [ONodeAt] at h
    subst h
    have t1 := @ta_nl; have t2 := @ta_nb; have t3 := @ta_nr
    go_enter Tryz.func31, Tryz.ntmps31
    go_wp2
    go_ret2
    exact ⟨⟨_, rfl, rfl⟩, rfl⟩
  | some n =>
    cases n with
    | leaf hh p =>
      simp only [ONodeAt, NodeAt] at h
      obtain ⟨b, u1, u2, rfl, _⟩ := h
      have t1 := @ta_ll; have t2 := @ta_lb; have t3 := @ta_lr; have t4 := @ta_bl; have t5 := @ta_bb; have t6 := @ta_br; have t7 := @ta_rl; have t8 := @ta_rb; have t9 := @ta_rr
      go_enter Tryz.func31, Tryz.ntmps31
      go_wp2
      go_ret2
      exact ⟨⟨_, rfl, rfl⟩, rfl⟩
    | bucket hh t =>
      simp only [ONodeAt, NodeAt] at h
      obtain ⟨b, tv, rfl, _, ⟨_, c1⟩, ht⟩ := h
      obtain ⟨A, rfl⟩ := ht.form
      have HT := Lib.hid ht
      clear ht
      have t1 := @ta_ll; have t2 := @ta_lb; have t3 := @ta_lr; have t4 := @ta_bl; have t5 := @ta_bb; have t6 := @ta_br; have t7 := @ta_rl; have t8 := @ta_rb; have t9 := @ta_rr
      go_enter Tryz.func31, Tryz.ntmps31
      go_wp2
      go_ret2
      exact ⟨⟨_, rfl, _, rfl, HT.out⟩, rfl⟩
    | branch m kids =>
      simp only [ONodeAt, NodeAt] at h
      obtain ⟨b, _, _, _, rfl, _⟩ := h
      have t1 := @ta_ll; have t2 := @ta_lb; have t3 := @ta_lr; have t4 := @ta_bl; have t5 := @ta_bb; have t6 := @ta_br; have t7 := @ta_rl; have t8 := @ta_rb; have t9 := @ta_rr
      go_enter Tryz.func31, Tryz.ntmps31
      go_wp2
      go_ret2
      exact ⟨⟨_, rfl, rfl⟩, rfl⟩
open Go.RowKit Go.Bw
def KidTold (ok : Nat -> Prop) (w : World) (v : Value) (c : Int) : Option Bw.N -> Prop
  | some (.branch m kids) => if 0 <= c /\ c < 32 /\ m.testBit c.toNat = true then ∃ u k, v = .tuple #[u, .bool true] /\ kids[Bw.ones c.toNat m]? = some k /\ NodeAt nt ok w u k else v = .tuple #[.nilIface, .bool false]
  | _ => v = .tuple #[.nilIface, .bool false]
set_option maxRecDepth 100000 in
set_option maxHeartbeats 400000 in
theorem kid_none (c : Int) (w : World) :
    Calls Tryz.prog 36 #[.nilIface, .int .i64 c] w fun e w' => e = .returned (.tuple #[.nilIface, .bool false]) /\ w = w' := by
  have t1 := @ta_nl; have t2 := @ta_nb; have t3 := @ta_nr
  go_enter Tryz.func36, Tryz.ntmps36
  go_wp2
  go_ret2
  exact ⟨rfl, rfl⟩
set_option maxRecDepth 100000 in
set_option maxHeartbeats 400000 in
theorem kid_any {ok : Nat -> Prop} {v : Value} {n : Option Bw.N} {w : World} (c : Int) (h : ONodeAt nt ok w v n) (hmk : ∀ m kids, n = some (.branch m kids) -> m < 4294967296 /\ kids.length = (Bw.bitsOf m).length) :
    Calls Tryz.prog 36 #[v, .int .i64 c] w fun e w' => (∃ r, e = .returned r /\ KidTold ok w r c n) /\ ∃ n, w' = w.drewN n := by
  cases n with
  | none =>
    simp only [ONodeAt] at h
    subst h
    exact (kid_none c w).mono fun e w' h => ⟨⟨_, h.1, rfl⟩, 0, h.2.symm⟩
  | some n =>
    cases n with
    | leaf hh p =>
      simp only [ONodeAt, NodeAt] at h
      obtain ⟨b, u1, u2, rfl, _⟩ := h
      have t1 := @ta_ll; have t2 := @ta_lb; have t3 := @ta_lr; have t4 := @ta_bl; have t5 := @ta_bb; have t6 := @ta_br; have t7 := @ta_rl; have t8 := @ta_rb; have t9 := @ta_rr
      go_enter Tryz.func36, Tryz.ntmps36
      go_wp2
      go_ret2
      exact ⟨⟨_, rfl, rfl⟩, 0, rfl⟩
    | bucket hh t =>
      simp only [ONodeAt, NodeAt] at h
      obtain ⟨b, tv, rfl, _⟩ := h
      have t1 := @ta_ll; have t2 := @ta_lb; have t3 := @ta_lr; have t4 := @ta_bl; have t5 := @ta_bb; have t6 := @ta_br; have t7 := @ta_rl; have t8 := @ta_rb; have t9 := @ta_rr
      go_enter Tryz.func36, Tryz.ntmps36
      go_wp2
      go_ret2
      exact ⟨⟨_, rfl, rfl⟩, 0, rfl⟩
    | branch m kids =>
      obtain ⟨hm, hkl⟩ := hmk m kids rfl
      clear hmk
      simp only [ONodeAt, NodeAt] at h
      obtain ⟨b, g, o, cap, rfl, ⟨_, c0⟩, ⟨_, c1⟩, _, hcap, hmax, hk⟩ := h
      by_cases hc : 0 <= c /\ c < 32 /\ m.testBit c.toNat = true
      · obtain ⟨h0, h1, hbit⟩ := hc
        obtain ⟨i, rfl⟩ := Int.eq_ofNat_of_zero_le h0
        rw [Int.toNat_natCast] at hbit
        have hat := Bw.bitsOf_at m i (by omega) hbit
        have hlt : Bw.ones i m < kids.length := by rw [hkl]; exact (List.getElem?_eq_some_iff.1 hat).1
        have CH := Lib.hid (fun w => has_in m i w hm (by omega))
        rw [hbit] at CH
        have CP := Lib.hid (fun n => (place_in m i (w.drewN n) hm (by omega)).mono (R' := fun e w' => e = .returned (.int .i64 (Bw.ones i m : Nat)) /\ w' = w.drewN n) (fun _ _ h => ⟨h.1, h.2.symm⟩))
        obtain ⟨cs, ⟨vk, rfl, hvk⟩, hck⟩ := row_of_kids hk (Bw.ones i m) (some kids[Bw.ones i m]) (by rw [List.getElem?_map, List.getElem?_eq_getElem hlt]; rfl)
        have d0 := (hck 0 vk rfl).2
        simp only [Nat.mul_one, Nat.add_zero] at d0
        have hbl := World.block_lt_of_cell? w _ d0
        dsimp only at hbl
        simp only [ONodeAt] at hvk
        obtain ⟨t0, b0, rfl⟩ := hvk.form
        have h2 : ((Bw.ones i m : Nat) : Int) < (kids.length : Int) := by omega
        have h3 : (0 : Int) <= ((Bw.ones i m : Nat) : Int) := by omega
        have HFIN : Hid (KidTold ok w (.tuple #[.iface t0 (.pointer (some ⟨b0, 0, none⟩)), .bool true]) (i : Int) (some (.branch m kids))) := Lib.hid (by
          simp only [KidTold]
          rw [if_pos ⟨h0, h1, by rw [Int.toNat_natCast]; exact hbit⟩]
          exact ⟨_, kids[Bw.ones i m], rfl, by rw [Int.toNat_natCast]; exact List.getElem?_eq_getElem hlt, hvk⟩)
        generalize Bw.ones i m = pl at *
        clear hvk hck hk hat hbit hcap hmax hkl hm
        have t1 := @ta_ll; have t2 := @ta_lb; have t3 := @ta_lr; have t4 := @ta_bl; have t5 := @ta_bb; have t6 := @ta_br; have t7 := @ta_rl; have t8 := @ta_rb; have t9 := @ta_rr
        go_enter Tryz.func36, Tryz.ntmps36
        go_wp2_with fail
        refine (CH.out _).mono ?_
        rintro e w1 ⟨rfl, rfl⟩
        go_wp2_with fail
        go_quiet ((go_at_call 62; exact Calls.quiet_of_same (CP.out _)))
        go_wp2
        go_ret2
        exact ⟨⟨_, rfl, HFIN.out⟩, _, rfl⟩
      · have CH : Hid (Calls Tryz.prog 61 #[.int .u32 (m : Nat), .int .i64 c] w fun e w' => e = .returned (.bool false) /\ w = w') := Lib.hid (by
          by_cases hr : 0 <= c /\ c < 32
          · obtain ⟨i, rfl⟩ := Int.eq_ofNat_of_zero_le hr.1
            have hb : m.testBit i = false := by
              cases e : m.testBit i with
              | false => rfl
              | true => exact absurd ⟨hr.1, hr.2, by rw [Int.toNat_natCast]; exact e⟩ hc
            rw [<- hb]
            exact has_in m i w hm (by omega)
          · exact has_out m c w hm (by omega))
        have HFIN : Hid (KidTold ok w (.tuple #[.nilIface, .bool false]) c (some (.branch m kids))) := Lib.hid (by
          simp only [KidTold]
          rw [if_neg hc]; trivial)
        clear hk hcap hmax hkl hm hc
        have t1 := @ta_ll; have t2 := @ta_lb; have t3 := @ta_lr; have t4 := @ta_bl; have t5 := @ta_bb; have t6 := @ta_br; have t7 := @ta_rl; have t8 := @ta_rb; have t9 := @ta_rr
        go_enter Tryz.func36, Tryz.ntmps36
        go_wp2_with fail
        refine CH.out.mono ?_
        rintro e w1 ⟨rfl, rfl⟩
        go_wp2
        go_ret2
        exact ⟨⟨_, rfl, HFIN.out⟩, 0, rfl⟩
open Go.RowKit Go.Bw
def PairTold (ok : Nat -> Prop) (w : World) (v : Value) : Option Bw.N -> Prop
  | some (.leaf _ p) => ∃ u1 u2, v = .tuple #[.agg #[u1, u2], .bool true] /\ BytesAt ok w u1 p.1 /\ BytesAt ok w u2 p.2
  | _ => v = .tuple #[.agg #[.slice none 0 0, .slice none 0 0], .bool false]
set_option maxRecDepth 100000 in
set_option maxHeartbeats 400000 in
theorem pair_none (w : World) :
    Calls Tryz.prog 30 #[.nilIface] w fun e w' => e = .returned (.tuple #[.agg #[.slice none 0 0, .slice none 0 0], .bool false]) /\ Below w.heap.size w w' := by
  have t1 := @ta_nl; have t2 := @ta_nb; have t3 := @ta_nr
  go_enter Tryz.func30, Tryz.ntmps30
  go_wp2
  have k0 := cell_new w 0 #[.slice none 0 0, .slice none 0 0] 62 0 _ rfl
  have k1 := cell_new w 0 #[.slice none 0 0, .slice none 0 0] 62 1 _ rfl
  have k0 : (w.alloc (.cells #[.slice none 0 0, .slice none 0 0] 62)).cell? ⟨w.heap.size, 0, none⟩ = some (.slice none 0 0) := k0
  have k1 : (w.alloc (.cells #[.slice none 0 0, .slice none 0 0] 62)).cell? ⟨w.heap.size, 1, none⟩ = some (.slice none 0 0) := k1
  exact bodyPost_ret (v := .tuple #[.agg #[.slice none 0 0, .slice none 0 0], .bool false]) (by simp [results, Tryz.results30, go_sem, k0, k1]) rfl ⟨rfl, by exact gB1⟩
set_option maxRecDepth 100000 in
set_option maxHeartbeats 400000 in
theorem pair_other (b : Nat) (q : Nat) (hq : q = 117 \/ q = 122) (w : World) :
    Calls Tryz.prog 30 #[.iface q (.pointer (some ⟨b, 0, none⟩))] w fun e w' => e = .returned (.tuple #[.agg #[.slice none 0 0, .slice none 0 0], .bool false]) /\ Below w.heap.size w w' := by
  have k0 : (w.alloc (.cells #[.slice none 0 0, .slice none 0 0] 62)).cell? ⟨w.heap.size, 0, none⟩ = some (.slice none 0 0) := cell_new w 0 #[.slice none 0 0, .slice none 0 0] 62 0 _ rfl
  have k1 : (w.alloc (.cells #[.slice none 0 0, .slice none 0 0] 62)).cell? ⟨w.heap.size, 1, none⟩ = some (.slice none 0 0) := cell_new w 0 #[.slice none 0 0, .slice none 0 0] 62 1 _ rfl
  have t1 := @ta_ll; have t2 := @ta_lb; have t3 := @ta_lr; have t4 := @ta_bl; have t5 := @ta_bb; have t6 := @ta_br; have t7 := @ta_rl; have t8 := @ta_rb; have t9 := @ta_rr
  rcases hq with rfl | rfl
  · go_enter Tryz.func30, Tryz.ntmps30
    go_wp2
    exact bodyPost_ret (v := .tuple #[.agg #[.slice none 0 0, .slice none 0 0], .bool false]) (by simp [results, Tryz.results30, go_sem, k0, k1]) rfl ⟨rfl, by exact gB1⟩
  · go_enter Tryz.func30, Tryz.ntmps30
    go_wp2
    exact bodyPost_ret (v := .tuple #[.agg #[.slice none 0 0, .slice none 0 0], .bool false]) (by simp [results, Tryz.results30, go_sem, k0, k1]) rfl ⟨rfl, by exact gB1⟩
set_option maxRecDepth 100000 in
set_option maxHeartbeats 400000 in
theorem pair_leaf {ok : Nat -> Prop} {v : Value} {h : Nat} {p : Bw.PV} {w : World} (hn : NodeAt nt ok w v (.leaf h p)) (h1 : p.1.length <= 1048576) (h2 : p.2.length <= 1048576) :
    Calls Tryz.prog 30 #[v] w (Gives w fun r w' => PairTold (fun k => w.heap.size < k) w' r (some (.leaf h p))) := by
  simp only [NodeAt] at hn
  obtain ⟨b, u1, u2, rfl, ⟨_, c0⟩, ⟨_, c1⟩, ⟨_, c2⟩, hu1, hu2⟩ := hn
  obtain ⟨U1, q1, rfl⟩ := hu1.form
  obtain ⟨U2, q2, rfl⟩ := hu2.form
  have hbl := World.block_lt_of_cell? w _ c0
  dsimp only at hbl
  have hB : Below w.heap.size w ((w.alloc (.cells #[.slice none 0 0, .slice none 0 0] 62)).alloc (.cells #[.slice U1 p.1.length q1, .slice U2 p.2.length q2] 62)) := by exact gB1
  have CO := Lib.hid (pown_any (ok := fun k => ok k \/ w.heap.size <= k) (l := [p]) (w := (w.alloc (.cells #[.slice none 0 0, .slice none 0 0] 62)).alloc (.cells #[.slice U1 p.1.length q1, .slice U2 p.2.length q2] 62)) (v := .slice (some ⟨w.heap.size + 1, 0, none⟩) 1 1) (by simp) (by intro q hq; simp only [List.mem_singleton] at hq; subst hq; exact ⟨h1, h2⟩)
    (RowAt.single goodPair (cs := #[.slice U1 p.1.length q1, .slice U2 p.2.length q2]) (t := 62) (fr := (0, 0)) (pairK_mk (hu1.move goodByte ((Moves.weaken fun k hk _ => .inl hk).trans (Nat.le_refl _) (Moves.below hB))) (hu2.move goodByte ((Moves.weaken fun k hk _ => .inl hk).trans (Nat.le_refl _) (Moves.below hB)))) (.inr (by omega)) (by rw [<- World.size_alloc w (.cells #[.slice none 0 0, .slice none 0 0] 62)]; exact heap_alloc_new _ _)))
  have HB := Lib.hid hB
  clear hu1 hu2 h1 h2 hB
  have t1 := @ta_ll; have t2 := @ta_lb; have t3 := @ta_lr; have t4 := @ta_bl; have t5 := @ta_bb; have t6 := @ta_br; have t7 := @ta_rl; have t8 := @ta_rb; have t9 := @ta_rr
  go_enter Tryz.func30, Tryz.ntmps30
  go_wp2_with fail
  refine CO.out.mono ?_
  rintro e w1 ⟨q, rfl, ⟨g, c, rfl, hqo⟩, hb1⟩
  have hq := hqo.row goodPair
  clear hqo
  obtain ⟨b', o', u', v', hbo, hob, d0, d1, hu', hv'⟩ := pair_get hq (j := 0) (p := p) rfl
  cases hbo
  obtain ⟨A1, r1, rfl⟩ := hu'.form
  obtain ⟨A2, r2, rfl⟩ := hv'.form
  simp only [Nat.zero_mul, Nat.add_zero, Nat.zero_add] at d0 d1
  have k0 : w1.cell? ⟨w.heap.size, 0, none⟩ = some (.slice none 0 0) := (hb1.cell (p := ⟨w.heap.size, 0, none⟩) (by simp; omega)).trans (by go_simp)
  have k1 : w1.cell? ⟨w.heap.size, 1, none⟩ = some (.slice none 0 0) := (hb1.cell (p := ⟨w.heap.size, 1, none⟩) (by simp; omega)).trans (by go_simp)
  have f0 : w1.frozen? ⟨w.heap.size, 0, none⟩ = false := (hb1.frozen (p := ⟨w.heap.size, 0, none⟩) (by simp; omega)).trans (by go_simp)
  have f1 : w1.frozen? ⟨w.heap.size, 1, none⟩ = false := (hb1.frozen (p := ⟨w.heap.size, 1, none⟩) (by simp; omega)).trans (by go_simp)
  have HB1 := Lib.hid (HB.out.trans (hb1.mono (by simp; omega))); have HU := Lib.hid hu'; have HV := Lib.hid hv'
  clear hu' hv' hq
  have hlen : (0 : Int) < ([p].length : Int) := by simp
  go_wp2
  refine bodyPost_ret (v := .tuple #[.agg #[.slice A1 p.1.length r1, .slice A2 p.2.length r2], .bool true]) (by simp [results, Tryz.results30, go_sem, k0, k1]) rfl ⟨_, rfl, ⟨_, _, rfl, ?_, ?_⟩, ?_⟩
  · refine HU.out.move goodByte ((Moves.set (p := ⟨w.heap.size, 0, none⟩) _ ?_).trans (by simp) ((Moves.set (p := ⟨w.heap.size, 1, none⟩) _ ?_).trans (by simp) (Moves.weaken ?_))) <;> (intro k hk; simp at hk; simp; omega)
  · refine HV.out.move goodByte ((Moves.set (p := ⟨w.heap.size, 0, none⟩) _ ?_).trans (by simp) ((Moves.set (p := ⟨w.heap.size, 1, none⟩) _ ?_).trans (by simp) (Moves.weaken ?_))) <;> (intro k hk; simp at hk; simp; omega)
  · exact (HB1.out.setCell (by simp) _).setCell (by simp) _
theorem pair_any {ok : Nat -> Prop} {v : Value} {n : Option Bw.N} {w : World} (h : ONodeAt nt ok w v n) (hp : ∀ hh p, n = some (.leaf hh p) -> p.1.length <= 1048576 /\ p.2.length <= 1048576) :
    Calls Tryz.prog 30 #[v] w (Gives w fun r w' => PairTold (fun k => w.heap.size < k) w' r n) := by
  cases n with
  | none =>
    simp only [ONodeAt] at h
    subst h
    exact (pair_none w).mono fun e w' h => ⟨_, h.1, rfl, h.2⟩
  | some n =>
    cases n with
    | leaf hh p => exact pair_leaf h (hp hh p rfl).1 (hp hh p rfl).2
    | bucket hh t =>
      simp only [ONodeAt, NodeAt] at h
      obtain ⟨b, tv, rfl, _⟩ := h
      exact (pair_other b _ (.inl rfl) w).mono fun e w' h => ⟨_, h.1, rfl, h.2⟩
    | branch m kids =>
      simp only [ONodeAt, NodeAt] at h
      obtain ⟨b, _, _, _, rfl, _⟩ := h
      exact (pair_other b _ (.inr rfl) w).mono fun e w' h => ⟨_, h.1, rfl, h.2⟩
open Go.RowKit Go.Bw
theorem kindm_leaf (a : Addr) (w : World) : (method 342 114 (.pointer (some a)) "Kind").run Tryz.prog w = .ok (175, .pointer (some a)) w := by kernel_rfl
theorem kindm_bucket (a : Addr) (w : World) : (method 342 117 (.pointer (some a)) "Kind").run Tryz.prog w = .ok (177, .pointer (some a)) w := by kernel_rfl
theorem kindm_branch (a : Addr) (w : World) : (method 342 122 (.pointer (some a)) "Kind").run Tryz.prog w = .ok (179, .pointer (some a)) w := by kernel_rfl
end Go.Proofs.YtadaoceidkagfaaGreatDoor
