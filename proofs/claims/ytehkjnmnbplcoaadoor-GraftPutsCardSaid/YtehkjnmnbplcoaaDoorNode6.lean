
import Derived.Test.YtehkjnmnbplcoaaDoorNode5
namespace Go.Proofs.YtehkjnmnbplcoaaDoor
open Go.RowKit Go.Bw

theorem ta_nl (w : World) : (Instr.typeAssert .nilIface 27 141 true).run Tryd.prog w = .ok (.tuple #[.pointer none, .bool false]) w := by kernel_rfl
theorem ta_ll (a : Addr) (w : World) : (Instr.typeAssert (.iface 141 (.pointer (some a))) 27 141 true).run Tryd.prog w = .ok (.tuple #[.pointer (some a), .bool true]) w := by kernel_rfl
theorem ta_bl (a : Addr) (w : World) : (Instr.typeAssert (.iface 144 (.pointer (some a))) 27 141 true).run Tryd.prog w = .ok (.tuple #[.pointer none, .bool false]) w := by kernel_rfl
theorem ta_rl (a : Addr) (w : World) : (Instr.typeAssert (.iface 124 (.pointer (some a))) 27 141 true).run Tryd.prog w = .ok (.tuple #[.pointer none, .bool false]) w := by kernel_rfl
theorem ta_nb (w : World) : (Instr.typeAssert .nilIface 27 144 true).run Tryd.prog w = .ok (.tuple #[.pointer none, .bool false]) w := by kernel_rfl
theorem ta_lb (a : Addr) (w : World) : (Instr.typeAssert (.iface 141 (.pointer (some a))) 27 144 true).run Tryd.prog w = .ok (.tuple #[.pointer none, .bool false]) w := by kernel_rfl
theorem ta_bb (a : Addr) (w : World) : (Instr.typeAssert (.iface 144 (.pointer (some a))) 27 144 true).run Tryd.prog w = .ok (.tuple #[.pointer (some a), .bool true]) w := by kernel_rfl
theorem ta_rb (a : Addr) (w : World) : (Instr.typeAssert (.iface 124 (.pointer (some a))) 27 144 true).run Tryd.prog w = .ok (.tuple #[.pointer none, .bool false]) w := by kernel_rfl
theorem ta_nr (w : World) : (Instr.typeAssert .nilIface 27 124 true).run Tryd.prog w = .ok (.tuple #[.pointer none, .bool false]) w := by kernel_rfl
theorem ta_lr (a : Addr) (w : World) : (Instr.typeAssert (.iface 141 (.pointer (some a))) 27 124 true).run Tryd.prog w = .ok (.tuple #[.pointer none, .bool false]) w := by kernel_rfl
theorem ta_br (a : Addr) (w : World) : (Instr.typeAssert (.iface 144 (.pointer (some a))) 27 124 true).run Tryd.prog w = .ok (.tuple #[.pointer none, .bool false]) w := by kernel_rfl
theorem ta_rr (a : Addr) (w : World) : (Instr.typeAssert (.iface 124 (.pointer (some a))) 27 124 true).run Tryd.prog w = .ok (.tuple #[.pointer (some a), .bool true]) w := by kernel_rfl

/-- what Hash tells of a node -/
def hashO : Option Bw.N → Nat × Bool
  | some (.leaf h _) => (h, true)
  | some (.bucket h _) => (h, true)
  | _ => (0, false)

set_option maxRecDepth 100000 in
set_option maxHeartbeats 400000 in
theorem hash_any {ok : Nat → Prop} {v : Value} {n : Option Bw.N} {w : World} (h : ONodeAt nt ok w v n) :
    Calls Tryd.prog 43 #[v] w fun e w' => e = .returned (.tuple #[.int .u64 ((hashO n).1 : Nat), .bool (hashO n).2]) ∧ w = w' := by
  cases n with
  | none =>
    simp only [ONodeAt] at h
    subst h
    have t1 := @ta_nl; have t2 := @ta_nb; have t3 := @ta_nr
    go_enter Tryd.func43, Tryd.ntmps43
    go_wp2
    go_ret2
    exact ⟨rfl, rfl⟩
  | some n =>
    cases n with
    | leaf hh p =>
      simp only [ONodeAt, NodeAt] at h
      obtain ⟨b, u1, u2, rfl, ⟨_, c0⟩, _⟩ := h
      have t1 := @ta_ll; have t2 := @ta_lb; have t3 := @ta_lr; have t4 := @ta_bl; have t5 := @ta_bb; have t6 := @ta_br; have t7 := @ta_rl; have t8 := @ta_rb; have t9 := @ta_rr
      go_enter Tryd.func43, Tryd.ntmps43
      go_wp2
      go_ret2
      exact ⟨rfl, rfl⟩
    | bucket hh t =>
      simp only [ONodeAt, NodeAt] at h
      obtain ⟨b, tv, rfl, ⟨_, c0⟩, _⟩ := h
      have t1 := @ta_ll; have t2 := @ta_lb; have t3 := @ta_lr; have t4 := @ta_bl; have t5 := @ta_bb; have t6 := @ta_br; have t7 := @ta_rl; have t8 := @ta_rb; have t9 := @ta_rr
      go_enter Tryd.func43, Tryd.ntmps43
      go_wp2
      go_ret2
      exact ⟨rfl, rfl⟩
    | branch m kids =>
      simp only [ONodeAt, NodeAt] at h
      obtain ⟨b, _, _, _, rfl, _⟩ := h
      have t1 := @ta_ll; have t2 := @ta_lb; have t3 := @ta_lr; have t4 := @ta_bl; have t5 := @ta_bb; have t6 := @ta_br; have t7 := @ta_rl; have t8 := @ta_rb; have t9 := @ta_rr
      go_enter Tryd.func43, Tryd.ntmps43
      go_wp2
      go_ret2
      exact ⟨rfl, rfl⟩

/-- what Map tells of a node -/
def mapO : Option Bw.N → Nat × Bool
  | some (.branch m _) => (m, true)
  | _ => (0, false)

set_option maxRecDepth 100000 in
set_option maxHeartbeats 400000 in
theorem map_any {ok : Nat → Prop} {v : Value} {n : Option Bw.N} {w : World} (h : ONodeAt nt ok w v n) :
    Calls Tryd.prog 46 #[v] w fun e w' => e = .returned (.tuple #[.int .u32 ((mapO n).1 : Nat), .bool (mapO n).2]) ∧ w = w' := by
  cases n with
  | none =>
    simp only [ONodeAt] at h
    subst h
    have t1 := @ta_nl; have t2 := @ta_nb; have t3 := @ta_nr
    go_enter Tryd.func46, Tryd.ntmps46
    go_wp2
    go_ret2
    exact ⟨rfl, rfl⟩
  | some n =>
    cases n with
    | leaf hh p =>
      simp only [ONodeAt, NodeAt] at h
      obtain ⟨b, u1, u2, rfl, _⟩ := h
      have t1 := @ta_ll; have t2 := @ta_lb; have t3 := @ta_lr; have t4 := @ta_bl; have t5 := @ta_bb; have t6 := @ta_br; have t7 := @ta_rl; have t8 := @ta_rb; have t9 := @ta_rr
      go_enter Tryd.func46, Tryd.ntmps46
      go_wp2
      go_ret2
      exact ⟨rfl, rfl⟩
    | bucket hh t =>
      simp only [ONodeAt, NodeAt] at h
      obtain ⟨b, tv, rfl, _⟩ := h
      have t1 := @ta_ll; have t2 := @ta_lb; have t3 := @ta_lr; have t4 := @ta_bl; have t5 := @ta_bb; have t6 := @ta_br; have t7 := @ta_rl; have t8 := @ta_rb; have t9 := @ta_rr
      go_enter Tryd.func46, Tryd.ntmps46
      go_wp2
      go_ret2
      exact ⟨rfl, rfl⟩
    | branch m kids =>
      simp only [ONodeAt, NodeAt] at h
      obtain ⟨b, _, _, _, rfl, ⟨_, c0⟩, _⟩ := h
      have t1 := @ta_ll; have t2 := @ta_lb; have t3 := @ta_lr; have t4 := @ta_bl; have t5 := @ta_bb; have t6 := @ta_br; have t7 := @ta_rl; have t8 := @ta_rb; have t9 := @ta_rr
      go_enter Tryd.func46, Tryd.ntmps46
      go_wp2
      go_ret2
      exact ⟨rfl, rfl⟩

/-- what Tree tells of a node: a value, and whether -/
def TreeTold (ok : Nat → Prop) (w : World) (v : Value) : Option Bw.N → Prop
  | some (.bucket _ t) => ∃ tv, v = .tuple #[tv, .bool true] ∧ TreeAt ok w tv t
  | _ => v = .tuple #[.pointer none, .bool false]

set_option maxRecDepth 100000 in
set_option maxHeartbeats 400000 in
theorem tree_any {ok : Nat → Prop} {v : Value} {n : Option Bw.N} {w : World} (h : ONodeAt nt ok w v n) :
    Calls Tryd.prog 45 #[v] w fun e w' => (∃ r, e = .returned r ∧ TreeTold ok w r n) ∧ w = w' := by
  cases n with
  | none =>
    simp only [ONodeAt] at h
    subst h
    have t1 := @ta_nl; have t2 := @ta_nb; have t3 := @ta_nr
    go_enter Tryd.func45, Tryd.ntmps45
    go_wp2
    go_ret2
    exact ⟨⟨_, rfl, rfl⟩, rfl⟩
  | some n =>
    cases n with
    | leaf hh p =>
      simp only [ONodeAt, NodeAt] at h
      obtain ⟨b, u1, u2, rfl, _⟩ := h
      have t1 := @ta_ll; have t2 := @ta_lb; have t3 := @ta_lr; have t4 := @ta_bl; have t5 := @ta_bb; have t6 := @ta_br; have t7 := @ta_rl; have t8 := @ta_rb; have t9 := @ta_rr
      go_enter Tryd.func45, Tryd.ntmps45
      go_wp2
      go_ret2
      exact ⟨⟨_, rfl, rfl⟩, rfl⟩
    | bucket hh t =>
      simp only [ONodeAt, NodeAt] at h
      obtain ⟨b, tv, rfl, _, ⟨_, c1⟩, ht⟩ := h
      obtain ⟨A, rfl⟩ := ht.form
      have HT := Lib.hid ht
      clear ht
      have t1 := @ta_ll; have t2 := @ta_lb; have t3 := @ta_lr; have t4 := @ta_bl; have t5 := @ta_bb; have t6 := @ta_br; have t7 := @ta_rl; have t8 := @ta_rb; have t9 := @ta_rr
      go_enter Tryd.func45, Tryd.ntmps45
      go_wp2
      go_ret2
      exact ⟨⟨_, rfl, _, rfl, HT.out⟩, rfl⟩
    | branch m kids =>
      simp only [ONodeAt, NodeAt] at h
      obtain ⟨b, _, _, _, rfl, _⟩ := h
      have t1 := @ta_ll; have t2 := @ta_lb; have t3 := @ta_lr; have t4 := @ta_bl; have t5 := @ta_bb; have t6 := @ta_br; have t7 := @ta_rl; have t8 := @ta_rb; have t9 := @ta_rr
      go_enter Tryd.func45, Tryd.ntmps45
      go_wp2
      go_ret2
      exact ⟨⟨_, rfl, rfl⟩, rfl⟩
end Go.Proofs.YtehkjnmnbplcoaaDoor
