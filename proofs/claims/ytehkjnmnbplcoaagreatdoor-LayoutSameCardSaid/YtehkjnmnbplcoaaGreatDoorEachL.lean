
import Derived.Test.YtehkjnmnbplcoaaGreatDoorRangeA
import Derived.Test.YtehkjnmnbplcoaaGreatDoorSpot
import Derived.Test.YtehkjnmnbplcoaaGreatDoorSameA
import Derived.Shelf.AbstractIn
namespace Go.Proofs.YtehkjnmnbplcoaaGreatDoor
open Go.RowKit Go.Bw Go.Shelf
attribute [local go_sem] Oper.semAt_some

/-! ### plain -/
def _root_.Bw.N.num : Bw.N → Nat
  | .branch m _ => m
  | _ => 0
def _root_.Bw.N.kidAt (c : Nat) : Bw.N → Option Bw.N
  | .branch m kids => Bw.kidO m kids c
  | _ => none
def vol (wt : Bw.N × Nat → Nat) (l : List (Bw.N × Nat)) : Nat := (l.map wt).sum
theorem vol_append (wt : Bw.N × Nat → Nat) (a b : List (Bw.N × Nat)) : vol wt (a ++ b) = vol wt a + vol wt b := by simp [vol]
theorem vol_cons (wt : Bw.N × Nat → Nat) (x : Bw.N × Nat) (b : List (Bw.N × Nat)) : vol wt (x :: b) = wt x + vol wt b := by simp [vol]
mutual
/-- what a visit may need, however its rounds come -/
def _root_.Bw.N.need (wt : Bw.N × Nat → Nat) (lv : Nat) : Bw.N → Nat
  | .leaf h p => wt (.leaf h p, lv)
  | .bucket h t => wt (.bucket h t, lv)
  | .branch m kids => wt (.branch m kids, lv) + 32 * vol wt (Bw.N.visitsL (lv + 1) kids) + Bw.N.needL wt (lv + 1) kids
def _root_.Bw.N.needL (wt : Bw.N × Nat → Nat) (lv : Nat) : List Bw.N → Nat
  | [] => 0
  | k :: r => k.need wt lv + Bw.N.needL wt lv r
end

theorem vol_mem {wt : Bw.N × Nat → Nat} {lv : Nat} {kids : List Bw.N} {k : Bw.N} (h : k ∈ kids) : vol wt (k.visits lv) ≤ vol wt (Bw.N.visitsL lv kids) ∧ k.need wt lv ≤ Bw.N.needL wt lv kids := by
  induction kids with
  | nil => simp at h
  | cons a r ih =>
    simp only [Bw.N.visitsL, Bw.N.needL, vol_append]
    rcases List.mem_cons.1 h with rfl | h
    · omega
    · have := ih h; omega

theorem mem_visitsL {lv : Nat} {kids : List Bw.N} {k : Bw.N} (h : k ∈ kids) : ∀ x ∈ k.visits lv, x ∈ Bw.N.visitsL lv kids := by
  induction kids with
  | nil => simp at h
  | cons a r ih =>
    intro x hx
    simp only [Bw.N.visitsL, List.mem_append]
    rcases List.mem_cons.1 h with rfl | h
    · exact .inl hx
    · exact .inr (ih h x hx)

theorem kidO_mem {m c : Nat} {kids : List Bw.N} {k : Bw.N} (h : Bw.kidO m kids c = some k) : k ∈ kids := by
  unfold Bw.kidO at h
  split at h
  · exact List.mem_of_getElem? h
  · cases h

theorem kids_bits {m : Nat} {kids : List Bw.N} (hl : kids.length = (Bw.bitsOf m).length) : (Bw.bitsOf m).map (fun c => Bw.kidO m kids c) = kids.map some := by
  apply List.ext_getElem
  · simp [hl]
  · intro i h1 h2
    simp only [List.length_map] at h1 h2
    simp only [List.getElem_map]
    have hm : (Bw.bitsOf m)[i] ∈ Bw.bitsOf m := List.getElem_mem h1
    have ht := (Bw.mem_bitsOf.1 hm).2
    have hat := Bw.bits_at_mem hm
    have hij : Bw.ones (Bw.bitsOf m)[i] m = i := by
      obtain ⟨hj, he⟩ := List.getElem?_eq_some_iff.1 hat
      exact (List.getElem_inj (Bw.nodup_bitsOf m)).1 he
    unfold Bw.kidO
    rw [if_pos ht, hij, List.getElem?_eq_getElem h2]

theorem visitsL_flat (lv : Nat) (kids : List Bw.N) : Bw.N.visitsL lv kids = (kids.map some).flatMap (Bw.visitsO lv) := by
  induction kids with
  | nil => rfl
  | cons k r ih => simp [Bw.N.visitsL, ih, Bw.visitsO]

theorem visits_eq {n : Bw.N} (hf : n.fit) (lv : Nat) : n.visits lv = (n, lv) :: (Bw.bitsOf n.num).flatMap fun c => Bw.visitsO (lv + 1) (n.kidAt c) := by
  cases n with
  | leaf h p => simp [Bw.N.visits, Bw.N.num, Bw.bitsOf_zero]
  | bucket h t => simp [Bw.N.visits, Bw.N.num, Bw.bitsOf_zero]
  | branch m kids =>
    simp only [Bw.N.fit] at hf
    simp only [Bw.N.visits, Bw.N.num, Bw.N.kidAt]
    rw [visitsL_flat, ← kids_bits hf.2.1, List.flatMap_map]

/-! ### what a call may turn: the block o, and rows of the element type e; nothing of the blocks below n -/
def ECells (e : Nat) (W : World) (k : Nat) : Prop := ∃ cs fr, W.heap[k]? = some (.cells cs e fr)

structure Tame (n o e : Nat) (W W' : World) : Prop where
  os : W'.os = W.os
  tape : W'.tape = W.tape
  output : W'.output = W.output
  size : W.heap.size ≤ W'.heap.size
  keep : ∀ k, k < W.heap.size → (k < n ∨ k ≠ o ∧ ¬ ECells e W k) → W'.heap[k]? = W.heap[k]?

theorem Tame.of_below {n o e : Nat} {W W' : World} (h : Below W.heap.size W W') : Tame n o e W W' := ⟨h.os, h.tape, h.output, h.size, fun k hk _ => h.block k hk⟩
theorem Tame.refl (n o e : Nat) (W : World) : Tame n o e W W := .of_below (Below.refl _ _)
theorem Tame.trans {n o e : Nat} {A B C : World} (h : Tame n o e A B) (k : Tame n o e B C) : Tame n o e A C :=
  ⟨k.os.trans h.os, k.tape.trans h.tape, k.output.trans h.output, Nat.le_trans h.size k.size, fun i hi hc => by
    have h1 := h.keep i hi hc
    refine (k.keep i (Nat.lt_of_lt_of_le hi h.size) (hc.imp id fun ⟨a, b⟩ => ⟨a, fun ⟨cs, fr, hx⟩ => b ⟨cs, fr, by rw [← h1]; exact hx⟩⟩)).trans h1⟩
theorem Tame.below {n o e : Nat} {W W' : World} (h : Tame n o e W W') (hn : n ≤ W.heap.size) : Below n W W' :=
  ⟨h.os, h.tape, h.output, h.size, fun k hk => h.keep k (Nat.lt_of_lt_of_le hk hn) (.inl hk)⟩
theorem Tame.block {n o e : Nat} {W W' : World} {k : Nat} {x : Obj} (h : Tame n o e W W') (hx : W.heap[k]? = some x) (hko : k ≠ o) (hne : ∀ cs fr, x ≠ .cells cs e fr) : W'.heap[k]? = some x :=
  (h.keep k (Array.getElem?_eq_some_iff.1 hx).1 (.inr ⟨hko, fun ⟨cs, fr, hy⟩ => hne cs fr (Option.some.inj (hx.symm.trans hy))⟩)).trans hx
theorem Tame.boxed {n o e : Nat} {W W' : World} {B : Nat} {t : TypeId} {v : Value} (h : Tame n o e W W') (hb : Boxed W B t v) (hte : t ≠ e) (hko : B ≠ o) : Boxed W' B t v :=
  h.block hb hko fun cs fr he => by injection he with _ h2 _; exact hte h2
theorem Tame.others {n o e : Nat} {W W' : World} (h : Tame n o e W W') (ho : ∃ b, W.heap[o]? = some b ∧ b.isCells = true) : KeepsOthers W W' :=
  ⟨h.size, fun k x hx hc => h.block hx (fun he => by obtain ⟨b, hb, hc'⟩ := ho; rw [he, hb] at hx; cases hx; rw [hc] at hc'; cases hc') fun cs fr he => by subst he; cases hc⟩

theorem ownFrom_tame {β : Type} (n o e : Nat) (W1 : World) : OwnFrom W1.heap.size (fun (_ : β) W => Tame n o e W1 W) := fun _ X Y row hs hg hr =>
  ⟨hg.os.trans hs.os, hg.tape.trans hs.tape, hg.output.trans hs.output, Nat.le_trans hs.size hg.size, fun k hk hc => by
    refine (hg.block k (Nat.lt_of_lt_of_le hk hs.size) (fun he => ?_)).trans (hs.keep k hk hc)
    have := (hr k he.symm).1
    omega⟩

theorem ownFrom_map {β γ : Type} {B B' : Nat} {I : β → World → Prop} (h : OwnFrom B I) (hB : B ≤ B') (g : γ → β) : OwnFrom B' (fun s W => I (g s) W) := fun s W W' row hs hg hr =>
  h (g s) W W' row hs hg fun r e => ⟨Nat.le_trans hB (hr r e).1, (hr r e).2⟩

/-- the value of a function that is called with one captured cell, at each node -/
structure EachOk (K : Nat) (cap : Value) (n0 o e M : Nat) (wt : Bw.N × Nat → Nat) (Inv : List (Bw.N × Nat) → World → Prop) (Pn : Bw.N × Nat → Prop) : Prop where
  enters : ∀ args w, (callFunc K args).run Tryz.prog w = .ok (.enter K args) w
  pos : 0 < n0
  ty : 27 ≠ e ∧ 3 ≠ e ∧ 105 ≠ e ∧ 73 ≠ e
  low : ∀ pre W, Inv pre W → n0 ≤ W.heap.size ∧ Tab W ∧ ∃ b, W.heap[o]? = some b ∧ b.isCells = true
  own : OwnFrom n0 Inv
  run : ∀ pre n lv W nv, Inv pre W → Pn (n, lv) → NodeAt nt (fun k => k < n0) W nv n → vol wt pre + wt (n, lv) ≤ M →
    Calls Tryz.prog K #[nv, .int .i64 (lv : Nat), cap] W fun e' w' => e' = .returned (.tuple #[]) ∧ Inv (pre ++ [(n, lv)]) w' ∧ Tame n0 o e W w'

theorem low_move {n0 o e : Nat} {W W' : World} (h : Tame n0 o e W W') : Moves (fun k => k < n0) (fun k => k < n0) W W' := fun k hk hl => ⟨hk, h.keep k hl (.inl hk)⟩

set_option maxRecDepth 100000 in
set_option maxHeartbeats 1000000 in
theorem leach_nil {K : Nat} {cap : Value} (lv : Nat) (W : World) :
    Calls Tryz.prog 51 #[.nilIface, .int .i64 (lv : Nat), .func (Fn.func K) #[] #[cap]] W fun e' w' => e' = .returned (.tuple #[]) ∧ Below W.heap.size W w' := by
  go_enter Tryz.func51, Tryz.ntmps51
  go_wp2
  refine bodyPost_ret (results_none rfl _ _ _) rfl ⟨rfl, by (repeat (first | exact Below.refl _ _ | with_reducible assumption | refine Below.drew ?_ | refine b_drewN ?_ _ | (refine Below.alloc ?_ (by first | omega | (simp <;> omega)) _)))⟩

/-- what Kid tells, in one form -/
theorem kid_at {ok : Nat → Prop} {v : Value} {n : Bw.N} {w : World} (c : Nat) (h : NodeAt nt ok w v n) (hf : n.fit) :
    Calls Tryz.prog 41 #[v, .int .i64 (c : Nat)] w fun e w' => ∃ u b d, e = .returned (.tuple #[u, .bool b]) ∧ ONodeAt nt ok w u (n.kidAt c) ∧ w' = w.drewN d := by
  refine (kid_any (n := some n) (c : Int) h (fun m kids e => by cases e; simp only [Bw.N.fit] at hf; exact ⟨hf.1, hf.2.1⟩)).mono ?_
  rintro e w' ⟨⟨r, rfl, hk⟩, d, rfl⟩
  cases n with
  | leaf h p => exact ⟨_, _, d, by rw [hk], rfl, rfl⟩
  | bucket h t => exact ⟨_, _, d, by rw [hk], rfl, rfl⟩
  | branch m kids =>
    simp only [KidTold] at hk
    simp only [Bw.N.fit] at hf
    simp only [Bw.N.kidAt, Bw.kidO]
    split at hk
    · rename_i hb
      obtain ⟨u, k, rfl, hk1, hk2⟩ := hk
      simp only [Int.toNat_natCast] at hb hk1
      exact ⟨u, true, d, rfl, by rw [if_pos hb.2.2, hk1]; exact hk2, rfl⟩
    · rename_i hb
      refine ⟨_, _, d, by rw [hk], ?_, rfl⟩
      rw [if_neg]
      · rfl
      · intro ht
        have hc : c < 32 := by
          rcases Nat.lt_or_ge c 32 with x | x
          · exact x
          · have := Nat.pow_le_pow_right (n := 2) (by decide) x
            rw [Nat.testBit_lt_two_pow (by omega)] at ht; cases ht
        exact hb ⟨by omega, by omega, by simpa using ht⟩

theorem map_at {ok : Nat → Prop} {v : Value} {n : Bw.N} {w : World} (h : NodeAt nt ok w v n) :
    Calls Tryz.prog 36 #[v] w fun e w' => ∃ b, e = .returned (.tuple #[.int .u32 (n.num : Nat), .bool b]) ∧ w = w' := by
  refine (map_any (n := some n) h).mono ?_
  rintro e w' ⟨rfl, rfl⟩
  cases n <;> exact ⟨_, rfl, rfl⟩

theorem box_new (W : World) (o : Obj) {B : Nat} {t : TypeId} {v : Value} (h : Boxed W B t v) : Boxed (W.alloc o) B t v := h.alloc o

theorem fit_num {n : Bw.N} (h : n.fit) : n.num < 4294967296 := by
  cases n with
  | leaf => simp [Bw.N.num]
  | bucket => simp [Bw.N.num]
  | branch m kids => simp only [Bw.N.fit] at h; exact h.1

set_option maxRecDepth 100000 in
set_option maxHeartbeats 4000000 in
theorem leach_any {K : Nat} {cap : Value} {n0 o e M : Nat} {wt : Bw.N × Nat → Nat} {Inv : List (Bw.N × Nat) → World → Prop} {Pn : Bw.N × Nat → Prop} (E : EachOk K cap n0 o e M wt Inv Pn) (n : Bw.N) :
    n.fit → ∀ (v : Value) (lv : Nat) (pre0 : List (Bw.N × Nat)) (W : World), Inv pre0 W → NodeAt nt (fun k => k < n0) W v n → (∀ x ∈ n.visits lv, Pn x ∧ x.2 ≤ 100000) → vol wt pre0 + n.need wt lv ≤ M →
    Calls Tryz.prog 51 #[v, .int .i64 (lv : Nat), .func (Fn.func K) #[] #[cap]] W fun e' w' => e' = .returned (.tuple #[]) ∧ Inv (pre0 ++ n.visits lv) w' ∧ Tame n0 o e W w' := by
  have key : ∀ n : Bw.N, (∀ m kids, n = .branch m kids → ∀ k ∈ kids, k.fit → ∀ (v : Value) (lv : Nat) (pre0 : List (Bw.N × Nat)) (W : World), Inv pre0 W → NodeAt nt (fun k => k < n0) W v k → (∀ x ∈ k.visits lv, Pn x ∧ x.2 ≤ 100000) → vol wt pre0 + k.need wt lv ≤ M →
      Calls Tryz.prog 51 #[v, .int .i64 (lv : Nat), .func (Fn.func K) #[] #[cap]] W fun e' w' => e' = .returned (.tuple #[]) ∧ Inv (pre0 ++ k.visits lv) w' ∧ Tame n0 o e W w') →
      n.fit → ∀ (v : Value) (lv : Nat) (pre0 : List (Bw.N × Nat)) (W : World), Inv pre0 W → NodeAt nt (fun k => k < n0) W v n → (∀ x ∈ n.visits lv, Pn x ∧ x.2 ≤ 100000) → vol wt pre0 + n.need wt lv ≤ M →
      Calls Tryz.prog 51 #[v, .int .i64 (lv : Nat), .func (Fn.func K) #[] #[cap]] W fun e' w' => e' = .returned (.tuple #[]) ∧ Inv (pre0 ++ n.visits lv) w' ∧ Tame n0 o e W w' := by
    clear n
    intro n IH hf v lv pre0 W hi hn hP hM
    obtain ⟨tn, bn, rfl⟩ := hn.form
    obtain ⟨hlow, hTab, ob, hob, hoc⟩ := E.low _ _ hi
    have hol : o < W.heap.size := (Array.getElem?_eq_some_iff.1 hob).1
    obtain ⟨hPn, hlv⟩ := hP (n, lv) (by rw [visits_eq hf]; simp)
    have hneed : vol wt pre0 + wt (n, lv) ≤ M := by
      cases n <;> simp only [Bw.N.need] at hM <;> omega
    -- the boxes of the parameters
    obtain ⟨W3, hW3⟩ : ∃ W3, ((W.alloc (.cells #[.iface tn (.pointer (some ⟨bn, 0, none⟩))] 27)).alloc (.cells #[.int .i64 (lv : Nat)] 3)).alloc (.cells #[.func (Fn.func K) #[] #[cap]] 105) = W3 := ⟨_, rfl⟩
    have b0 : Boxed W3 W.heap.size 27 (.iface tn (.pointer (some ⟨bn, 0, none⟩))) := by rw [← hW3]; exact ((Boxed.new W _ _).alloc _).alloc _
    have b1 : Boxed W3 (W.heap.size + 1) 3 (.int .i64 (lv : Nat)) := by
      rw [← hW3]; have := (Boxed.new (W.alloc (.cells #[.iface tn (.pointer (some ⟨bn, 0, none⟩))] 27)) 3 (.int .i64 (lv : Nat))).alloc (.cells #[.func (Fn.func K) #[] #[cap]] 105)
      simpa using this
    have b2 : Boxed W3 (W.heap.size + 1 + 1) 105 (.func (Fn.func K) #[] #[cap]) := by
      rw [← hW3]; have := Boxed.new ((W.alloc (.cells #[.iface tn (.pointer (some ⟨bn, 0, none⟩))] 27)).alloc (.cells #[.int .i64 (lv : Nat)] 3)) 105 (.func (Fn.func K) #[] #[cap])
      simpa using this
    have hB3 : Below W.heap.size W W3 := by rw [← hW3]; (repeat (first | exact Below.refl _ _ | with_reducible assumption | refine Below.drew ?_ | refine b_drewN ?_ _ | (refine Below.alloc ?_ (by first | omega | (simp <;> omega)) _)))
    have hs3 : W3.heap.size = W.heap.size + 1 + 1 + 1 := by rw [← hW3]; simp
    have hi3 : Inv pre0 W3 := by rw [← hW3]; exact E.own.alloc _ (E.own.alloc _ (E.own.alloc _ hi))
    have hn3 : NodeAt nt (fun k => k < n0) W3 (.iface tn (.pointer (some ⟨bn, 0, none⟩))) n := NodeAt.move (Moves.below hB3) _ _ hn
    have hT3 : Tame n0 o e W W3 := .of_below hB3
    have CY := Lib.hid (E.run pre0 n lv W3 _ hi3 hPn hn3 hneed)
    have HN := Lib.hid hn; have HI := Lib.hid hi; have HP := Lib.hid hP; have HM := Lib.hid hM; have HIH := Lib.hid IH; have HF := Lib.hid hf; have HLOW := Lib.hid hlow; have HTAB := Lib.hid hTab
    have HT3 := Lib.hid hT3; have HB0 := Lib.hid b0; have HB1 := Lib.hid b1; have HB2 := Lib.hid b2; have HW3 := Lib.hid hW3; have HN3 := Lib.hid hn3; have HS3 := Lib.hid hs3; have HOL := Lib.hid hol; have HLV := Lib.hid hlv; have HOC : Hid (∃ b, W.heap[o]? = some b ∧ b.isCells = true) := Lib.hid ⟨ob, hob, hoc⟩
    clear hi hn hP hM IH hf hlow hTab hT3 hn3 hi3 hB3 hob hoc hneed hPn hlv hs3 hol
    refine (callsIn_wide (n := 3)).1 ?_
    refine callsIn_of_wp_marks Tryz.func51 rfl trivial ?_ rfl
    simp only [Tryz.ntmps51, List.size_toArray, List.length_cons, List.length_nil, Nat.reduceAdd, Nat.reduceSub, Array.replicate_succ, Array.replicate_zero, List.push_toArray, List.append_toArray, List.nil_append, List.cons_append]
    have c0 := b0.cell; have c1 := b1.cell; have c2 := b2.cell
    have hE := E.enters
    gi_wp2
    refine ⟨trivial, ?_⟩
    gi_at_fn K
    refine (callsIn_wide.2 CY.out).mono ?_
    rintro e' W4 ⟨rfl, hi4, ht4⟩
    have ht4' := ht4
    have hs4 := ht4.size
    have hne : W.heap.size ≠ o ∧ W.heap.size + 1 ≠ o ∧ W.heap.size + 1 + 1 ≠ o := by have := HOL.out; omega
    have d0 := ht4.boxed b0 E.ty.1 hne.1
    have d1 := ht4.boxed b1 E.ty.2.1 hne.2.1
    have d2 := ht4.boxed b2 E.ty.2.2.1 hne.2.2
    have x0 := d0.cell; have x1 := d1.cell; have x2 := d2.cell
    have hn4 : NodeAt nt (fun k => k < n0) W4 (.iface tn (.pointer (some ⟨bn, 0, none⟩))) n := NodeAt.move (low_move ht4) _ _ HN3.out
    have CM := Lib.hid (map_at hn4)
    have CA := Lib.hid (all_in 2 n.num W4)
    have HD0 := Lib.hid d0; have HD1 := Lib.hid d1; have HD2 := Lib.hid d2; have HT4 := Lib.hid ht4; have HN4 := Lib.hid hn4; have HI4 := Lib.hid hi4
    clear b0 b1 b2 c0 c1 c2 d0 d1 d2 ht4 ht4' hn4 hi4 CY
    gi_wp2_with (first
      | (refine ⟨trivial, ?_⟩; gi_at_call 36; refine (callsIn_wide.2 CM.out).mono ?_; rintro e' w' ⟨bm, rfl, rfl⟩)
      | (refine ⟨trivial, ?_⟩; gi_at_call 63; refine CA.out.mono ?_; rintro e' w' ⟨rfl, rfl⟩))
    obtain ⟨W5, hW5⟩ : ∃ W5, W4.alloc (.cells #[.int .u32 (n.num : Nat)] 73) = W5 := ⟨_, rfl⟩
    rw [hW5]
    have hlow := HLOW.out; have hs3 := HS3.out; have hol := HOL.out
    have hB5 : Below W4.heap.size W4 W5 := by rw [← hW5]; (repeat (first | exact Below.refl _ _ | with_reducible assumption | refine Below.drew ?_ | refine b_drewN ?_ _ | (refine Below.alloc ?_ (by first | omega | (simp <;> omega)) _)))
    have hs5 : W5.heap.size = W4.heap.size + 1 := by rw [← hW5]; simp
    have hbm : Boxed W5 W4.heap.size 73 (.int .u32 (n.num : Nat)) := by rw [← hW5]; exact Boxed.new W4 _ _
    have hi5 : Inv (pre0 ++ [(n, lv)]) W5 := by rw [← hW5]; exact E.own.alloc _ HI4.out
    have ht5 : Tame n0 o e W W5 := (HT3.out.trans HT4.out).trans (.of_below hB5)
    have e0 : Boxed W5 W.heap.size 27 (.iface tn (.pointer (some ⟨bn, 0, none⟩))) := by rw [← hW5]; exact HD0.out.alloc _
    have e1 : Boxed W5 (W.heap.size + 1) 3 (.int .i64 (lv : Nat)) := by rw [← hW5]; exact HD1.out.alloc _
    have e2 : Boxed W5 (W.heap.size + 1 + 1) 105 (.func (Fn.func K) #[] #[cap]) := by rw [← hW5]; exact HD2.out.alloc _
    have hn5 : NodeAt nt (fun k => k < n0) W5 (.iface tn (.pointer (some ⟨bn, 0, none⟩))) n := NodeAt.move (Moves.below hB5) _ _ HN4.out
    have hT5 : Tab W5 := HTAB.out.below E.pos (ht5.below hlow)
    refine wpIn_rangeFunc_ownF (w := W5) rfl (by omega) (gf := 88) (lb := #[.pointer (some ⟨W4.heap.size, 0, none⟩)]) rfl trivial (enters_of Tryz.func88 (by kernel_rfl) rfl)
      (all_stops _ (by omega) W4.heap.size n0 n.num (fit_num HF.out) E.pos W5 (by omega) hbm.cell hT5) belowK_t (belowK_b (by omega)) (Below.refl _ _) (fun _ => rfl)
      (fun (pre : List Nat) (W' : World) => Inv (pre0 ++ (n, lv) :: pre.flatMap fun c => Bw.visitsO (lv + 1) (n.kidAt c)) W' ∧ Tame n0 o e W5 W')
      (fun _ _ _ => False)
      (OwnFrom.and (ownFrom_map E.own (by omega) (fun pre : List Nat => pre0 ++ (n, lv) :: pre.flatMap fun c => Bw.visitsO (lv + 1) (n.kidAt c))) (ownFrom_tame n0 o e W5))
      (fun _ _ _ _ _ h _ _ => h)
      ⟨by simpa using hi5, Tame.refl _ _ _ _⟩
      (fun y => { tmps := #[.iface tn (.pointer (some ⟨bn, 0, none⟩)), .int .i64 (lv : Nat), .func (Fn.func K) #[] #[cap], .pointer (some ⟨W.heap.size, 0, none⟩), .pointer (some ⟨W.heap.size + 1, 0, none⟩), .pointer (some ⟨W.heap.size + 1 + 1, 0, none⟩), .int .u32 (n.num : Nat), .bool bm, .int .i64 (y : Nat), undef, undef,
        .iface tn (.pointer (some ⟨bn, 0, none⟩)), .bool false, .func (Fn.func K) #[] #[cap], .iface tn (.pointer (some ⟨bn, 0, none⟩)), .int .i64 (lv : Nat), .tuple #[], .tuple #[.int .u32 (n.num : Nat), .bool bm], .iface tn (.pointer (some ⟨bn, 0, none⟩)), .tuple #[.int .u32 (n.num : Nat), .bool bm], .int .u32 (n.num : Nat), .bool bm, .int .u32 (n.num : Nat),
        .func (.func 88) #[] #[.pointer (some ⟨W4.heap.size, 0, none⟩)], .int .i64 (y : Nat), undef, undef, undef, undef, undef, undef, undef, undef, undef, undef, undef], defers := [] }) ?assign ?body ?done ?stop
    case assign =>
      intro l x W K hK
      gi_wp2
      exact hK
    case body =>
      rintro l pre y W6 ⟨hi6, ht6⟩ hlen
      have f0 := (ht6.boxed e0 E.ty.1 hne.1).cell
      have f1 := (ht6.boxed e1 E.ty.2.1 hne.2.1).cell
      have f2 := (ht6.boxed e2 E.ty.2.2.1 hne.2.2).cell
      have hn6 := NodeAt.move (low_move ht6) _ _ hn5
      have CK := Lib.hid (kid_at y hn6 HF.out)
      have CE : Hid (∀ (u : Value) (W' : World), ONodeAt nt (fun k => k < n0) W' u (n.kidAt y) → Inv (pre0 ++ (n, lv) :: pre.flatMap fun c => Bw.visitsO (lv + 1) (n.kidAt c)) W' →
          Calls Tryz.prog 51 #[u, .int .i64 (wrap64 ((lv : Int) + 1)), .func (Fn.func K) #[] #[cap]] W' fun e' w' => e' = .returned (.tuple #[]) ∧ Inv (pre0 ++ (n, lv) :: (pre ++ [y]).flatMap fun c => Bw.visitsO (lv + 1) (n.kidAt c)) w' ∧ Tame n0 o e W' w') := Lib.hid (by
        intro u W' hu hi'
        rw [int_succ (n := 100001) (by have := HLV.out; omega) (by decide)]
        simp only [List.flatMap_append, List.flatMap_cons, List.flatMap_nil, List.append_nil]
        cases hk : n.kidAt y with
        | none =>
          rw [hk] at hu
          simp only [ONodeAt] at hu
          subst hu
          refine (leach_nil (lv + 1) W').mono ?_
          rintro e' w' ⟨rfl, hb⟩
          refine ⟨rfl, ?_, .of_below hb⟩
          simp only [Bw.visitsO, List.append_nil]
          exact E.own _ W' w' none hi' ⟨hb.os, hb.tape, hb.output, hb.size, fun k hk _ => hb.block k hk⟩ (fun r e => by cases e)
        | some k =>
          rw [hk] at hu
          simp only [ONodeAt] at hu
          cases n with
          | leaf h p => cases hk
          | bucket h t => cases hk
          | branch m kids =>
            have hmem : k ∈ kids := kidO_mem hk
            have hff := HF.out
            simp only [Bw.N.fit, Bw.N.fitL_iff] at hff
            have hvm := vol_mem (wt := wt) (lv := lv + 1) hmem
            have hMM := HM.out
            simp only [Bw.N.need] at hMM
            have hl32 : pre.length < 32 := Nat.lt_of_lt_of_le hlen (Nat.le_trans (List.length_filter_le _ _) (by simp))
            have hvp : vol wt (pre.flatMap fun c => Bw.visitsO (lv + 1) (Bw.N.kidAt c (.branch m kids))) ≤ pre.length * vol wt (Bw.N.visitsL (lv + 1) kids) := by
              clear hlen hl32 hi6 hi' hk
              induction pre with
              | nil => simp [vol]
              | cons c r ih =>
                have ih := ih
                simp only [List.flatMap_cons, vol_append, List.length_cons, Nat.add_mul, Nat.one_mul]
                have : vol wt (Bw.visitsO (lv + 1) (Bw.N.kidAt c (.branch m kids))) ≤ vol wt (Bw.N.visitsL (lv + 1) kids) := by
                  cases hc : Bw.N.kidAt c (.branch m kids) with
                  | none => simp [Bw.visitsO, vol]
                  | some k' => exact (vol_mem (kidO_mem hc)).1
                omega
            have hm1 : pre.length * vol wt (Bw.N.visitsL (lv + 1) kids) ≤ 32 * vol wt (Bw.N.visitsL (lv + 1) kids) := Nat.mul_le_mul_right _ (by omega)
            refine (HIH.out m kids rfl k hmem (hff.2.2 k hmem) u (lv + 1) _ W' hi' hu (fun x hx => HP.out x (by simp only [Bw.N.visits]; exact List.mem_cons_of_mem _ (mem_visitsL hmem x hx))) ?_).mono ?_
            · rw [vol_append, vol_cons]; omega
            · rintro e' w' ⟨rfl, h1, h2⟩
              refine ⟨rfl, ?_, h2⟩
              simpa [Bw.visitsO] using h1)
      have HI6 := Lib.hid hi6; have HT6 := Lib.hid ht6
      clear hi6 ht6 hn6
      gi_wp2_with (first
        | (refine ⟨trivial, ?_⟩; gi_at_call 41; refine (CallsIn.inRound l (callsIn_wide.2 CK.out)).mono ?_; rintro e' w' ⟨u, b, d, rfl, hu, rfl⟩)
        | (refine ⟨trivial, ?_⟩; gi_at_call 51; refine (CallsIn.inRound l (callsIn_wide.2 (CE.out u _ (ONodeAt.move (Moves.drewN _ _) hu) (E.own _ _ _ none HI6.out ⟨rfl, rfl, rfl, Nat.le_refl _, fun _ _ _ => rfl⟩ (fun r e => by cases e))))).mono ?_; rintro e' w7 ⟨rfl, hi7, ht7⟩))
      have ht7' : Tame n0 o e W6 w7 := ⟨ht7.os, ht7.tape, ht7.output, ht7.size, ht7.keep⟩
      obtain ⟨hl6, _, ho6⟩ := E.low _ _ HI6.out
      exact ⟨ht7'.others ho6, ht7'.below hl6, hi7, HT6.out.trans ht7'⟩
    case done =>
      rintro D ys W6 hD rfl ⟨hi6, ht6⟩ hK
      gi_wp2
      refine ⟨by simp, .inl ⟨_, _, rfl, run_takeDeferred hK, ?_⟩⟩
      refine ⟨_, results_none rfl _ _ _, rfl, ?_, ?_⟩
      · rw [visits_eq HF.out]
        exact E.own.putObj _ hi6 (by omega) hK rfl
      · exact ht5.trans ((ownFrom_tame (β := Unit) n0 o e W5).putObj (s := ()) _ ht6 hD hK rfl)
    case stop => exact fun _ _ _ _ _ _ h _ => h.elim
  exact Bw.N.ind (P := fun n => n.fit → ∀ (v : Value) (lv : Nat) (pre0 : List (Bw.N × Nat)) (W : World), Inv pre0 W → NodeAt nt (fun k => k < n0) W v n → (∀ x ∈ n.visits lv, Pn x ∧ x.2 ≤ 100000) → vol wt pre0 + n.need wt lv ≤ M →
    Calls Tryz.prog 51 #[v, .int .i64 (lv : Nat), .func (Fn.func K) #[] #[cap]] W fun e' w' => e' = .returned (.tuple #[]) ∧ Inv (pre0 ++ n.visits lv) w' ∧ Tame n0 o e W w')
    (fun h p => key _ (fun m kids e => by cases e)) (fun h t => key _ (fun m kids e => by cases e)) (fun m kids ih => key _ (fun m' kids' e => by cases e; exact ih)) n
end Go.Proofs.YtehkjnmnbplcoaaGreatDoor
