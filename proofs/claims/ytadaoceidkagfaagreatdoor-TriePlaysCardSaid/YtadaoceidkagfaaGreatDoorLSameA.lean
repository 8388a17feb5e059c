
import Derived.Test.YtadaoceidkagfaaGreatDoorNodeC
import Derived.Test.YtadaoceidkagfaaGreatDoorBwG
import Derived.Laws.StructEq
import Derived.KernelRfl
import Derived.Test.YtadaoceidkagfaaGreatDoorRangeA
import Derived.Test.YtadaoceidkagfaaGreatDoorSameA
import Derived.Shelf.AbstractIn
import Derived.Deep.RegionLaw
import Derived.Deep.AppendLies
import Derived.Test.YtadaoceidkagfaaGreatDoorBwAll
import Derived.Shelf.SlSortCmp.WholeK
import Derived.Test.YtadaoceidkagfaaGreatDoorListA
import Derived.Shelf.Abstract
namespace Go.Proofs.YtadaoceidkagfaaGreatDoor
open Go.RowKit Go.Bw
def encSpot (s : Bw.Spot) : List Value := [.int .i64 (s.1 : Nat), .int .i64 (s.2.1 : Nat), .int .u64 (s.2.2.1 : Nat), .int .u32 (s.2.2.2.1 : Nat), .int .i64 (s.2.2.2.2 : Nat)]
def spotK : Knd Bw.Spot := fun _ _ x cs => cs = encSpot x
theorem goodSpot : _root_.Go.Bw.Good 5 spotK where
  len := by rintro ok w x cs rfl; rfl
  one := by
    rintro ok w x cs rfl u hu
    simp only [encSpot, List.mem_cons, List.not_mem_nil, or_false] at hu
    rcases hu with rfl | rfl | rfl | rfl | rfl <;> rfl
  move := by rintro ok ok' w w' x cs _ h; exact h
abbrev SpotsAt := RowAt 5 spotK
theorem spot_get {ok : Nat -> Prop} {w : World} {A : Option Addr} {n c j : Nat} {xs : List Bw.Spot} {s : Bw.Spot} (h : SpotsAt ok w (.slice A n c) xs) (hj : xs[j]? = some s) :
    ∃ b o, A = some ⟨b, o, none⟩ /\ w.cell? ⟨b, o + j * 5, none⟩ = some (.int .i64 (s.1 : Nat)) /\ w.cell? ⟨b, o + j * 5 + 1, none⟩ = some (.int .i64 (s.2.1 : Nat)) /\ w.cell? ⟨b, o + j * 5 + 2, none⟩ = some (.int .u64 (s.2.2.1 : Nat)) /\
      w.cell? ⟨b, o + j * 5 + 3, none⟩ = some (.int .u32 (s.2.2.2.1 : Nat)) /\ w.cell? ⟨b, o + j * 5 + 4, none⟩ = some (.int .i64 (s.2.2.2.2 : Nat)) := by
  obtain ⟨b, o, cs, rfl, rfl, hc⟩ := h.get hj
  exact ⟨b, o, rfl, (hc 0 _ rfl).2, (hc 1 _ rfl).2, (hc 2 _ rfl).2, (hc 3 _ rfl).2, (hc 4 _ rfl).2⟩
open Go.RowKit Go.Bw Go.Shelf
attribute [local go_sem] Oper.semAt_some
def _root_.Bw.N.num : Bw.N -> Nat
  | .branch m _ => m
  | _ => 0
def _root_.Bw.N.kidAt (c : Nat) : Bw.N -> Option Bw.N
  | .branch m kids => Bw.kidO m kids c
  | _ => none
def vol (wt : Bw.N × Nat -> Nat) (l : List (Bw.N × Nat)) : Nat := (l.map wt).sum
theorem vol_append (wt : Bw.N × Nat -> Nat) (a b : List (Bw.N × Nat)) : vol wt (a ++ b) = vol wt a + vol wt b := by simp [vol]
theorem vol_cons (wt : Bw.N × Nat -> Nat) (x : Bw.N × Nat) (b : List (Bw.N × Nat)) : vol wt (x :: b) = wt x + vol wt b := by simp [vol]
mutual
def _root_.Bw.N.need (wt : Bw.N × Nat -> Nat) (lv : Nat) : Bw.N -> Nat
  | .leaf h p => wt (.leaf h p, lv)
  | .bucket h t => wt (.bucket h t, lv)
  | .branch m kids => wt (.branch m kids, lv) + 32 * vol wt (Bw.N.visitsL (lv + 1) kids) + Bw.N.needL wt (lv + 1) kids
def _root_.Bw.N.needL (wt : Bw.N × Nat -> Nat) (lv : Nat) : List Bw.N -> Nat
  | [] => 0
  | k :: r => k.need wt lv + Bw.N.needL wt lv r
end
theorem vol_mem {wt : Bw.N × Nat -> Nat} {lv : Nat} {kids : List Bw.N} {k : Bw.N} (h : k ∈ kids) : vol wt (k.visits lv) <= vol wt (Bw.N.visitsL lv kids) /\ k.need wt lv <= Bw.N.needL wt lv kids := by
  induction kids with
  | nil => simp at h
  | cons a r ih =>
    simp only [Bw.N.visitsL, Bw.N.needL, vol_append]
    rcases List.mem_cons.1 h with rfl | h
    · omega
    · have := ih h; omega
theorem mem_visitsL {lv : Nat} {kids : List Bw.N} {k : Bw.N} (h : k ∈ kids) : ∀ x ∈ k.visits lv, x ∈ Bw.N.visitsL lv kids := by
  induction kids with
  | nil => simp at h
  | cons a r ih =>
    intro x hx
    simp only [Bw.N.visitsL, List.mem_append]
    rcases List.mem_cons.1 h with rfl | h
    · exact .inl hx
    · exact .inr (ih h x hx)
theorem kidO_mem {m c : Nat} {kids : List Bw.N} {k : Bw.N} (h : Bw.kidO m kids c = some k) : k ∈ kids := by
  unfold Bw.kidO at h
  split at h
  · exact List.mem_of_getElem? h
  · cases h
theorem kids_bits {m : Nat} {kids : List Bw.N} (hl : kids.length = (Bw.bitsOf m).length) : (Bw.bitsOf m).map (fun c => Bw.kidO m kids c) = kids.map some := by
  apply List.ext_getElem
  · simp [hl]
  · intro i h1 h2
    simp only [List.length_map] at h1 h2
    simp only [List.getElem_map]
    have hm : (Bw.bitsOf m)[i] ∈ Bw.bitsOf m := List.getElem_mem h1
    have ht := (Bw.mem_bitsOf.1 hm).2
    have hat := Bw.bits_at_mem hm
    have hij : Bw.ones (Bw.bitsOf m)[i] m = i := by
      obtain ⟨hj, he⟩ := List.getElem?_eq_some_iff.1 hat
      exact (List.getElem_inj (Bw.nodup_bitsOf m)).1 he
    unfold Bw.kidO
    rw [if_pos ht, hij, List.getElem?_eq_getElem h2]
theorem visitsL_flat (lv : Nat) (kids : List Bw.N) : Bw.N.visitsL lv kids = (kids.map some).flatMap (Bw.visitsO lv) := by
  induction kids with
  | nil => rfl
  | cons k r ih => simp [Bw.N.visitsL, ih, Bw.visitsO]
theorem visits_eq {n : Bw.N} (hf : n.fit) (lv : Nat) : n.visits lv = (n, lv) :: (Bw.bitsOf n.num).flatMap fun c => Bw.visitsO (lv + 1) (n.kidAt c) := by
  cases n with
  | leaf h p => simp [Bw.N.visits, Bw.N.num, Bw.bitsOf_zero]
  | bucket h t => simp [Bw.N.visits, Bw.N.num, Bw.bitsOf_zero]
  | branch m kids =>
    simp only [Bw.N.fit] at hf
    simp only [Bw.N.visits, Bw.N.num, Bw.N.kidAt]
    rw [visitsL_flat, <- kids_bits hf.2.1, List.flatMap_map]
def ECells (e : Nat) (W : World) (k : Nat) : Prop := ∃ cs fr, W.heap[k]? = some (.cells cs e fr)
structure Tame (n o e : Nat) (W W' : World) : Prop where
  os : W'.os = W.os
  tape : W'.tape = W.tape
  output : W'.output = W.output
  size : W.heap.size <= W'.heap.size
  keep : ∀ k, k < W.heap.size -> (k < n \/ k ≠ o /\ ¬ ECells e W k) -> W'.heap[k]? = W.heap[k]?
theorem Tame.of_below {n o e : Nat} {W W' : World} (h : Below W.heap.size W W') : Tame n o e W W' := ⟨h.os, h.tape, h.output, h.size, fun k hk _ => h.block k hk⟩
theorem Tame.refl (n o e : Nat) (W : World) : Tame n o e W W := .of_below (Below.refl _ _)
theorem Tame.trans {n o e : Nat} {A B C : World} (h : Tame n o e A B) (k : Tame n o e B C) : Tame n o e A C :=
  ⟨k.os.trans h.os, k.tape.trans h.tape, k.output.trans h.output, Nat.le_trans h.size k.size, fun i hi hc => by
    have h1 := h.keep i hi hc
    refine (k.keep i (Nat.lt_of_lt_of_le hi h.size) (hc.imp id fun ⟨a, b⟩ => ⟨a, fun ⟨cs, fr, hx⟩ => b ⟨cs, fr, by rw [<- h1]; exact hx⟩⟩)).trans h1⟩
theorem Tame.below {n o e : Nat} {W W' : World} (h : Tame n o e W W') (hn : n <= W.heap.size) : Below n W W' :=
  ⟨h.os, h.tape, h.output, h.size, fun k hk => h.keep k (Nat.lt_of_lt_of_le hk hn) (.inl hk)⟩
theorem Tame.block {n o e : Nat} {W W' : World} {k : Nat} {x : Obj} (h : Tame n o e W W') (hx : W.heap[k]? = some x) (hko : k ≠ o) (hne : ∀ cs fr, x ≠ .cells cs e fr) : W'.heap[k]? = some x :=
  (h.keep k (Array.getElem?_eq_some_iff.1 hx).1 (.inr ⟨hko, fun ⟨cs, fr, hy⟩ => hne cs fr (Option.some.inj (hx.symm.trans hy))⟩)).trans hx
theorem Tame.boxed {n o e : Nat} {W W' : World} {B : Nat} {t : TypeId} {v : Value} (h : Tame n o e W W') (hb : Boxed W B t v) (hte : t ≠ e) (hko : B ≠ o) : Boxed W' B t v :=
  h.block hb hko fun cs fr he => by injection he with _ h2 _; exact hte h2
theorem Tame.others {n o e : Nat} {W W' : World} (h : Tame n o e W W') (ho : ∃ b, W.heap[o]? = some b /\ b.isCells = true) : KeepsOthers W W' :=
  ⟨h.size, fun k x hx hc => h.block hx (fun he => by obtain ⟨b, hb, hc'⟩ := ho; rw [he, hb] at hx; cases hx; rw [hc] at hc'; cases hc') fun cs fr he => by subst he; cases hc⟩
theorem ownFrom_tame {β : Type} (n o e : Nat) (W1 : World) : OwnFrom W1.heap.size (fun (_ : β) W => Tame n o e W1 W) := fun _ X Y row hs hg hr =>
  ⟨hg.os.trans hs.os, hg.tape.trans hs.tape, hg.output.trans hs.output, Nat.le_trans hs.size hg.size, fun k hk hc => by
    refine (hg.block k (Nat.lt_of_lt_of_le hk hs.size) (fun he => ?_)).trans (hs.keep k hk hc)
    have := (hr k he.symm).1
    omega⟩
theorem ownFrom_map {β γ : Type} {B B' : Nat} {I : β -> World -> Prop} (h : OwnFrom B I) (hB : B <= B') (g : γ -> β) : OwnFrom B' (fun s W => I (g s) W) := fun s W W' row hs hg hr =>
  h (g s) W W' row hs hg fun r e => ⟨Nat.le_trans hB (hr r e).1, (hr r e).2⟩
structure EachOk (K : Nat) (cap : Value) (n0 o e M : Nat) (wt : Bw.N × Nat -> Nat) (Inv : List (Bw.N × Nat) -> World -> Prop) (Pn : Bw.N × Nat -> Prop) : Prop where
  enters : ∀ args w, (callFunc K args).run Tryz.prog w = .ok (.enter K args) w
  pos : 2 < n0
  ty : 28 ≠ e /\ 3 ≠ e /\ 155 ≠ e /\ 85 ≠ e
  low : ∀ pre W, Inv pre W -> n0 <= W.heap.size /\ Tab W /\ ∃ b, W.heap[o]? = some b /\ b.isCells = true
  own : OwnFrom n0 Inv
  run : ∀ pre n lv W nv, Inv pre W -> Pn (n, lv) -> NodeAt nt (fun k => k < n0) W nv n -> vol wt pre + wt (n, lv) <= M ->
    Calls Tryz.prog K #[nv, .int .i64 (lv : Nat), cap] W fun e' w' => e' = .returned (.tuple #[]) /\ Inv (pre ++ [(n, lv)]) w' /\ Tame n0 o e W w'
theorem low_move {n0 o e : Nat} {W W' : World} (h : Tame n0 o e W W') : Moves (fun k => k < n0) (fun k => k < n0) W W' := fun k hk hl => ⟨hk, h.keep k hl (.inl hk)⟩
set_option maxRecDepth 100000 in
set_option maxHeartbeats 1000000 in
theorem leach_nil {K : Nat} {cap : Value} (lv : Nat) (W : World) :
    Calls Tryz.prog 74 #[.nilIface, .int .i64 (lv : Nat), .func (Fn.func K) #[] #[cap]] W fun e' w' => e' = .returned (.tuple #[]) /\ Below W.heap.size W w' := by
  go_enter Tryz.func74, Tryz.ntmps74
  go_wp2
  refine bodyPost_ret (results_none rfl _ _ _) rfl ⟨rfl, by exact gB3⟩
theorem kid_at {ok : Nat -> Prop} {v : Value} {n : Bw.N} {w : World} (c : Nat) (h : NodeAt nt ok w v n) (hf : n.fit) :
    Calls Tryz.prog 36 #[v, .int .i64 (c : Nat)] w fun e w' => ∃ u b d, e = .returned (.tuple #[u, .bool b]) /\ ONodeAt nt ok w u (n.kidAt c) /\ w' = w.drewN d := by
  refine (kid_any (n := some n) (c : Int) h (fun m kids e => by cases e; simp only [Bw.N.fit] at hf; exact ⟨hf.1, hf.2.1⟩)).mono ?_
  rintro e w' ⟨⟨r, rfl, hk⟩, d, rfl⟩
  cases n with
  | leaf h p => exact ⟨_, _, d, by rw [hk], rfl, rfl⟩
  | bucket h t => exact ⟨_, _, d, by rw [hk], rfl, rfl⟩
  | branch m kids =>
    simp only [KidTold] at hk
    simp only [Bw.N.fit] at hf
    simp only [Bw.N.kidAt, Bw.kidO]
    split at hk
    · rename_i hb
      obtain ⟨u, k, rfl, hk1, hk2⟩ := hk
      simp only [Int.toNat_natCast] at hb hk1
      exact ⟨u, true, d, rfl, by rw [if_pos hb.2.2, hk1]; exact hk2, rfl⟩
    · rename_i hb
      refine ⟨_, _, d, by rw [hk], ?_, rfl⟩
      rw [if_neg]
      · rfl
      · intro ht
        have hc : c < 32 := by
          rcases Nat.lt_or_ge c 32 with x | x
          · exact x
          · have := Nat.pow_le_pow_right (n := 2) (by decide) x
            rw [Nat.testBit_lt_two_pow (by omega)] at ht; cases ht
        exact hb ⟨by omega, by omega, by simpa using ht⟩
theorem map_at {ok : Nat -> Prop} {v : Value} {n : Bw.N} {w : World} (h : NodeAt nt ok w v n) :
    Calls Tryz.prog 32 #[v] w fun e w' => ∃ b, e = .returned (.tuple #[.int .u32 (n.num : Nat), .bool b]) /\ w = w' := by
  refine (map_any (n := some n) h).mono ?_
  rintro e w' ⟨rfl, rfl⟩
  cases n <;> exact ⟨_, rfl, rfl⟩
theorem fit_num {n : Bw.N} (h : n.fit) : n.num < 4294967296 := by
  cases n with
  | leaf => simp [Bw.N.num]
  | bucket => simp [Bw.N.num]
  | branch m kids => simp only [Bw.N.fit] at h; exact h.1
set_option maxRecDepth 100000 in
set_option maxHeartbeats 4000000 in
theorem leach_any {K : Nat} {cap : Value} {n0 o e M : Nat} {wt : Bw.N × Nat -> Nat} {Inv : List (Bw.N × Nat) -> World -> Prop} {Pn : Bw.N × Nat -> Prop} (E : EachOk K cap n0 o e M wt Inv Pn) (n : Bw.N) :
    n.fit -> ∀ (v : Value) (lv : Nat) (pre0 : List (Bw.N × Nat)) (W : World), Inv pre0 W -> NodeAt nt (fun k => k < n0) W v n -> (∀ x ∈ n.visits lv, Pn x /\ x.2 <= 100000) -> vol wt pre0 + n.need wt lv <= M ->
    Calls Tryz.prog 74 #[v, .int .i64 (lv : Nat), .func (Fn.func K) #[] #[cap]] W fun e' w' => e' = .returned (.tuple #[]) /\ Inv (pre0 ++ n.visits lv) w' /\ Tame n0 o e W w' := by
  have key : ∀ n : Bw.N, (∀ m kids, n = .branch m kids -> ∀ k ∈ kids, k.fit -> ∀ (v : Value) (lv : Nat) (pre0 : List (Bw.N × Nat)) (W : World), Inv pre0 W -> NodeAt nt (fun k => k < n0) W v k -> (∀ x ∈ k.visits lv, Pn x /\ x.2 <= 100000) -> vol wt pre0 + k.need wt lv <= M ->
      Calls Tryz.prog 74 #[v, .int .i64 (lv : Nat), .func (Fn.func K) #[] #[cap]] W fun e' w' => e' = .returned (.tuple #[]) /\ Inv (pre0 ++ k.visits lv) w' /\ Tame n0 o e W w') ->
      n.fit -> ∀ (v : Value) (lv : Nat) (pre0 : List (Bw.N × Nat)) (W : World), Inv pre0 W -> NodeAt nt (fun k => k < n0) W v n -> (∀ x ∈ n.visits lv, Pn x /\ x.2 <= 100000) -> vol wt pre0 + n.need wt lv <= M ->
      Calls Tryz.prog 74 #[v, .int .i64 (lv : Nat), .func (Fn.func K) #[] #[cap]] W fun e' w' => e' = .returned (.tuple #[]) /\ Inv (pre0 ++ n.visits lv) w' /\ Tame n0 o e W w' := by
    clear n
    intro n IH hf v lv pre0 W hi hn hP hM
    obtain ⟨tn, bn, rfl⟩ := hn.form
    obtain ⟨hlow, hTab, ob, hob, hoc⟩ := E.low _ _ hi
    have hol : o < W.heap.size := (Array.getElem?_eq_some_iff.1 hob).1
    obtain ⟨hPn, hlv⟩ := hP (n, lv) (by rw [visits_eq hf]; simp)
    have hneed : vol wt pre0 + wt (n, lv) <= M := by
      cases n <;> simp only [Bw.N.need] at hM <;> omega
    -- the boxes of the parameters
    obtain ⟨W3, hW3⟩ : ∃ W3, ((W.alloc (.cells #[.iface tn (.pointer (some ⟨bn, 0, none⟩))] 28)).alloc (.cells #[.int .i64 (lv : Nat)] 3)).alloc (.cells #[.func (Fn.func K) #[] #[cap]] 155) = W3 := ⟨_, rfl⟩
    have b0 : Boxed W3 W.heap.size 28 (.iface tn (.pointer (some ⟨bn, 0, none⟩))) := by rw [<- hW3]; exact ((Boxed.new W _ _).alloc _).alloc _
    have b1 : Boxed W3 (W.heap.size + 1) 3 (.int .i64 (lv : Nat)) := by
      rw [<- hW3]; have := (Boxed.new (W.alloc (.cells #[.iface tn (.pointer (some ⟨bn, 0, none⟩))] 28)) 3 (.int .i64 (lv : Nat))).alloc (.cells #[.func (Fn.func K) #[] #[cap]] 155)
      simpa using this
    have b2 : Boxed W3 (W.heap.size + 1 + 1) 155 (.func (Fn.func K) #[] #[cap]) := by
      rw [<- hW3]; have := Boxed.new ((W.alloc (.cells #[.iface tn (.pointer (some ⟨bn, 0, none⟩))] 28)).alloc (.cells #[.int .i64 (lv : Nat)] 3)) 155 (.func (Fn.func K) #[] #[cap])
      simpa using this
    have hB3 : Below W.heap.size W W3 := by rw [<- hW3]; exact gB3
    have hs3 : W3.heap.size = W.heap.size + 1 + 1 + 1 := by rw [<- hW3]; simp
    have hi3 : Inv pre0 W3 := by rw [<- hW3]; exact E.own.alloc _ (E.own.alloc _ (E.own.alloc _ hi))
    have hn3 : NodeAt nt (fun k => k < n0) W3 (.iface tn (.pointer (some ⟨bn, 0, none⟩))) n := NodeAt.move (Moves.below hB3) _ _ hn
    have hT3 : Tame n0 o e W W3 := .of_below hB3
    have CY := Lib.hid (E.run pre0 n lv W3 _ hi3 hPn hn3 hneed)
    have HN := Lib.hid hn; have HI := Lib.hid hi; have HP := Lib.hid hP; have HM := Lib.hid hM; have HIH := Lib.hid IH; have HF := Lib.hid hf; have HLOW := Lib.hid hlow; have HTAB := Lib.hid hTab
    have HT3 := Lib.hid hT3; have HB0 := Lib.hid b0; have HB1 := Lib.hid b1; have HB2 := Lib.hid b2; have HW3 := Lib.hid hW3; have HN3 := Lib.hid hn3; have HS3 := Lib.hid hs3; have HOL := Lib.hid hol; have HLV := Lib.hid hlv; have HOC : Hid (∃ b, W.heap[o]? = some b /\ b.isCells = true) := Lib.hid ⟨ob, hob, hoc⟩
    clear hi hn hP hM IH hf hlow hTab hT3 hn3 hi3 hB3 hob hoc hneed hPn hlv hs3 hol
    refine (callsIn_wide (n := 3)).1 ?_
    refine callsIn_of_wp_marks Tryz.func74 rfl trivial ?_ rfl
    simp only [Tryz.ntmps74, List.size_toArray, List.length_cons, List.length_nil, Nat.reduceAdd, Nat.reduceSub, Array.replicate_succ, Array.replicate_zero, List.push_toArray, List.append_toArray, List.nil_append, List.cons_append]
    have c0 := b0.cell; have c1 := b1.cell; have c2 := b2.cell
    have hE := E.enters
    gi_wp2
    refine ⟨trivial, ?_⟩
    gi_at_fn K
    refine (callsIn_wide.2 CY.out).mono ?_
    rintro e' W4 ⟨rfl, hi4, ht4⟩
    have ht4' := ht4
    have hs4 := ht4.size
    have hne : W.heap.size ≠ o /\ W.heap.size + 1 ≠ o /\ W.heap.size + 1 + 1 ≠ o := by have := HOL.out; omega
    have d0 := ht4.boxed b0 E.ty.1 hne.1
    have d1 := ht4.boxed b1 E.ty.2.1 hne.2.1
    have d2 := ht4.boxed b2 E.ty.2.2.1 hne.2.2
    have x0 := d0.cell; have x1 := d1.cell; have x2 := d2.cell
    have hn4 : NodeAt nt (fun k => k < n0) W4 (.iface tn (.pointer (some ⟨bn, 0, none⟩))) n := NodeAt.move (low_move ht4) _ _ HN3.out
    have CM := Lib.hid (map_at hn4)
    have CA := Lib.hid (all_in 2 n.num W4)
    have HD0 := Lib.hid d0; have HD1 := Lib.hid d1; have HD2 := Lib.hid d2; have HT4 := Lib.hid ht4; have HN4 := Lib.hid hn4; have HI4 := Lib.hid hi4
    clear b0 b1 b2 c0 c1 c2 d0 d1 d2 ht4 ht4' hn4 hi4 CY
    gi_wp2_with (first
      | (refine ⟨trivial, ?_⟩; gi_at_call 32; refine (callsIn_wide.2 CM.out).mono ?_; rintro e' w' ⟨bm, rfl, rfl⟩)
      | (refine ⟨trivial, ?_⟩; gi_at_call 103; refine CA.out.mono ?_; rintro e' w' ⟨rfl, rfl⟩))
    obtain ⟨W5, hW5⟩ : ∃ W5, W4.alloc (.cells #[.int .u32 (n.num : Nat)] 85) = W5 := ⟨_, rfl⟩
    rw [hW5]
    have hlow := HLOW.out; have hs3 := HS3.out; have hol := HOL.out
    have hB5 : Below W4.heap.size W4 W5 := by rw [<- hW5]; exact gB3
    have hs5 : W5.heap.size = W4.heap.size + 1 := by rw [<- hW5]; simp
    have hbm : Boxed W5 W4.heap.size 85 (.int .u32 (n.num : Nat)) := by rw [<- hW5]; exact Boxed.new W4 _ _
    have hi5 : Inv (pre0 ++ [(n, lv)]) W5 := by rw [<- hW5]; exact E.own.alloc _ HI4.out
    have ht5 : Tame n0 o e W W5 := (HT3.out.trans HT4.out).trans (.of_below hB5)
    have e0 : Boxed W5 W.heap.size 28 (.iface tn (.pointer (some ⟨bn, 0, none⟩))) := by rw [<- hW5]; exact HD0.out.alloc _
    have e1 : Boxed W5 (W.heap.size + 1) 3 (.int .i64 (lv : Nat)) := by rw [<- hW5]; exact HD1.out.alloc _
    have e2 : Boxed W5 (W.heap.size + 1 + 1) 155 (.func (Fn.func K) #[] #[cap]) := by rw [<- hW5]; exact HD2.out.alloc _
    have hn5 : NodeAt nt (fun k => k < n0) W5 (.iface tn (.pointer (some ⟨bn, 0, none⟩))) n := NodeAt.move (Moves.below hB5) _ _ HN4.out
    have hT5 : Tab W5 := HTAB.out.below E.pos (ht5.below hlow)
    refine wpIn_rangeFunc_ownF (w := W5) rfl (by omega) (gf := 131) (lb := #[.pointer (some ⟨W4.heap.size, 0, none⟩)]) rfl trivial (enters_of Tryz.func131 (by kernel_rfl) rfl)
      (all_stops _ (by omega) W4.heap.size n0 n.num (fit_num HF.out) E.pos W5 (by omega) hbm.cell hT5) belowK_t (belowK_b (by omega)) (Below.refl _ _) (fun _ => rfl)
      (fun (pre : List Nat) (W' : World) => Inv (pre0 ++ (n, lv) :: pre.flatMap fun c => Bw.visitsO (lv + 1) (n.kidAt c)) W' /\ Tame n0 o e W5 W')
      (fun _ _ _ => False)
      (OwnFrom.and (ownFrom_map E.own (by omega) (fun pre : List Nat => pre0 ++ (n, lv) :: pre.flatMap fun c => Bw.visitsO (lv + 1) (n.kidAt c))) (ownFrom_tame n0 o e W5))
      (fun _ _ _ _ _ h _ _ => h)
      ⟨by simpa using hi5, Tame.refl _ _ _ _⟩
      (fun y => { tmps := #[.iface tn (.pointer (some ⟨bn, 0, none⟩)), .int .i64 (lv : Nat), .func (Fn.func K) #[] #[cap], .pointer (some ⟨W.heap.size, 0, none⟩), .pointer (some ⟨W.heap.size + 1, 0, none⟩), .pointer (some ⟨W.heap.size + 1 + 1, 0, none⟩), .int .u32 (n.num : Nat), .bool bm, .int .i64 (y : Nat), undef, undef,
        .iface tn (.pointer (some ⟨bn, 0, none⟩)), .bool false, .func (Fn.func K) #[] #[cap], .iface tn (.pointer (some ⟨bn, 0, none⟩)), .int .i64 (lv : Nat), .tuple #[], .tuple #[.int .u32 (n.num : Nat), .bool bm], .iface tn (.pointer (some ⟨bn, 0, none⟩)), .tuple #[.int .u32 (n.num : Nat), .bool bm], .int .u32 (n.num : Nat), .bool bm, .int .u32 (n.num : Nat),
        .func (.func 131) #[] #[.pointer (some ⟨W4.heap.size, 0, none⟩)], .int .i64 (y : Nat), undef, undef, undef, undef, undef, undef, undef, undef, undef, undef, undef], defers := [] }) ?assign ?body ?done ?stop
    case assign =>
      intro l x W K hK
      gi_wp2
      exact hK
    case body =>
      rintro l pre y W6 ⟨hi6, ht6⟩ hlen
      have f0 := (ht6.boxed e0 E.ty.1 hne.1).cell
      have f1 := (ht6.boxed e1 E.ty.2.1 hne.2.1).cell
      have f2 := (ht6.boxed e2 E.ty.2.2.1 hne.2.2).cell
      have hn6 := NodeAt.move (low_move ht6) _ _ hn5
      have CK := Lib.hid (kid_at y hn6 HF.out)
      have CE : Hid (∀ (u : Value) (W' : World), ONodeAt nt (fun k => k < n0) W' u (n.kidAt y) -> Inv (pre0 ++ (n, lv) :: pre.flatMap fun c => Bw.visitsO (lv + 1) (n.kidAt c)) W' ->
          Calls Tryz.prog 74 #[u, .int .i64 (wrap64 ((lv : Int) + 1)), .func (Fn.func K) #[] #[cap]] W' fun e' w' => e' = .returned (.tuple #[]) /\ Inv (pre0 ++ (n, lv) :: (pre ++ [y]).flatMap fun c => Bw.visitsO (lv + 1) (n.kidAt c)) w' /\ Tame n0 o e W' w') := Lib.hid (by
        intro u W' hu hi'
        rw [int_succ (n := 100001) (by have := HLV.out; omega) (by decide)]
        simp only [List.flatMap_append, List.flatMap_cons, List.flatMap_nil, List.append_nil]
        cases hk : n.kidAt y with
        | none =>
          rw [hk] at hu
          simp only [ONodeAt] at hu
          subst hu
          refine (leach_nil (lv + 1) W').mono ?_
          rintro e' w' ⟨rfl, hb⟩
          refine ⟨rfl, ?_, .of_below hb⟩
          simp only [Bw.visitsO, List.append_nil]
          exact E.own _ W' w' none hi' ⟨hb.os, hb.tape, hb.output, hb.size, fun k hk _ => hb.block k hk⟩ (fun r e => by cases e)
        | some k =>
          rw [hk] at hu
          simp only [ONodeAt] at hu
          cases n with
          | leaf h p => cases hk
          | bucket h t => cases hk
          | branch m kids =>
            have hmem : k ∈ kids := kidO_mem hk
            have hff := HF.out
            simp only [Bw.N.fit, Bw.N.fitL_iff] at hff
            have hvm := vol_mem (wt := wt) (lv := lv + 1) hmem
            have hMM := HM.out
            simp only [Bw.N.need] at hMM
            have hl32 : pre.length < 32 := Nat.lt_of_lt_of_le hlen (Nat.le_trans (List.length_filter_le _ _) (by simp))
            have hvp : vol wt (pre.flatMap fun c => Bw.visitsO (lv + 1) (Bw.N.kidAt c (.branch m kids))) <= pre.length * vol wt (Bw.N.visitsL (lv + 1) kids) := by
              clear hlen hl32 hi6 hi' hk
              induction pre with
              | nil => simp [vol]
              | cons c r ih =>
                have ih := ih
                simp only [List.flatMap_cons, vol_append, List.length_cons, Nat.add_mul, Nat.one_mul]
                have : vol wt (Bw.visitsO (lv + 1) (Bw.N.kidAt c (.branch m kids))) <= vol wt (Bw.N.visitsL (lv + 1) kids) := by
                  cases hc : Bw.N.kidAt c (.branch m kids) with
                  | none => simp [Bw.visitsO, vol]
                  | some k' => exact (vol_mem (kidO_mem hc)).1
                omega
            have hm1 : pre.length * vol wt (Bw.N.visitsL (lv + 1) kids) <= 32 * vol wt (Bw.N.visitsL (lv + 1) kids) := Nat.mul_le_mul_right _ (by omega)
            refine (HIH.out m kids rfl k hmem (hff.2.2 k hmem) u (lv + 1) _ W' hi' hu (fun x hx => HP.out x (by simp only [Bw.N.visits]; exact List.mem_cons_of_mem _ (mem_visitsL hmem x hx))) ?_).mono ?_
            · rw [vol_append, vol_cons]; omega
            · rintro e' w' ⟨rfl, h1, h2⟩
              refine ⟨rfl, ?_, h2⟩
              simpa [Bw.visitsO] using h1)
      have HI6 := Lib.hid hi6; have HT6 := Lib.hid ht6
      clear hi6 ht6 hn6
      gi_wp2_with (first
        | (refine ⟨trivial, ?_⟩; gi_at_call 36; refine (CallsIn.inRound l (callsIn_wide.2 CK.out)).mono ?_; rintro e' w' ⟨u, b, d, rfl, hu, rfl⟩)
        | (refine ⟨trivial, ?_⟩; gi_at_call 74; refine (CallsIn.inRound l (callsIn_wide.2 (CE.out u _ (ONodeAt.move (Moves.drewN _ _) hu) (E.own _ _ _ none HI6.out ⟨rfl, rfl, rfl, Nat.le_refl _, fun _ _ _ => rfl⟩ (fun r e => by cases e))))).mono ?_; rintro e' w7 ⟨rfl, hi7, ht7⟩))
      have ht7' : Tame n0 o e W6 w7 := ⟨ht7.os, ht7.tape, ht7.output, ht7.size, ht7.keep⟩
      obtain ⟨hl6, _, ho6⟩ := E.low _ _ HI6.out
      exact ⟨ht7'.others ho6, ht7'.below hl6, hi7, HT6.out.trans ht7'⟩
    case done =>
      rintro D ys W6 hD rfl ⟨hi6, ht6⟩ hK
      gi_wp2
      refine ⟨by simp, .inl ⟨_, _, rfl, run_takeDeferred hK, ?_⟩⟩
      refine ⟨_, results_none rfl _ _ _, rfl, ?_, ?_⟩
      · rw [visits_eq HF.out]
        exact E.own.putObj _ hi6 (by omega) hK rfl
      · exact ht5.trans ((ownFrom_tame (β := Unit) n0 o e W5).putObj (s := ()) _ ht6 hD hK rfl)
    case stop => exact fun _ _ _ _ _ _ h _ => h.elim
  exact Bw.N.ind (P := fun n => n.fit -> ∀ (v : Value) (lv : Nat) (pre0 : List (Bw.N × Nat)) (W : World), Inv pre0 W -> NodeAt nt (fun k => k < n0) W v n -> (∀ x ∈ n.visits lv, Pn x /\ x.2 <= 100000) -> vol wt pre0 + n.need wt lv <= M ->
    Calls Tryz.prog 74 #[v, .int .i64 (lv : Nat), .func (Fn.func K) #[] #[cap]] W fun e' w' => e' = .returned (.tuple #[]) /\ Inv (pre0 ++ n.visits lv) w' /\ Tame n0 o e W w')
    (fun h p => key _ (fun m kids e => by cases e)) (fun h t => key _ (fun m kids e => by cases e)) (fun m kids ih => key _ (fun m' kids' e => by cases e; exact ih)) n
open Go.RowKit Go.Bw
def Steady {α : Type} (d : Knd α) : Prop := ∀ (ok : Nat -> Prop) (W W' : World) (row : Option Nat) (x : α) (cs : List Value), d ok W x cs -> W.grownBy W' row -> (∀ r, row = some r -> ∃ o : Obj, W.heap[r]? = some o /\ o.isCells = false) -> d ok W' x cs
theorem steady_spot : Steady spotK := fun _ _ _ _ _ _ h _ _ => h
theorem own_steady {α : Type} {e sz base : Nat} {d : Knd α} (hd : Steady d) {ok : Nat -> Prop} {W W' : World} {row : Option Nat} {v : Value} {xs : List α} (h : OwnAt e sz d ok W base v xs) (hg : W.grownBy W' row)
    (hr : ∀ r, row = some r -> ∃ o : Obj, W.heap[r]? = some o /\ o.isCells = false) : OwnAt e sz d ok W' base v xs := by
  obtain ⟨hok, inner, ho, hreps⟩ := h
  refine ⟨hok, inner, ho.kept hg ?_, hreps.imp fun x cs hx => hd _ _ _ _ _ _ hx hg hr⟩
  rcases ho.2 with ⟨rfl, _⟩ | ⟨g, cap, cur, rfl, _, hgb, _⟩
  · exact .inl rfl
  · refine .inr fun e' => ?_
    obtain ⟨o, ho, hc⟩ := hr g (by simpa [Value.ownBlock] using e'.symm)
    rw [hgb] at ho; cases ho; cases hc
def InvRow {α : Type} (e te sz : Nat) (d : Knd α) (f : List (Bw.N × Nat) -> List α) (w0 : World) (o : Nat) (pre : List (Bw.N × Nat)) (W : World) : Prop :=
  ∃ vo, Boxed W o te vo /\ OwnAt e sz d (fun k => w0.heap.size <= k /\ k ≠ o) W w0.heap.size vo (f pre) /\ Below w0.heap.size w0 W
theorem InvRow.low {α : Type} {e te sz : Nat} {d : Knd α} {f : List (Bw.N × Nat) -> List α} {w0 : World} {o : Nat} {pre : List (Bw.N × Nat)} {W : World} (h : InvRow e te sz d f w0 o pre W) (hT : Tab w0) :
    w0.heap.size <= W.heap.size /\ Tab W /\ ∃ b, W.heap[o]? = some b /\ b.isCells = true := by
  obtain ⟨vo, hb, _, hB⟩ := h
  exact ⟨hB.size, hT.below hT.pos hB, _, hb, rfl⟩
theorem InvRow.own {α : Type} {e te sz : Nat} {d : Knd α} (hd : Steady d) {f : List (Bw.N × Nat) -> List α} {w0 : World} {o : Nat} : OwnFrom w0.heap.size (InvRow e te sz d f w0 o) := by
  rintro pre X Y row ⟨vo, hb, hown, hB⟩ hg hr
  refine ⟨vo, hb.kept hg (fun e' => ?_), own_steady hd hown hg (fun r e => (hr r e).2), hB.grown hg hB.size (fun r e => (hr r e).1)⟩
  obtain ⟨_, o', ho, hc⟩ := hr o e'.symm
  rw [show X.heap[o]? = _ from hb] at ho; cases ho; cases hc
theorem tame_put {n o e base sz : Nat} {α : Type} {d : Knd α} {ok : Nat -> Prop} {W W' : World} {v u : Value} {xs : List α} (hown : OwnAt e sz d ok W base v xs) (hn : n <= base) (ho : n <= o) (hg : W.grownBy W' v.ownBlock) : Tame n o e W (W'.setCell ⟨o, 0, none⟩ u) := by
  refine ⟨hg.os, hg.tape, hg.output, by simpa using hg.size, fun k hk hc => ?_⟩
  have hko : k ≠ o := by rcases hc with h | ⟨h, _⟩ <;> omega
  refine (Below.heap_setCell W' ⟨o, 0, none⟩ u k hko).trans (hg.block k hk fun he => ?_)
  obtain ⟨_, inner, how, _⟩ := hown
  rcases how.2 with ⟨rfl, _⟩ | ⟨g, cap, cur, rfl, hb, hgb, _⟩
  · simp [Value.ownBlock] at he
  · obtain rfl : k = g := by simpa [Value.ownBlock] using he
    rcases hc with h | ⟨_, h⟩
    · omega
    · exact h ⟨cur, (0, 0), hgb⟩
theorem infoSpot : (Tryz.prog.info? 101).map (fun i => (i.zero, i.size, i.bytes)) = some (some (.agg #[.int .i64 0, .int .i64 0, .int .u64 0, .int .u32 0, .int .i64 0]), 5, 40) := by kernel_rfl
abbrev InvShape := InvRow 101 69 5 spotK Bw.spotsOf
set_option maxRecDepth 100000 in
set_option maxHeartbeats 2000000 in
theorem shape1_leaf {w0 W : World} {lv b : Nat} {h : Nat} {p : Bw.PV} {pre : List (Bw.N × Nat)} (hi : InvShape w0 w0.heap.size pre W) (hlen : pre.length < 1099511627776)
    (hn : NodeAt nt (fun k => k < w0.heap.size) W (.iface 114 (.pointer (some ⟨b, 0, none⟩))) (.leaf h p)) :
    Calls Tryz.prog 75 #[.iface 114 (.pointer (some ⟨b, 0, none⟩)), .int .i64 (lv : Nat), .pointer (some ⟨w0.heap.size, 0, none⟩)] W fun e' w' => e' = .returned (.tuple #[]) /\ InvShape w0 w0.heap.size (pre ++ [(.leaf h p, lv)]) w' /\ Tame w0.heap.size w0.heap.size 101 W w' := by
  have CH := Lib.hid (hash_any (n := some (.leaf h p)) hn)
  have CM := Lib.hid (map_any (n := some (.leaf h p)) hn)
  have CC := Lib.hid (fun (V : World) (_ : Below W.heap.size W V) => (count_leaf ⟨b, 0, none⟩ V).mono (R' := fun e w' => e = .returned (.int .i64 1) /\ Below V.heap.size V w') (fun _ _ h => ⟨h.1, h.2 ▸ Below.refl _ _⟩))
  have hm := kindm_leaf; have hm2 := method_leaf
  have CK := Lib.hid (fun V => kind_leaf ⟨b, 0, none⟩ V)
  have HY := Lib.hid (show Bw.spotsOf (pre ++ [(.leaf h p, lv)]) = Bw.spotsOf pre ++ [(lv, 1, h, 0, 1)] by rw [Bw.spotsOf_append]; rfl)
  simp only [hashO, mapO] at CH CM
  clear hn
  obtain ⟨vo, hbo, hown, hB⟩ := hi
  obtain ⟨i0, hi, hz0, hz1, hz2⟩ := info_parts infoSpot
  have HI := Lib.hid hi; have HZ0 := Lib.hid hz0; have HZ1 := Lib.hid hz1; have HZ2 := Lib.hid hz2
  obtain ⟨AA, cc, rfl⟩ := (hown.row goodSpot).form
  have c0 := hbo.cell; have f0 := hbo.frozen
  have hol := hbo.lt
  have hsl : (Bw.spotsOf pre).length = pre.length := by simp [Bw.spotsOf]
  have HL : Hid ((Bw.spotsOf pre).length < 1099511627776) := Lib.hid (by omega)
  have HOWN := Lib.hid hown; have HB := Lib.hid hB; have HBO := Lib.hid hbo
  clear hown hB hi hz0 hz1 hz2 hbo hlen hsl
  generalize hps : Bw.spotsOf pre = ps at *
  have HPS := Lib.hid hps
  clear hps
  go_enter Tryz.func75, Tryz.ntmps75
  go_wp2_with (first
    | (go_at_call 29; refine CH.out.mono ?_; rintro e w1 ⟨rfl, rfl⟩)
    | (go_at_call 32; refine CM.out.mono ?_; rintro e w1 ⟨rfl, rfl⟩))
  go_region_law
    ((first
      | (go_simp; go_at_call 175; (with_reducible refine (CK.out _).mono ?_); rintro e w2 ⟨rfl, rfl⟩)
      | (go_simp; go_at_call 174; (with_reducible refine (CC.out _ (by exact gB1)).mono ?_); rintro e w2 ⟨rfl, hb2⟩; have hw2 : Below W.heap.size W w2 := Below.trans (b := W.drew) (by exact gB1) hb2; have k0 : w2.cell? ⟨w0.heap.size, 0, none⟩ = some (.slice AA ps.length cc) := (hw2.cell (p := ⟨w0.heap.size, 0, none⟩) hol).trans c0; have kf : w2.frozen? ⟨w0.heap.size, 0, none⟩ = false := (hw2.frozen (p := ⟨w0.heap.size, 0, none⟩) hol).trans f0; have hol1 : w0.heap.size < w2.heap.size := Nat.lt_of_lt_of_le hol hw2.size; have hne0 : ¬ (w0.heap.size = w2.heap.size) := Nat.ne_of_lt hol1; have hnw := World.new_ne w2 ⟨w0.heap.size, 0, none⟩ k0)
      | (refine st_app1 goodSpot rfl (.tmp 19) (.tmp 28) 69 rfl w0.heap.size 101 i0 _ 40 Tryz.underlying69 HI.out HZ0.out HZ1.out HZ2.out rfl (by decide) _ ps rfl (HOWN.out.move goodSpot (Moves.below hw2)) (lv, 1, h, 0, 1) _ 101 rfl rfl (fun k hk => ⟨Nat.le_trans (Nat.le_of_lt hol1) hk, fun e => by omega⟩) (by have := HL.out; omega) (by decide) (Nat.le_of_lt hol1) ?_; intro v3 w3 hown3 hb3 hat3 hg3; obtain ⟨A3, c3, rfl⟩ := (hown3.row goodSpot).form; have hne : some w0.heap.size ≠ (Value.slice AA ps.length cc).ownBlock := (fun e => (HOWN.out.1 _ e.symm).2 rfl); have k0 : w3.cell? ⟨w0.heap.size, 0, none⟩ = some (.slice AA ps.length cc) := hg3.cell k0 hne; have kf : w3.frozen? ⟨w0.heap.size, 0, none⟩ = false := (hg3.frozen_far ⟨w0.heap.size, 0, none⟩ hol1 hne).trans kf)
      ))
  all_goals go_wp2
  all_goals go_end0
  all_goals refine ⟨rfl, ?_, ?_⟩
  all_goals first
    | exact ((Tame.of_below hw2).trans (tame_put (HOWN.out.move goodSpot (Moves.below hw2)) (Nat.le_refl _) (Nat.le_refl _) hg3))
    | (refine ⟨.slice A3 (ps ++ [(lv, 1, h, 0, 1)]).length c3, ?_, ?_, ?_⟩
       · rw [List.length_append]; exact Boxed.set _ (Boxed.kept ((hw2.block _ hol).trans HBO.out) hg3 hne)
       · rw [HY.out]; exact OwnAt.move goodSpot (Moves.set (p := ⟨w0.heap.size, 0, none⟩) _ (fun k hk => hk.2)) hown3
       · exact ((HB.out.trans (hw2.mono HB.out.size)).trans hb3).setCell (Nat.le_refl _) _)
set_option maxRecDepth 100000 in
set_option maxHeartbeats 2000000 in
theorem shape1_bucket {w0 W : World} {lv b : Nat} {h : Nat} {t : Bw.T} {pre : List (Bw.N × Nat)} (hi : InvShape w0 w0.heap.size pre W) (hlen : pre.length < 1099511627776)
    (hn : NodeAt nt (fun k => k < w0.heap.size) W (.iface 117 (.pointer (some ⟨b, 0, none⟩))) (.bucket h t)) :
    Calls Tryz.prog 75 #[.iface 117 (.pointer (some ⟨b, 0, none⟩)), .int .i64 (lv : Nat), .pointer (some ⟨w0.heap.size, 0, none⟩)] W fun e' w' => e' = .returned (.tuple #[]) /\ InvShape w0 w0.heap.size (pre ++ [(.bucket h t, lv)]) w' /\ Tame w0.heap.size w0.heap.size 101 W w' := by
  have CH := Lib.hid (hash_any (n := some (.bucket h t)) hn)
  have CM := Lib.hid (map_any (n := some (.bucket h t)) hn)
  have hn' := hn
  simp only [NodeAt] at hn'
  obtain ⟨b', tv, e, _, h1, ht⟩ := hn'
  cases e
  have CC := Lib.hid (fun (V : World) (hV : Below W.heap.size W V) => (count_bucket b V (h1.move (Moves.below hV)).2 (ht.move (Moves.below hV))).mono (R' := fun e w' => e = .returned (.int .i64 (t.size : Nat)) /\ Below V.heap.size V w') (fun _ _ h => ⟨h.1, h.2 ▸ Below.refl _ _⟩))
  clear h1 ht
  have hm := kindm_bucket; have hm2 := method_bucket
  have CK := Lib.hid (fun V => kind_bucket ⟨b, 0, none⟩ V)
  have HY := Lib.hid (show Bw.spotsOf (pre ++ [(.bucket h t, lv)]) = Bw.spotsOf pre ++ [(lv, 2, h, 0, t.size)] by rw [Bw.spotsOf_append]; rfl)
  simp only [hashO, mapO] at CH CM
  clear hn
  obtain ⟨vo, hbo, hown, hB⟩ := hi
  obtain ⟨i0, hi, hz0, hz1, hz2⟩ := info_parts infoSpot
  have HI := Lib.hid hi; have HZ0 := Lib.hid hz0; have HZ1 := Lib.hid hz1; have HZ2 := Lib.hid hz2
  obtain ⟨AA, cc, rfl⟩ := (hown.row goodSpot).form
  have c0 := hbo.cell; have f0 := hbo.frozen
  have hol := hbo.lt
  have hsl : (Bw.spotsOf pre).length = pre.length := by simp [Bw.spotsOf]
  have HL : Hid ((Bw.spotsOf pre).length < 1099511627776) := Lib.hid (by omega)
  have HOWN := Lib.hid hown; have HB := Lib.hid hB; have HBO := Lib.hid hbo
  clear hown hB hi hz0 hz1 hz2 hbo hlen hsl
  generalize hps : Bw.spotsOf pre = ps at *
  have HPS := Lib.hid hps
  clear hps
  go_enter Tryz.func75, Tryz.ntmps75
  go_wp2_with (first
    | (go_at_call 29; refine CH.out.mono ?_; rintro e w1 ⟨rfl, rfl⟩)
    | (go_at_call 32; refine CM.out.mono ?_; rintro e w1 ⟨rfl, rfl⟩))
  go_region_law
    ((first
      | (go_simp; go_at_call 177; (with_reducible refine (CK.out _).mono ?_); rintro e w2 ⟨rfl, rfl⟩)
      | (go_simp; go_at_call 176; (with_reducible refine (CC.out _ (by exact gB1)).mono ?_); rintro e w2 ⟨rfl, hb2⟩; have hw2 : Below W.heap.size W w2 := Below.trans (b := W.drew) (by exact gB1) hb2; have k0 : w2.cell? ⟨w0.heap.size, 0, none⟩ = some (.slice AA ps.length cc) := (hw2.cell (p := ⟨w0.heap.size, 0, none⟩) hol).trans c0; have kf : w2.frozen? ⟨w0.heap.size, 0, none⟩ = false := (hw2.frozen (p := ⟨w0.heap.size, 0, none⟩) hol).trans f0; have hol1 : w0.heap.size < w2.heap.size := Nat.lt_of_lt_of_le hol hw2.size; have hne0 : ¬ (w0.heap.size = w2.heap.size) := Nat.ne_of_lt hol1; have hnw := World.new_ne w2 ⟨w0.heap.size, 0, none⟩ k0)
      | (refine st_app1 goodSpot rfl (.tmp 19) (.tmp 28) 69 rfl w0.heap.size 101 i0 _ 40 Tryz.underlying69 HI.out HZ0.out HZ1.out HZ2.out rfl (by decide) _ ps rfl (HOWN.out.move goodSpot (Moves.below hw2)) (lv, 2, h, 0, t.size) _ 101 rfl rfl (fun k hk => ⟨Nat.le_trans (Nat.le_of_lt hol1) hk, fun e => by omega⟩) (by have := HL.out; omega) (by decide) (Nat.le_of_lt hol1) ?_; intro v3 w3 hown3 hb3 hat3 hg3; obtain ⟨A3, c3, rfl⟩ := (hown3.row goodSpot).form; have hne : some w0.heap.size ≠ (Value.slice AA ps.length cc).ownBlock := (fun e => (HOWN.out.1 _ e.symm).2 rfl); have k0 : w3.cell? ⟨w0.heap.size, 0, none⟩ = some (.slice AA ps.length cc) := hg3.cell k0 hne; have kf : w3.frozen? ⟨w0.heap.size, 0, none⟩ = false := (hg3.frozen_far ⟨w0.heap.size, 0, none⟩ hol1 hne).trans kf)
      ))
  all_goals go_wp2
  all_goals go_end0
  all_goals refine ⟨rfl, ?_, ?_⟩
  all_goals first
    | exact ((Tame.of_below hw2).trans (tame_put (HOWN.out.move goodSpot (Moves.below hw2)) (Nat.le_refl _) (Nat.le_refl _) hg3))
    | (refine ⟨.slice A3 (ps ++ [(lv, 2, h, 0, t.size)]).length c3, ?_, ?_, ?_⟩
       · rw [List.length_append]; exact Boxed.set _ (Boxed.kept ((hw2.block _ hol).trans HBO.out) hg3 hne)
       · rw [HY.out]; exact OwnAt.move goodSpot (Moves.set (p := ⟨w0.heap.size, 0, none⟩) _ (fun k hk => hk.2)) hown3
       · exact ((HB.out.trans (hw2.mono HB.out.size)).trans hb3).setCell (Nat.le_refl _) _)
set_option maxRecDepth 100000 in
set_option maxHeartbeats 2000000 in
theorem shape1_branch {w0 W : World} {lv b : Nat} {m : Nat} {kids : List Bw.N} {pre : List (Bw.N × Nat)} (hi : InvShape w0 w0.heap.size pre W) (hlen : pre.length < 1099511627776)
    (hn : NodeAt nt (fun k => k < w0.heap.size) W (.iface 122 (.pointer (some ⟨b, 0, none⟩))) (.branch m kids)) :
    Calls Tryz.prog 75 #[.iface 122 (.pointer (some ⟨b, 0, none⟩)), .int .i64 (lv : Nat), .pointer (some ⟨w0.heap.size, 0, none⟩)] W fun e' w' => e' = .returned (.tuple #[]) /\ InvShape w0 w0.heap.size (pre ++ [(.branch m kids, lv)]) w' /\ Tame w0.heap.size w0.heap.size 101 W w' := by
  have CH := Lib.hid (hash_any (n := some (.branch m kids)) hn)
  have CM := Lib.hid (map_any (n := some (.branch m kids)) hn)
  have hn' := hn
  simp only [NodeAt] at hn'
  obtain ⟨b', _, _, _, e, _, _, h2, _⟩ := hn'
  cases e
  have CC := Lib.hid (fun (V : World) (hV : Below W.heap.size W V) => (count_branch b _ V (h2.move (Moves.below hV)).2).mono (R' := fun e w' => e = .returned (.int .i64 (Bw.N.countL kids : Nat)) /\ Below V.heap.size V w') (fun _ _ h => ⟨h.1, h.2 ▸ Below.refl _ _⟩))
  clear h2
  have hm := kindm_branch; have hm2 := method_branch
  have CK := Lib.hid (fun V => kind_branch ⟨b, 0, none⟩ V)
  have HY := Lib.hid (show Bw.spotsOf (pre ++ [(.branch m kids, lv)]) = Bw.spotsOf pre ++ [(lv, 3, 0, m, Bw.N.countL kids)] by rw [Bw.spotsOf_append]; rfl)
  simp only [hashO, mapO] at CH CM
  clear hn
  obtain ⟨vo, hbo, hown, hB⟩ := hi
  obtain ⟨i0, hi, hz0, hz1, hz2⟩ := info_parts infoSpot
  have HI := Lib.hid hi; have HZ0 := Lib.hid hz0; have HZ1 := Lib.hid hz1; have HZ2 := Lib.hid hz2
  obtain ⟨AA, cc, rfl⟩ := (hown.row goodSpot).form
  have c0 := hbo.cell; have f0 := hbo.frozen
  have hol := hbo.lt
  have hsl : (Bw.spotsOf pre).length = pre.length := by simp [Bw.spotsOf]
  have HL : Hid ((Bw.spotsOf pre).length < 1099511627776) := Lib.hid (by omega)
  have HOWN := Lib.hid hown; have HB := Lib.hid hB; have HBO := Lib.hid hbo
  clear hown hB hi hz0 hz1 hz2 hbo hlen hsl
  generalize hps : Bw.spotsOf pre = ps at *
  have HPS := Lib.hid hps
  clear hps
  go_enter Tryz.func75, Tryz.ntmps75
  go_wp2_with (first
    | (go_at_call 29; refine CH.out.mono ?_; rintro e w1 ⟨rfl, rfl⟩)
    | (go_at_call 32; refine CM.out.mono ?_; rintro e w1 ⟨rfl, rfl⟩))
  go_region_law
    ((first
      | (go_simp; go_at_call 179; (with_reducible refine (CK.out _).mono ?_); rintro e w2 ⟨rfl, rfl⟩)
      | (go_simp; go_at_call 178; (with_reducible refine (CC.out _ (by exact gB1)).mono ?_); rintro e w2 ⟨rfl, hb2⟩; have hw2 : Below W.heap.size W w2 := Below.trans (b := W.drew) (by exact gB1) hb2; have k0 : w2.cell? ⟨w0.heap.size, 0, none⟩ = some (.slice AA ps.length cc) := (hw2.cell (p := ⟨w0.heap.size, 0, none⟩) hol).trans c0; have kf : w2.frozen? ⟨w0.heap.size, 0, none⟩ = false := (hw2.frozen (p := ⟨w0.heap.size, 0, none⟩) hol).trans f0; have hol1 : w0.heap.size < w2.heap.size := Nat.lt_of_lt_of_le hol hw2.size; have hne0 : ¬ (w0.heap.size = w2.heap.size) := Nat.ne_of_lt hol1; have hnw := World.new_ne w2 ⟨w0.heap.size, 0, none⟩ k0)
      | (refine st_app1 goodSpot rfl (.tmp 19) (.tmp 28) 69 rfl w0.heap.size 101 i0 _ 40 Tryz.underlying69 HI.out HZ0.out HZ1.out HZ2.out rfl (by decide) _ ps rfl (HOWN.out.move goodSpot (Moves.below hw2)) (lv, 3, 0, m, Bw.N.countL kids) _ 101 rfl rfl (fun k hk => ⟨Nat.le_trans (Nat.le_of_lt hol1) hk, fun e => by omega⟩) (by have := HL.out; omega) (by decide) (Nat.le_of_lt hol1) ?_; intro v3 w3 hown3 hb3 hat3 hg3; obtain ⟨A3, c3, rfl⟩ := (hown3.row goodSpot).form; have hne : some w0.heap.size ≠ (Value.slice AA ps.length cc).ownBlock := (fun e => (HOWN.out.1 _ e.symm).2 rfl); have k0 : w3.cell? ⟨w0.heap.size, 0, none⟩ = some (.slice AA ps.length cc) := hg3.cell k0 hne; have kf : w3.frozen? ⟨w0.heap.size, 0, none⟩ = false := (hg3.frozen_far ⟨w0.heap.size, 0, none⟩ hol1 hne).trans kf)
      ))
  all_goals go_wp2
  all_goals go_end0
  all_goals refine ⟨rfl, ?_, ?_⟩
  all_goals first
    | exact ((Tame.of_below hw2).trans (tame_put (HOWN.out.move goodSpot (Moves.below hw2)) (Nat.le_refl _) (Nat.le_refl _) hg3))
    | (refine ⟨.slice A3 (ps ++ [(lv, 3, 0, m, Bw.N.countL kids)]).length c3, ?_, ?_, ?_⟩
       · rw [List.length_append]; exact Boxed.set _ (Boxed.kept ((hw2.block _ hol).trans HBO.out) hg3 hne)
       · rw [HY.out]; exact OwnAt.move goodSpot (Moves.set (p := ⟨w0.heap.size, 0, none⟩) _ (fun k hk => hk.2)) hown3
       · exact ((HB.out.trans (hw2.mono HB.out.size)).trans hb3).setCell (Nat.le_refl _) _)
open Go.RowKit Go.Bw
mutual
def _root_.Bw.N.pairs : Bw.N -> List Bw.PV
  | .leaf _ p => [p]
  | .bucket _ t => t.list
  | .branch _ kids => Bw.N.pairsL kids
def _root_.Bw.N.pairsL : List Bw.N -> List Bw.PV
  | [] => []
  | k :: r => k.pairs ++ Bw.N.pairsL r
end
theorem pairsL_flat (kids : List Bw.N) : Bw.N.pairsL kids = kids.flatMap Bw.N.pairs := by
  induction kids with
  | nil => rfl
  | cons k r ih => simp [Bw.N.pairsL, ih]
theorem run_app_none {w : World} {AO : Option Addr} {n co : Nat} (ty : TypeId) (h : n <= co) (h0 : AO = none -> co = 0) :
    (Builtin.append_ #[40, 40] ty #[.slice AO n co, .slice none 0 0]).run Tryz.prog w = .ok (.slice AO n co) w := by
  obtain ⟨i0, hi, hz0, hz1, hz2⟩ := info_parts infoP
  cases AO with
  | none =>
    have hc := h0 rfl
    subst hc
    obtain rfl : n = 0 := by omega
    simp [Builtin.append_, run_underlying Tryz.underlying40, sizeOf, typeInfo, hi, Builtin.lenOf, run_firstCells_none]
  | some ad =>
    simp [Builtin.append_, run_underlying Tryz.underlying40, sizeOf, typeInfo, hi, Builtin.lenOf, run_firstCells_none, storeCells, h]
theorem wp_app_same {P : Program} {ops : Array Oper} {Q : Exit -> Act -> World -> Prop} {o : Oper} {rest : List Oper} {a : Act} {w : World} {v u : Value} (hgd : o.guard = none) (s x : Operand) (t : TypeId)
    (ho : o.op = .call { callee := .builtin .append, args := #[s, x], argTypes := #[t, t] }) (hs : a.eval s = v) (hx : a.eval x = u) (hr : (Builtin.append_ #[t, t] o.type #[v, u]).run P w = .ok v w)
    (h : wpList P ops Q rest (a.put o.dst v) w) : wpList P ops Q (o :: rest) a w :=
  wpList_plain hgd fun _ hK => by
    unfold Oper.wp execOp
    simp only [ho, resolve, invoke, builtin, Sem.run_bind, Sem.run_pure, Result.andThen_ok, List.map_toArray, List.map_cons, List.map_nil, hs, hx, hr]
    exact hK _ _ h
def ColRel (xs : List Bw.PV) (kids : List Bw.N) (base : Nat) (w : World) (v i : Value) (wr : World) : Prop :=
  ∃ k : Nat, k <= kids.length /\ i = .int .i64 k /\ OwnAt 62 2 pairK AllB wr base v (xs ++ Bw.N.pairsL (kids.take k)) /\ Below base w wr
theorem low_pair {base : Nat} {w : World} {v u : Value} {l : Bw.Bytes} {xs : List Bw.PV} (hown : OwnAt 62 2 pairK AllB w base v xs) (h : BytesAt (fun k => k < base) w u l) : BytesAt (fun k => AllB k /\ some k ≠ v.ownBlock) w u l :=
  h.move goodByte (Moves.weaken fun k hk _ => ⟨trivial, fun e => by have := (hown.lt k e.symm).1; omega⟩)
set_option maxRecDepth 100000 in
set_option maxHeartbeats 1000000 in
theorem collect_any (n : Bw.N) : n.fit -> ∀ (v out : Value) (xs : List Bw.PV) (base : Nat) (w : World), OwnAt 62 2 pairK AllB w base out xs -> base <= w.heap.size -> NodeAt nt (fun k => k < base) w v n -> xs.length + n.pairs.length <= 1048576 ->
    Calls Tryz.prog 50 #[out, v] w fun e w' => ∃ v', e = .returned v' /\ OwnAt 62 2 pairK AllB w' base v' (xs ++ n.pairs) /\ Below base w w' := by
  obtain ⟨i0, hi, hz0, hz1, hz2⟩ := info_parts infoP
  have HI := Lib.hid hi; have HZ0 := Lib.hid hz0; have HZ1 := Lib.hid hz1; have HZ2 := Lib.hid hz2
  clear hi hz0 hz1 hz2
  refine Bw.N.ind (P := fun n => n.fit -> ∀ (v out : Value) (xs : List Bw.PV) (base : Nat) (w : World), OwnAt 62 2 pairK AllB w base out xs -> base <= w.heap.size -> NodeAt nt (fun k => k < base) w v n -> xs.length + n.pairs.length <= 1048576 ->
    Calls Tryz.prog 50 #[out, v] w fun e w' => ∃ v', e = .returned v' /\ OwnAt 62 2 pairK AllB w' base v' (xs ++ n.pairs) /\ Below base w w') ?_ ?_ ?_ n
  · intro h p hf v out xs base w hown hb hn hlen
    simp only [NodeAt] at hn
    obtain ⟨b, u1, u2, rfl, ⟨_, c0⟩, ⟨_, c1⟩, ⟨_, c2⟩, hu, hv⟩ := hn
    have hu' := low_pair hown hu
    have hv' := low_pair hown hv
    obtain ⟨U1, e1, rfl⟩ := hu.form
    obtain ⟨U2, e2, rfl⟩ := hv.form
    obtain ⟨AO, co, rfl⟩ := (hown.row goodPair).form
    have HOWN := Lib.hid hown; have HU := Lib.hid hu'; have HV := Lib.hid hv'; have HB := Lib.hid hb; have HL := Lib.hid hlen
    clear hown hu hv hu' hv' hb hlen
    simp only [Bw.N.pairs]
    have t1 := @ta_ll; have t2 := @ta_lb; have t3 := @ta_lr; have t4 := @ta_bl; have t5 := @ta_bb; have t6 := @ta_br; have t7 := @ta_rl; have t8 := @ta_rb; have t9 := @ta_rr
    go_enter Tryz.func50, Tryz.ntmps50
    go_wp2_with (at_builtin; refine wp_app1 goodPair rfl (.tmp 14) (.tmp 19) 40 rfl base 62 i0 _ 48 Tryz.underlying40 HI.out HZ0.out HZ1.out HZ2.out rfl (by decide) (.slice AO xs.length co) xs rfl HOWN.out p #[.slice U1 p.1.length e1, .slice U2 p.2.length e2] 62 (by go_simp) (pairK_mk HU.out HV.out) (fun _ _ => trivial) (by have := HL.out; simp [Bw.N.pairs] at this; omega) (by decide) HB.out ?_; intro v8 w8 hown8 hb8 hat8 hg8)
    obtain ⟨A8, c8, rfl⟩ := (hown8.row goodPair).form
    go_ret
    exact ⟨_, rfl, hown8, hb8⟩
  · intro h t hf v out xs base w hown hb hn hlen
    simp only [NodeAt] at hn
    obtain ⟨b, tv, rfl, ⟨_, c0⟩, ⟨_, c1⟩, ht⟩ := hn
    simp only [Bw.N.fit] at hf
    obtain ⟨_, _, hbd, hsz⟩ := hf
    have CL := Lib.hid (list_any ht hbd hsz)
    obtain ⟨AT, rfl⟩ := ht.form
    obtain ⟨AO, co, rfl⟩ := (hown.row goodPair).form
    have HOWN := Lib.hid hown; have HB := Lib.hid hb; have HL := Lib.hid hlen
    clear hown ht hb hlen hbd hsz
    simp only [Bw.N.pairs]
    have t1 := @ta_ll; have t2 := @ta_lb; have t3 := @ta_lr; have t4 := @ta_bl; have t5 := @ta_bb; have t6 := @ta_br; have t7 := @ta_rl; have t8 := @ta_rb; have t9 := @ta_rr
    go_enter Tryz.func50, Tryz.ntmps50
    go_wp2_with fail
    refine CL.out.mono ?_
    rintro e w1 ⟨q1, rfl, hq1, hb1⟩
    have hown1 : OwnAt 62 2 pairK AllB w1 base (.slice AO xs.length co) xs := HOWN.out.move goodPair (Moves.below hb1)
    have hB1 : Below base w w1 := hb1.mono HB.out
    obtain ⟨AL, cl, rfl⟩ := hq1.form
    have HOWN1 := Lib.hid hown1; have HB1 := Lib.hid hB1; have HQ1 := Lib.hid hq1
    clear hown1 hb1 hB1 hq1
    cases AL with
    | none =>
      have hnil : t.list = [] := by
        have h1 := HQ1.out
        obtain ⟨A', c', e', h2, _, h4, _⟩ := h1
        injection e' with e1 e2 e3
        have := h4 e1.symm
        exact List.eq_nil_of_length_eq_zero (by omega)
      have hc0 : cl = 0 := by
        have h1 := HQ1.out
        obtain ⟨A', c', e', _, _, h4, _⟩ := h1
        injection e' with e1 e2 e3
        rw [e3]; exact h4 e1.symm
      have hl0 : t.list.length = 0 := by rw [hnil]; rfl
      rw [hl0]
      subst hc0
      have HN := Lib.hid hnil
      have hrow := HOWN1.out.row goodPair
      obtain ⟨A', c', e', h2, _, h4, _⟩ := hrow
      injection e' with e1 e2 e3
      subst e1; subst e3
      have hrun := fun (ty : TypeId) => run_app_none (w := w1) ty h2 h4
      clear h2 h4 e2 hnil
      have HRUN := Lib.hid hrun
      clear hrun
      go_wp2_with (at_builtin; refine wp_app_same rfl (.tmp 24) (.tmp 29) 40 rfl rfl rfl (HRUN.out _) ?_)
      go_ret
      exact ⟨_, rfl, by rw [HN.out, List.append_nil]; exact HOWN1.out, HB1.out⟩
    | some ad =>
      have hnews : ∃ news, Reps (pairK (fun k => w.heap.size <= k) w1) 2 t.list news /\ ∀ j u, news[j]? = some u -> w1.cell? (ad.add j) = some u := by
        obtain ⟨bl, ol, sl⟩ := ad
        by_cases hn : t.list = []
        · exact ⟨[], by rw [hn]; exact Reps.nil _ _, fun j u hj => by simp at hj⟩
        · have h1 := HQ1.out
          obtain ⟨A', c', e', h2, _, h4, h5, _⟩ := h1
          injection e' with e1 e2 e3
          have hs := h5 _ e1.symm hn
          cases hs
          obtain ⟨news, hr, hc⟩ := RowAt.news_all goodPair HQ1.out
          exact ⟨news, hr, fun j u hj => by rw [add_none]; exact (hc j u hj).2⟩
      obtain ⟨news, hr, hc⟩ := hnews
      have hr' : Reps (pairK (fun k => AllB k /\ some k ≠ (Value.slice AO xs.length co).ownBlock) w1) 2 t.list news := hr.move goodPair (Moves.weaken fun k hk _ => ⟨trivial, fun e => by have := (HOWN.out.lt k e.symm).2; omega⟩)
      have HR := Lib.hid hr'; have HC := Lib.hid hc
      clear hr hr' hc
      go_wp2_with (at_builtin; refine wp_app goodPair rfl (.tmp 24) (.tmp 29) 40 rfl base 62 i0 _ 48 Tryz.underlying40 HI.out HZ0.out HZ1.out HZ2.out rfl (by decide) (.slice AO xs.length co) xs rfl HOWN1.out ad t.list.length cl t.list news rfl rfl HC.out HR.out (fun _ _ => trivial) (by have := HL.out; simp only [Bw.N.pairs] at this; omega) (by decide) (Nat.le_trans HB.out HB1.out.size) ?_; intro v8 w8 hown8 hg8 hat8)
      obtain ⟨A8, c8, rfl⟩ := (hown8.row goodPair).form
      go_ret
      exact ⟨_, rfl, hown8, HB1.out.grown hg8 (Nat.le_trans HB.out HB1.out.size) (fun k e => (HOWN1.out.lt k e).1)⟩
  · intro m kids ih hf v out xs base w hown hb hn hlen
    simp only [NodeAt] at hn
    obtain ⟨b, g, o, cap, rfl, ⟨_, c0⟩, ⟨_, c1⟩, _, hcap, hmax, hk⟩ := hn
    simp only [Bw.N.fit, Bw.N.fitL_iff] at hf
    have HK := Lib.hid hk
    have HMX : Hid (kids.length <= maxLen) := Lib.hid (Nat.le_trans hcap hmax)
    have HIH := Lib.hid ih
    have HF := Lib.hid hf.2.2
    have HB := Lib.hid hb
    have HL := Lib.hid hlen
    have H0 : Hid (ColRel xs kids base w out (.int .i64 0) w) := Lib.hid ⟨0, Nat.zero_le _, rfl, by simpa [Bw.N.pairsL] using hown, Below.refl _ _⟩
    obtain ⟨AO, co, rfl⟩ := (hown.row goodPair).form
    clear hk ih hf hb hlen hown hcap hmax
    have t1 := @ta_ll; have t2 := @ta_lb; have t3 := @ta_lr; have t4 := @ta_bl; have t5 := @ta_bb; have t6 := @ta_br; have t7 := @ta_rl; have t8 := @ta_rb; have t9 := @ta_rr
    go_enter Tryz.func50, Tryz.ntmps50
    go_wp2_with fail
    go_loopw [0, 39] (ColRel xs kids base w) (fun _ i _ => kids.length - (intOf i).toNat)
    case atStart => exact H0.out
    case round =>
      obtain ⟨j, hj, rfl, hown, hB⟩ := hrel
      by_cases hlt : j < kids.length
      · obtain ⟨cs, ⟨vk, rfl, hvk⟩, hck⟩ := row_of_kids HK.out j (some kids[j]) (by rw [List.getElem?_map, List.getElem?_eq_getElem hlt]; rfl)
        have d0 := (hck 0 vk rfl).2
        simp only [Nat.mul_one, Nat.add_zero] at d0
        have hg := (hck 0 vk rfl).1
        simp only [ONodeAt] at hvk
        have e0 := (hB.cell (p := ⟨g, o + j, none⟩) hg).trans d0
        have hmem : kids[j] ∈ kids := List.getElem_mem hlt
        have hsum : (xs ++ Bw.N.pairsL (kids.take j)).length + kids[j].pairs.length <= 1048576 := by
          have h1 : Bw.N.pairsL kids = Bw.N.pairsL (kids.take j) ++ (kids[j].pairs ++ Bw.N.pairsL (kids.drop (j + 1))) := by
            conv => lhs; rw [<- List.take_append_drop j kids, List.drop_eq_getElem_cons hlt]
            rw [pairsL_flat, List.flatMap_append, <- pairsL_flat, List.flatMap_cons, <- pairsL_flat]
          have := HL.out
          simp only [Bw.N.pairs] at this
          rw [h1] at this
          simp only [List.length_append] at this ⊢
          omega
        have CI := Lib.hid (HIH.out kids[j] hmem (HF.out _ hmem) vk _ (xs ++ Bw.N.pairsL (kids.take j)) base wr hown (Nat.le_trans HB.out hB.size) (NodeAt.move (fun k hk hl => ⟨hk, hB.block k hk⟩) _ _ hvk) hsum)
        have hs : xs ++ Bw.N.pairsL (kids.take j) ++ kids[j].pairs = xs ++ Bw.N.pairsL (kids.take (j + 1)) := by
          rw [take_succ_snoc hlt, pairsL_flat (kids.take j ++ _), List.flatMap_append, <- pairsL_flat]; simp
        obtain ⟨t0, b0, rfl⟩ := hvk.form
        have h0 : (0 : Int) <= (j : Int) := by omega
        have h1 : (j : Int) < (kids.length : Int) := by omega
        have HBW := Lib.hid hB
        have HS := Lib.hid hs
        obtain ⟨AJ, cj, rfl⟩ := (hown.row goodPair).form
        clear hvk d0 hck hB hs hmem hown hsum
        generalize (xs ++ Bw.N.pairsL (kids.take j)).length = LL at *
        go_wp2_with fail
        refine CI.out.mono ?_
        rintro e w2 ⟨v2, rfl, hown2, hb2⟩
        rw [HS.out] at hown2
        go_wp2
        exact ⟨⟨j + 1, hlt, int_succM hlt HMX.out, hown2, HBW.out.trans hb2⟩, less_succM hlt HMX.out⟩
      · obtain rfl : j = kids.length := by omega
        rw [List.take_length] at hown
        obtain ⟨AJ, cj, rfl⟩ := (hown.row goodPair).form
        have HOWN := Lib.hid hown; have HBW := Lib.hid hB
        clear hown hB
        generalize (xs ++ Bw.N.pairsL kids).length = LL at *
        go_wp2
        go_ret
        exact ⟨_, rfl, by simpa [Bw.N.pairs] using HOWN.out, HBW.out⟩
open Go.RowKit Go.Bw Go.Shelf Go.Proofs
def sortPRen : Go.Shelf.Ren := ⟨fun | 6 => 51 | 15 => 86 | 14 => 85 | 28 => 113 | 29 => 114 | 20 => 105 | 21 => 106 | 22 => 107 | 23 => 108 | 24 => 109 | 25 => 110 | 26 => 111 | 27 => 112 | 46 => 134 | 47 => 135 | 48 => 136 | 49 => 137 | 50 => 138 | 57 => 154 | n => n, fun | 22 => 40 | 24 => 62 | 25 => 113 | 3 => 3 | 39 => 148 | 0 => 0 | 53 => 84 | 55 => 47 | 4 => 4 | 46 => 183 | 45 => 182 | 50 => 187 | 5 => 5 | 9 => 9 | 66 => 208 | 70 => 211 | 76 => 222 | 77 => 223 | n => n, fun | n => n⟩
theorem sortP : Go.Proofs.SlLaysF0.n6 Tryz.prog sortPRen := {
  mixed := by kernel_rfl
  f6 := ⟨Tryz.f51.name, by decide, Tryz.func51.trans (congrArg some (by kernel_rfl))⟩
  f14 := ⟨Tryz.f85.name, by decide, Tryz.func85.trans (congrArg some (by kernel_rfl))⟩
  f15 := Tryz.func86.trans (congrArg some (by kernel_rfl))
  f20 := ⟨Tryz.f105.name, by decide, Tryz.func105.trans (congrArg some (by kernel_rfl))⟩
  f21 := ⟨Tryz.f106.name, by decide, Tryz.func106.trans (congrArg some (by kernel_rfl))⟩
  f22 := ⟨Tryz.f107.name, by decide, Tryz.func107.trans (congrArg some (by kernel_rfl))⟩
  f23 := ⟨Tryz.f108.name, by decide, Tryz.func108.trans (congrArg some (by kernel_rfl))⟩
  f24 := ⟨Tryz.f109.name, by decide, Tryz.func109.trans (congrArg some (by kernel_rfl))⟩
  f25 := ⟨Tryz.f110.name, by decide, Tryz.func110.trans (congrArg some (by kernel_rfl))⟩
  f26 := ⟨Tryz.f111.name, by decide, Tryz.func111.trans (congrArg some (by kernel_rfl))⟩
  f27 := ⟨Tryz.f112.name, by decide, Tryz.func112.trans (congrArg some (by kernel_rfl))⟩
  f28 := Tryz.func113.trans (congrArg some (by kernel_rfl))
  f29 := Tryz.func114.trans (congrArg some (by kernel_rfl))
  f46 := ⟨Tryz.f134.name, by decide, Tryz.func134.trans (congrArg some (by kernel_rfl))⟩
  f47 := Tryz.func135.trans (congrArg some (by kernel_rfl))
  f48 := Tryz.func136.trans (congrArg some (by kernel_rfl))
  f49 := ⟨Tryz.f137.name, by decide, Tryz.func137.trans (congrArg some (by kernel_rfl))⟩
  f50 := ⟨Tryz.f138.name, by decide, Tryz.func138.trans (congrArg some (by kernel_rfl))⟩
  f57 := ⟨Tryz.f154.name, by decide, Tryz.func154.trans (congrArg some (by kernel_rfl))⟩
  t0 := Tryz.underlying0
  a0 := Tryz.isAgg0
  z0 := Tryz.sizeOf0
  v0 := Tryz.zeroValue0
  t3 := Tryz.underlying3
  a3 := Tryz.isAgg3
  z3 := Tryz.sizeOf3
  v3 := Tryz.zeroValue3
  t4 := Tryz.underlying4
  a4 := Tryz.isAgg4
  z4 := Tryz.sizeOf4
  v4 := Tryz.zeroValue4
  t5 := Tryz.underlying5
  a5 := Tryz.isAgg5
  z5 := Tryz.sizeOf5
  v5 := Tryz.zeroValue5
  t9 := Tryz.underlying9
  a9 := Tryz.isAgg9
  z9 := Tryz.sizeOf9
  v9 := Tryz.zeroValue9
  t22 := Tryz.underlying40
  a22 := Tryz.isAgg40
  z22 := Tryz.sizeOf40
  v22 := Tryz.zeroValue40
  t25 := Tryz.underlying113
  a25 := Tryz.isAgg113
  z25 := Tryz.sizeOf113
  v25 := Tryz.zeroValue113
  t39 := Tryz.underlying148
  a39 := Tryz.isAgg148
  z39 := Tryz.sizeOf148
  v39 := Tryz.zeroValue148
  t45 := Tryz.underlying182
  a45 := Tryz.isAgg182
  z45 := Tryz.sizeOf182
  v45 := Tryz.zeroValue182
  t46 := Tryz.underlying183
  a46 := Tryz.isAgg183
  z46 := Tryz.sizeOf183
  v46 := Tryz.zeroValue183
  t50 := Tryz.underlying187
  a50 := Tryz.isAgg187
  z50 := Tryz.sizeOf187
  v50 := Tryz.zeroValue187
  t53 := Tryz.underlying84
  a53 := Tryz.isAgg84
  z53 := Tryz.sizeOf84
  v53 := Tryz.zeroValue84
  t55 := Tryz.underlying47
  a55 := Tryz.isAgg47
  z55 := Tryz.sizeOf47
  v55 := Tryz.zeroValue47
  t66 := Tryz.underlying208
  a66 := Tryz.isAgg208
  z66 := Tryz.sizeOf208
  v66 := Tryz.zeroValue208
  t70 := Tryz.underlying211
  a70 := Tryz.isAgg211
  z70 := Tryz.sizeOf211
  v70 := Tryz.zeroValue211
  t76 := Tryz.underlying222
  a76 := Tryz.isAgg222
  z76 := Tryz.sizeOf222
  v76 := Tryz.zeroValue222
  t77 := Tryz.underlying223
  a77 := Tryz.isAgg223
  z77 := Tryz.sizeOf223
  v77 := Tryz.zeroValue223 }
def CmpKeys (K : Nat) : Prop := ∀ (ok ok' : Nat -> Prop) (u v u' v' : Value) (a b : Bw.Bytes) (w : World), BytesAt ok w u a -> BytesAt ok' w v b ->
  Calls Tryz.prog K #[.agg #[u, u'], .agg #[v, v']] w fun e w' => e = .returned (.int .i64 (Lib.compareBytes a b)) /\ w' = (w.alloc (.cells #[u, u'] 62)).alloc (.cells #[v, v'] 62)
open Go.Sort in
theorem cmpLaysK {K : Nat} (hK : CmpKeys K) {ok : Nat -> Prop} {w : World} {g size : Nat} (hlt : g < w.heap.size) : CmpLays Tryz.prog K #[] (El.enc (ok := fun k => ok k /\ some k ≠ some g) (w := w)) 2 El.cf g 0 size w := by
  intro m os dk _ x y
  have hgr : w.grownBy (sortWorldK El.enc 2 w g 0 m dk os) (some g) := grown_sortWorld hlt m dk os
  have mv : Moves (fun k => ok k /\ some k ≠ some g) (fun k => ok k /\ some k ≠ some g) w (sortWorldK El.enc 2 w g 0 m dk os) := fun k hk hl => ⟨hk, hgr.block k hl hk.2⟩
  refine (hK _ _ _ _ _ _ _ _ _ (x.hu.move goodByte mv) (y.hu.move goodByte mv)).mono ?_
  rintro e w' ⟨rfl, rfl⟩
  exact ⟨rfl, 0, _, by rw [alloc_eq_grow, alloc_eq_grow, grow_grow]; rfl⟩
theorem swoEl {ok : Nat -> Prop} {w : World} : Go.Sort.SWO (ltOf (El.cf (ok := ok) (w := w))) where
  irrefl := fun x => by
    have := el_less x x
    cases h : ltOf El.cf x x with
    | false => rfl
    | true => exact absurd (this.1 h) (Bw.lt_irrefl _)
  trans := fun x y z h1 h2 => (el_less x z).2 (Bw.lt_trans ((el_less x y).1 h1) ((el_less y z).1 h2))
  ntrans := fun x y z h1 h2 => by
    cases h : ltOf El.cf x z with
    | false => rfl
    | true =>
      have h3 := (el_less x z).1 h
      have n1 : ¬ Bw.lt x.p.1 y.p.1 := fun e => by rw [(el_less x y).2 e] at h1; cases h1
      have n2 : ¬ Bw.lt y.p.1 z.p.1 := fun e => by rw [(el_less y z).2 e] at h2; cases h2
      exact absurd h3 (Bw.not_lt_trans n2 n1)
set_option maxHeartbeats 400000 in
theorem sortp_any {K : Nat} (hK : CmpKeys K) (eg : ∀ args w, (callFunc K args).run Tryz.prog w = .ok (.enter K args) w) {ok : Nat -> Prop} {w : World} {base g n cap : Nat} {xs : List Bw.PV}
    (hown : OwnAt 62 2 pairK ok w base (.slice (some ⟨g, 0, none⟩) n cap) xs) (hn : xs.length <= 1048576) (hu : xs.Pairwise fun a b => a.1 ≠ b.1) :
    Calls Tryz.prog 51 #[.slice (some ⟨g, 0, none⟩) n cap, .func (.func K) #[] #[]] w fun e w' =>
      e = .returned (.tuple #[]) /\ OwnAt 62 2 pairK ok w' base (.slice (some ⟨g, 0, none⟩) n cap) (Bw.come xs) /\ w.grownBy w' (some g) := by
  have hown' := hown
  obtain ⟨_, inner, ho, hr0⟩ := hown'
  have hr : Reps (pairK (fun k => ok k /\ some k ≠ some g) w) 2 xs inner := hr0
  clear hr0
  have hlt := (ho.lt g rfl).2
  obtain ⟨ds, hds, hel⟩ := els_of_reps hr
  have hlen : ds.length = xs.length := by rw [<- hds, List.length_map]
  rw [<- hlen] at ho
  have hH := holds_of_own (ok' := ok) ho hel
  have hnn : n = ds.toArray.size := by
    rcases ho.2 with ⟨h, _⟩ | ⟨g', cap', cur, he, _⟩
    · cases h
    · injection he
  have hcon := AnyQ.slices_SortFunc sortP 2 Tryz.isAgg62 Tryz.sizeOf62 El.enc El.enc_len El.enc_one El.cf swoEl K #[] g 0 cap ds.toArray w eg (cmpLaysK hK hlt) hH hlt (by simp [hlen]; omega)
  rw [<- hnn] at hcon
  refine Calls.mono hcon ?_
  rintro e w' ⟨rfl, d', m, os, ⟨hsz, _, hperm⟩, hsort, rfl⟩
  have e1 : d'.extract 0 ds.toArray.size = d' := by rw [<- hsz]; exact Array.extract_size
  have e2 : ds.toArray.extract 0 ds.toArray.size = ds.toArray := Array.extract_size
  rw [hnn, e1, e2, List.toList_toArray] at hperm
  have hfin := own_of_sorted hown (d := d') (m := m) (by rw [hsz]; simp [hlen]) os
  have hp : (d'.toList.map El.p).Perm xs := by rw [<- hds]; exact hperm.map _
  have hun : (d'.toList.map El.p).Pairwise fun a b => a.1 ≠ b.1 := (hp.pairwise_iff (fun h e => h e.symm)).2 hu
  have hri : Bw.Rises (d'.toList.map El.p) := by
    rw [List.pairwise_map] at hun
    unfold Bw.Rises
    rw [List.pairwise_map, List.pairwise_iff_getElem] at *
    intro i j hi hj hij
    have hi' : i < d'.size := by simpa using hi
    have hj' : j < d'.size := by simpa using hj
    have hs := hsort i j (Nat.zero_le _) hij (by omega)
    rw [getElem!_pos d' j hj', getElem!_pos d' i hi'] at hs
    have hne := hun i j hi hj hij
    simp only [Array.getElem_toList] at hne ⊢
    rcases Bw.lt_or d'[i].p.1 d'[j].p.1 with h | h | h
    · exact h
    · exact absurd h hne
    · rw [(el_less _ _).2 h] at hs; cases hs
  have hc : d'.toList.map El.p = Bw.come xs := Bw.rises_ext hri (Bw.rises_come xs) fun x => by rw [Bw.mem_come_iff hu, hp.mem_iff]
  rw [hc] at hfin
  exact ⟨rfl, hfin⟩
set_option maxRecDepth 100000 in
set_option maxHeartbeats 400000 in
theorem pairsc_any : CmpKeys 52 := by
  intro ok ok' u v u' v' a b w hu hv
  have hB : Go.RowKit.Below w.heap.size w ((w.alloc (.cells #[u, u'] 62)).alloc (.cells #[v, v'] 62)) := by exact gB1
  have HC := Lib.hid (kcmp_any _ (hu.move goodByte (Moves.below hB)) (hv.move goodByte (Moves.below hB)))
  clear hu hv hB
  generalize Lib.compareBytes a b = r at *
  go_enter Tryz.func52, Tryz.ntmps52
  go_wp2_with fail
  refine HC.out.mono ?_
  rintro e w1 ⟨rfl, rfl⟩
  go_wp2
  go_ret
  exact ⟨rfl, rfl⟩
theorem fit_pairs (n : Bw.N) : n.fit -> ∀ p ∈ n.pairs, p.1.length <= 1048576 /\ p.2.length <= 1048576 := by
  refine Bw.N.ind (P := fun n => n.fit -> ∀ p ∈ n.pairs, p.1.length <= 1048576 /\ p.2.length <= 1048576) ?_ ?_ ?_ n
  · intro h p hf q hq
    simp only [Bw.N.pairs, List.mem_singleton] at hq
    subst hq
    exact hf
  · intro h t hf q hq
    simp only [Bw.N.fit] at hf
    exact hf.2.2.1 q hq
  · intro m kids ih hf q hq
    simp only [Bw.N.fit, Bw.N.fitL_iff] at hf
    simp only [Bw.N.pairs, pairsL_flat, List.mem_flatMap] at hq
    obtain ⟨k, hk, hq⟩ := hq
    exact ih k hk (hf.2.2 k hk) q hq
theorem own_rebase {α : Type} {e sz base base' : Nat} {d : Knd α} {ok : Nat -> Prop} {w : World} {v : Value} {xs : List α} (h : OwnAt e sz d ok w base v xs) (hb : base' <= base) : OwnAt e sz d ok w base' v xs := by
  obtain ⟨h1, inner, ho, hr⟩ := h
  exact ⟨h1, inner, ⟨ho.1, ho.2.imp id fun ⟨g, c, cur, k1, k2, k3⟩ => ⟨g, c, cur, k1, Nat.le_trans hb k2, k3⟩⟩, hr⟩
set_option maxRecDepth 100000 in
set_option maxHeartbeats 1000000 in
theorem npairs_any {ok : Nat -> Prop} {nv : Value} {n : Bw.N} {w : World} (hf : n.fit) (hn : NodeAt nt ok w nv n) (hl : n.pairs.length <= 1048576) (hu : n.pairs.Pairwise fun a b => a.1 ≠ b.1) :
    Calls Tryz.prog 28 #[nv] w (Gives w fun q w' => ∃ g cap, q = .slice (some ⟨g, 0, none⟩) n.pairs.length cap /\ OwnAt 62 2 pairK (fun k => w.heap.size <= k) w' w.heap.size q (Bw.come n.pairs)) := by
  have CC := Lib.hid (collect_any n hf nv (.slice none 0 0) [] w.heap.size w OwnAt.nil (Nat.le_refl _) (NodeAt.move (Moves.weaken fun k _ hl => hl) _ _ hn) (by simpa using hl))
  have HL := Lib.hid hl
  have HF := Lib.hid (fit_pairs n hf)
  have HU := Lib.hid hu
  have hE := enters_of Tryz.func52 (by kernel_rfl) rfl
  have HE := Lib.hid hE
  obtain ⟨tn, bn, rfl⟩ := hn.form
  clear hn hl hu hf hE
  rw [List.nil_append] at CC
  generalize n.pairs = l at *
  go_enter Tryz.func28, Tryz.ntmps28
  go_wp2_with fail
  refine CC.out.mono ?_
  rintro e w1 ⟨v1, rfl, hown1, hb1⟩
  have CO := Lib.hid (pown_any HL.out HF.out (hown1.row goodPair))
  obtain ⟨A1, c1, rfl⟩ := (hown1.row goodPair).form
  have HB1 := Lib.hid hb1
  clear hown1 hb1
  go_wp2_with fail
  refine CO.out.mono ?_
  rintro e w2 ⟨v2, rfl, ⟨g, cap, rfl, hown2⟩, hb2⟩
  have CS := Lib.hid (sortp_any pairsc_any HE.out hown2 HL.out HU.out)
  have HB2 := Lib.hid (HB1.out.trans (hb2.mono HB1.out.size))
  have HG := Lib.hid (hown2.lt g rfl)
  have HS1 := Lib.hid HB1.out.size
  clear hown2 hb2
  go_wp2_with fail
  refine CS.out.mono ?_
  rintro e w3 ⟨rfl, hown3, hg3⟩
  go_wp2
  go_ret
  refine ⟨_, rfl, ⟨g, cap, rfl, ?_⟩, HB2.out.grown hg3 HB2.out.size (fun k e => by cases e; exact Nat.le_trans HS1.out HG.out.1)⟩
  have h3 : OwnAt 62 2 pairK (fun k => w.heap.size <= k) w3 w1.heap.size (.slice (some ⟨g, 0, none⟩) l.length cap) (Bw.come l) := hown3.move goodPair (Moves.weaken fun k hk _ => Nat.le_trans HS1.out hk)
  exact own_rebase h3 HS1.out
open Go.RowKit Go.Bw
open Go.RowKit Go.Bw Go.Shelf
open Go.RowKit Go.Bw
theorem need_le {wt : Bw.N × Nat -> Nat} (hw : ∀ x, 1 <= wt x) (n : Bw.N) : ∀ lv, n.need wt lv <= 33 * (vol wt (n.visits lv) * vol wt (n.visits lv)) := by
  refine Bw.N.ind (P := fun n => ∀ lv, n.need wt lv <= 33 * (vol wt (n.visits lv) * vol wt (n.visits lv))) ?_ ?_ ?_ n
  · intro h p lv
    simp only [Bw.N.need, Bw.N.visits, vol, List.map_cons, List.map_nil, List.sum_cons, List.sum_nil, Nat.add_zero]
    have := hw (.leaf h p, lv)
    have := Nat.le_mul_of_pos_right (wt (.leaf h p, lv)) this
    omega
  · intro h t lv
    simp only [Bw.N.need, Bw.N.visits, vol, List.map_cons, List.map_nil, List.sum_cons, List.sum_nil, Nat.add_zero]
    have := hw (.bucket h t, lv)
    have := Nat.le_mul_of_pos_right (wt (.bucket h t, lv)) this
    omega
  · intro m kids ih lv
    have hk : Bw.N.needL wt (lv + 1) kids <= 33 * (vol wt (Bw.N.visitsL (lv + 1) kids) * vol wt (Bw.N.visitsL (lv + 1) kids)) := by
      have : ∀ ks : List Bw.N, (∀ k ∈ ks, k ∈ kids) -> Bw.N.needL wt (lv + 1) ks <= 33 * (vol wt (Bw.N.visitsL (lv + 1) ks) * vol wt (Bw.N.visitsL (lv + 1) ks)) := by
        intro ks
        induction ks with
        | nil => intro _; simp [Bw.N.needL]
        | cons k r ihr =>
          intro hm
          have h1 := ih k (hm k (by simp)) (lv + 1)
          have h2 := ihr fun x hx => hm x (by simp [hx])
          simp only [Bw.N.needL, Bw.N.visitsL, vol_append]
          generalize vol wt (k.visits (lv + 1)) = a at *
          generalize vol wt (Bw.N.visitsL (lv + 1) r) = b at *
          have e : (a + b) * (a + b) = a * a + b * b + 2 * (a * b) := by rw [Nat.add_mul, Nat.mul_add, Nat.mul_add, Nat.mul_comm b a]; omega
          omega
      exact this kids fun _ h => h
    simp only [Bw.N.need, Bw.N.visits, vol_cons]
    have h0 := hw (.branch m kids, lv)
    generalize wt (.branch m kids, lv) = a at *
    generalize vol wt (Bw.N.visitsL (lv + 1) kids) = b at *
    have e : (a + b) * (a + b) = a * a + b * b + 2 * (a * b) := by rw [Nat.add_mul, Nat.mul_add, Nat.mul_add, Nat.mul_comm b a]; omega
    have h1 := Nat.le_mul_of_pos_right a h0
    have h2 := Nat.le_mul_of_pos_left b h0
    omega
theorem lays_visits {level : Nat} {n : Bw.N} {S : Bw.En -> Prop} (h : Bw.Lays level n S) : ∀ l : List Bw.En, Bw.Unlike l -> (∀ e, e ∈ l ↔ S e) -> level <= 13 -> (∃ r, ∀ e, S e -> e.1 % 32 ^ level = r) -> (∀ e, S e -> e.1 < 18446744073709551616) ->
    1 <= l.length /\ (∀ x ∈ n.visits level, x.2 <= 13) /\ (n.visits level).length <= l.length * (14 - level) := by
  induction h with
  | @leaf level h p S hs =>
    intro l hu hm hlv _ _
    have h1 : 1 <= l.length := List.length_pos_iff.2 (List.ne_nil_of_mem ((hm (h, p)).2 ((hs _).2 rfl)))
    refine ⟨h1, ?_, ?_⟩
    · intro x hx; simp only [Bw.N.visits, List.mem_singleton] at hx; subst hx; exact hlv
    · simp only [Bw.N.visits, List.length_singleton]; exact Nat.mul_pos h1 (by omega)
  | @bucket level h t S he hr h2 hs =>
    intro l hu hm hlv _ _
    obtain ⟨a, b, r, hl⟩ := Bw.two_of_length h2
    have h1 : 1 <= l.length := List.length_pos_iff.2 (List.ne_nil_of_mem ((hm (h, a)).2 ((hs _).2 ⟨rfl, by rw [hl]; simp⟩)))
    refine ⟨h1, ?_, ?_⟩
    · intro x hx; simp only [Bw.N.visits, List.mem_singleton] at hx; subst hx; exact hlv
    · simp only [Bw.N.visits, List.length_singleton]; exact Nat.mul_pos h1 (by omega)
  | @branch level m kids S hm32 hl h2 hc hk ih =>
    intro l hu hm hlv hr hb
    have hlv12 := Bw.lays_branch_level (Bw.Lays.branch hm32 hl h2 hc hk) hlv hr hb
    obtain ⟨a, b, ha, _⟩ := h2
    have h1 : 1 <= l.length := List.length_pos_iff.2 (List.ne_nil_of_mem ((hm a).2 ha))
    have key : ∀ (j : Nat) (hj : j < kids.length), (∀ x ∈ kids[j].visits (level + 1), x.2 <= 13) /\ (kids[j].visits (level + 1)).length <= (Bw.partOf level ((Bw.bitsOf m)[j]'(by omega)) l).length * (13 - level) := by
      intro j hj
      have hjb : j < (Bw.bitsOf m).length := by omega
      have hp := ih j _ _ (List.getElem?_eq_getElem hjb) (List.getElem?_eq_getElem hj) (Bw.partOf level ((Bw.bitsOf m)[j]) l) (hu.filter _) (fun e => by rw [Bw.mem_partOf, hm]) (by omega)
        (by
          obtain ⟨r, hr⟩ := hr
          obtain ⟨e0, he0⟩ := (hk j _ _ (List.getElem?_eq_getElem hjb) (List.getElem?_eq_getElem hj)).some
          exact ⟨e0.1 % 32 ^ (level + 1), fun e he => Bw.chunk_inj ((hr e he.1).trans (hr e0 he0.1).symm) (he.2.trans he0.2.symm)⟩)
        (fun e he => hb e he.1)
      exact ⟨hp.2.1, by have := hp.2.2; rwa [show 14 - (level + 1) = 13 - level by omega] at this⟩
    have hsum : ∀ k, k <= kids.length -> (∀ x ∈ Bw.N.visitsL (level + 1) (kids.take k), x.2 <= 13) /\ (Bw.N.visitsL (level + 1) (kids.take k)).length <= (((Bw.bitsOf m).take k).map fun c => (Bw.partOf level c l).length).sum * (13 - level) := by
      intro k
      induction k with
      | zero => intro _; simp [Bw.N.visitsL]
      | succ k ihk =>
        intro hk'
        have hlt : k < kids.length := by omega
        obtain ⟨i1, i2⟩ := ihk (by omega)
        obtain ⟨k1, k2⟩ := key k hlt
        rw [take_succ_snoc hlt, take_succ_snoc (show k < (Bw.bitsOf m).length by omega), Bw.N.visitsL_append]
        refine ⟨fun x hx => ?_, ?_⟩
        · rcases List.mem_append.1 hx with hx | hx
          · exact i1 x hx
          · simp only [Bw.N.visitsL, List.append_nil] at hx; exact k1 x hx
        · simp only [List.length_append, Bw.N.visitsL, List.append_nil, List.map_append, List.map_cons, List.map_nil, List.sum_append, List.sum_cons, List.sum_nil, Nat.add_zero, Nat.add_mul]
          omega
    obtain ⟨s1, s2⟩ := hsum kids.length (Nat.le_refl _)
    rw [List.take_length] at s1 s2
    rw [hl, List.take_length] at s2
    have hall := Bw.sum_parts (fun e : Bw.En => Bw.chunkAt e.1 level) l (Bw.bitsOf m) (Bw.nodup_bitsOf m) (fun e he => hc e ((hm e).1 he))
    have hall' : ((Bw.bitsOf m).map fun c => (Bw.partOf level c l).length).sum = l.length := hall
    rw [hall'] at s2
    refine ⟨h1, fun x hx => ?_, ?_⟩
    · simp only [Bw.N.visits] at hx
      rcases List.mem_cons.1 hx with rfl | hx
      · exact hlv
      · exact s1 x hx
    · simp only [Bw.N.visits, List.length_cons]
      rw [show 14 - level = (13 - level) + 1 by omega, Nat.mul_succ]
      omega
def wtE (x : Bw.N × Nat) : Nat := 1 + x.1.held.length
theorem vol_wtE (l : List (Bw.N × Nat)) : vol wtE l = l.length + (Bw.heldOf l).length := by
  induction l with
  | nil => rfl
  | cons a r ih => rw [vol_cons, ih]; simp only [wtE, Bw.heldOf, List.flatMap_cons, List.length_append, List.length_cons]; omega
theorem vol_one (l : List (Bw.N × Nat)) : vol (fun _ => 1) l = l.length := by
  induction l with
  | nil => rfl
  | cons a r ih => rw [vol_cons, ih]; simp only [List.length_cons]; omega
theorem held_count (n : Bw.N) : ∀ lv, (Bw.heldOf (n.visits lv)).length = n.count := by
  refine Bw.N.ind (P := fun n => ∀ lv, (Bw.heldOf (n.visits lv)).length = n.count) ?_ ?_ ?_ n
  · intro h p lv; simp [Bw.heldOf, Bw.N.visits, Bw.N.held, Bw.N.count]
  · intro h t lv; simp [Bw.heldOf, Bw.N.visits, Bw.N.held, Bw.N.count, Bw.T.length_list]
  · intro m kids ih lv
    have : ∀ ks : List Bw.N, (∀ k ∈ ks, k ∈ kids) -> (Bw.heldOf (Bw.N.visitsL (lv + 1) ks)).length = Bw.N.countL ks := by
      intro ks
      induction ks with
      | nil => intro _; rfl
      | cons k r ihr =>
        intro hm
        simp only [Bw.N.visitsL, Bw.heldOf_append, List.length_append, Bw.N.countL, ih k (hm k (by simp)) (lv + 1), ihr fun x hx => hm x (by simp [hx])]
    have h := this kids fun _ h => h
    simp only [Bw.N.count, Bw.N.visits]
    rw [<- h]
    simp [Bw.heldOf, Bw.N.held]
structure Slim (n : Bw.N) : Prop where
  fit : n.fit
  deep : ∀ x ∈ n.visits 0, x.2 <= 100000
  few : vol wtE (n.visits 0) <= 100000
theorem Slim.need {n : Bw.N} (h : Slim n) : n.need wtE 0 <= 1099511627776 := by
  have h1 := need_le (wt := wtE) (fun x => by unfold wtE; omega) n 0
  have h2 := Nat.mul_le_mul h.few h.few
  omega
theorem Slim.need1 {n : Bw.N} (h : Slim n) : n.need (fun _ => 1) 0 <= 1099511627776 := by
  have h1 := need_le (wt := fun _ => 1) (fun _ => Nat.le_refl _) n 0
  have h2 : vol (fun _ => 1) (n.visits 0) <= 100000 := by have := h.few; rw [vol_wtE] at this; rw [vol_one]; omega
  have h3 := Nat.mul_le_mul h2 h2
  omega
theorem shape_ok {w : World} (hT : Tab w) : EachOk 75 (.pointer (some ⟨w.heap.size, 0, none⟩)) w.heap.size w.heap.size 101 1099511627776 (fun _ => 1) (InvShape w w.heap.size) (fun _ => True) where
  enters := enters_of Tryz.func75 (by kernel_rfl) rfl
  pos := hT.pos
  ty := by decide
  low := fun _ _ h => h.low hT
  own := InvRow.own steady_spot
  run := by
    intro pre n lv W nv hi _ hn hv
    have hl : pre.length < 1099511627776 := by rw [vol_one] at hv; omega
    have hn' := hn
    cases n with
    | leaf h p =>
      simp only [NodeAt] at hn'
      obtain ⟨b, _, _, rfl, _⟩ := hn'
      exact shape1_leaf hi hl hn
    | bucket h t =>
      simp only [NodeAt] at hn'
      obtain ⟨b, _, rfl, _⟩ := hn'
      exact shape1_bucket hi hl hn
    | branch m kids =>
      simp only [NodeAt] at hn'
      obtain ⟨b, _, _, _, rfl, _⟩ := hn'
      exact shape1_branch hi hl hn
theorem onodeL_form {ok : Nat -> Prop} {w : World} {v : Value} {o : Option Bw.N} (h : ONodeAt nt ok w v o) : v = .nilIface \/ ∃ t b, v = .iface t (.pointer (some ⟨b, 0, none⟩)) := by
  cases o with
  | none => exact .inl h
  | some n => exact .inr h.form
set_option maxRecDepth 100000 in
set_option maxHeartbeats 1000000 in
theorem shape_any {ok : Nat -> Prop} {nv : Value} {o : Option Bw.N} {w : World} (hn : ONodeAt nt ok w nv o) (hS : ∀ n, o = some n -> Slim n) (hT : Tab w) :
    Calls Tryz.prog 43 #[nv] w (Gives w fun q w' => SpotsAt (fun k => w.heap.size <= k) w' q (Bw.spotsOf (Bw.visitsO 0 o))) := by
  have hmf : ∀ (fn : Fn) (first cap : Array Value) (w : World), (Instr.makeFunc fn first cap).run Tryz.prog w = .ok (.func fn first cap) w := fun _ _ _ _ => rfl
  obtain ⟨W1, hW1⟩ : ∃ W1, w.alloc (.cells #[.slice none 0 0] 69) = W1 := ⟨_, rfl⟩
  have hB1 : Below w.heap.size w W1 := by rw [<- hW1]; exact gB3
  have hi1 : InvShape w w.heap.size [] W1 := ⟨.slice none 0 0, by rw [<- hW1]; exact Boxed.new w _ _, OwnAt.nil, hB1⟩
  have hT1 := hT.below hT.pos hB1
  have CE : Hid (Calls Tryz.prog 74 #[nv, .int .i64 0, .func (Fn.func 75) #[] #[.pointer (some ⟨w.heap.size, 0, none⟩)]] W1 fun e' w' => e' = .returned (.tuple #[]) /\ InvShape w w.heap.size (Bw.visitsO 0 o) w') := Lib.hid (by
    cases o with
    | none =>
      simp only [ONodeAt] at hn
      subst hn
      refine (leach_nil 0 W1).mono ?_
      rintro e' w' ⟨rfl, hb⟩
      exact ⟨rfl, InvRow.own steady_spot _ W1 w' none hi1 ⟨hb.os, hb.tape, hb.output, hb.size, fun k hk _ => hb.block k hk⟩ (fun r e => by cases e)⟩
    | some n =>
      have hs := hS n rfl
      refine (leach_any (shape_ok hT) n hs.fit nv 0 [] W1 hi1 (NodeAt.move (fun k _ hl => ⟨hl, hB1.block k hl⟩) _ _ hn) (fun x hx => ⟨trivial, hs.deep x hx⟩) (by simp only [vol, List.map_nil, List.sum_nil, Nat.zero_add]; exact hs.need1)).mono ?_
      rintro e' w' ⟨rfl, h1, _⟩
      exact ⟨rfl, by simpa [Bw.visitsO] using h1⟩)
  rcases onodeL_form hn with rfl | ⟨tn, bn, rfl⟩
  all_goals clear hn hS hT hi1 hT1
  all_goals go_enter Tryz.func43, Tryz.ntmps43
  all_goals go_wp2_with fail
  all_goals refine CE.out.mono ?_
  all_goals rintro e w2 ⟨rfl, vo, hbo, hown, hB⟩
  all_goals have c0 := hbo.cell
  all_goals obtain ⟨AO, co, rfl⟩ := (hown.row goodSpot).form
  all_goals have HR := Lib.hid ((hown.row goodSpot).weaken goodSpot (ok' := fun k => w.heap.size <= k) (fun k hk => hk.1))
  all_goals have HB := Lib.hid hB
  all_goals clear hown hB hbo
  all_goals go_wp2
  all_goals go_ret
  all_goals exact ⟨_, rfl, HR.out, HB.out⟩
theorem slim_len {o : Option Bw.N} (h : ∀ n, o = some n -> Slim n) : (Bw.spotsOf (Bw.visitsO 0 o)).length <= 1048576 /\ (Bw.heldOf (Bw.visitsO 0 o)).length <= 1048576 := by
  cases o with
  | none => simp [Bw.visitsO, Bw.spotsOf, Bw.heldOf]
  | some n =>
    have := (h n rfl).few
    rw [vol_wtE] at this
    simp only [Bw.visitsO, Bw.spotsOf, List.length_map]
    omega
end Go.Proofs.YtadaoceidkagfaaGreatDoor
