
import Derived.Test.YtkblhilaeecdlaaBuild1
import Derived.Deep.AppendLies
import Derived.Deep.RegionLaw
namespace Go.Proofs.Ytkblhilaeecdlaa
open Go.RowKit Go.Bw

theorem infoX : (Try.prog.info? 32).map (fun i => (i.zero, i.size, i.bytes)) = some (some (.agg #[.int .i64 0, .int .u64 0, .slice none 0 0, .slice none 0 0, .slice none 0 0]), 5, 88) := by kernel_rfl

section
variable {a : Act} {Q : Exit → Act → World → Prop} {o : Oper} {ops : Array Oper} {w : World} {ok : Nat → Prop}

theorem wpo_nodeapp {K : Act → World → Prop} {xs : List (Option Bw.N)} (s x : Nat) (v : Value) (base : Nat)
    (ho : o.op = .call { callee := .builtin .append, args := #[.tmp s, .tmp x], argTypes := #[62, 62] })
    (hs : a.eval (.tmp s) = v) (hown : OwnAt 26 1 (nodeK nt) ok w base v xs)
    (y : Option Bw.N) (nv : Value) (g : Nat) (hx : a.eval (.tmp x) = .slice (some ⟨g, 0, none⟩) 1 1) (hc : w.cell? ⟨g, 0, none⟩ = some nv)
    (hy : ONodeAt nt (fun k => ok k ∧ some k ≠ v.ownBlock) w nv y) (hok : ∀ k, w.heap.size ≤ k → ok k) (hl : xs.length ≤ 4194304) (hbase : base ≤ w.heap.size)
    (h : ∀ v' w', OwnAt 26 1 (nodeK nt) ok w' base v' (xs ++ [y]) → w.grownBy w' v.ownBlock → (v'.ownBlock = v.ownBlock ∨ v'.ownBlock = some w.heap.size) → K (a.put o.dst v') w') :
    o.wp Try.prog a w K Q := by
  obtain ⟨i0, hi, hz0, hz1, hz2⟩ := info_parts infoN
  refine wpo_app (goodNode nt) (.tmp s) (.tmp x) 62 ho base 26 i0 _ 16 Try.underlying62 hi hz0 hz1 hz2 rfl (by decide) v xs hs hown ⟨g, 0, none⟩ 1 1 [y] [nv] hx rfl ?_ (Reps.one ⟨nv, rfl, hy⟩ rfl) hok (by omega) (by decide) hbase h
  intro j u hj
  cases j with
  | zero => simp only [List.getElem?_cons_zero, Option.some.injEq] at hj; subst hj; rw [add_none]; exact hc
  | succ j => simp at hj

theorem st_nodeapp {K : Act → World → Prop} {E : Prop} {xs : List (Option Bw.N)} (s x : Nat) (v : Value) (base : Nat) (hgd : o.guard = none)
    (ho : o.op = .call { callee := .builtin .append, args := #[.tmp s, .tmp x], argTypes := #[62, 62] })
    (hs : a.eval (.tmp s) = v) (hown : OwnAt 26 1 (nodeK nt) ok w base v xs)
    (y : Option Bw.N) (nv : Value) (g : Nat) (hx : a.eval (.tmp x) = .slice (some ⟨g, 0, none⟩) 1 1) (hc : w.cell? ⟨g, 0, none⟩ = some nv)
    (hy : ONodeAt nt (fun k => ok k ∧ some k ≠ v.ownBlock) w nv y) (hok : ∀ k, w.heap.size ≤ k → ok k) (hl : xs.length ≤ 4194304) (hbase : base ≤ w.heap.size)
    (h : ∀ v' w', OwnAt 26 1 (nodeK nt) ok w' base v' (xs ++ [y]) → w.grownBy w' v.ownBlock → (v'.ownBlock = v.ownBlock ∨ v'.ownBlock = some w.heap.size) → K (a.put o.dst v') w') :
    if Region.wanted o (yielded ops a.tmps) = true then Oper.wp Try.prog o a w K Q else E := by
  have hw : Region.wanted o (yielded ops a.tmps) = true := by simp [Region.wanted, hgd]
  rw [if_pos hw]
  exact wpo_nodeapp s x v base ho hs hown y nv g hx hc hy hok hl hbase h

theorem wp_nodeapp {rest : List Oper} {xs : List (Option Bw.N)} (s x : Nat) (v : Value) (base : Nat) (hgd : o.guard = none)
    (ho : o.op = .call { callee := .builtin .append, args := #[.tmp s, .tmp x], argTypes := #[62, 62] })
    (hs : a.eval (.tmp s) = v) (hown : OwnAt 26 1 (nodeK nt) ok w base v xs)
    (y : Option Bw.N) (nv : Value) (g : Nat) (hx : a.eval (.tmp x) = .slice (some ⟨g, 0, none⟩) 1 1) (hc : w.cell? ⟨g, 0, none⟩ = some nv)
    (hy : ONodeAt nt (fun k => ok k ∧ some k ≠ v.ownBlock) w nv y) (hok : ∀ k, w.heap.size ≤ k → ok k) (hl : xs.length ≤ 4194304) (hbase : base ≤ w.heap.size)
    (h : ∀ v' w', OwnAt 26 1 (nodeK nt) ok w' base v' (xs ++ [y]) → w.grownBy w' v.ownBlock → (v'.ownBlock = v.ownBlock ∨ v'.ownBlock = some w.heap.size) → wpList Try.prog ops Q rest (a.put o.dst v') w') :
    wpList Try.prog ops Q (o :: rest) a w :=
  wpList_plain hgd fun _ hK => wpo_nodeapp s x v base ho hs hown y nv g hx hc hy hok hl hbase fun v' w' h1 h2 h3 => hK _ _ (h v' w' h1 h2 h3)

theorem st_xapp {K : Act → World → Prop} {E : Prop} {xs : List Bw.X} (s x : Nat) (v : Value) (base : Nat) (hgd : o.guard = none)
    (ho : o.op = .call { callee := .builtin .append, args := #[.tmp s, .tmp x], argTypes := #[30, 30] })
    (hs : a.eval (.tmp s) = v) (hown : OwnAt 32 5 xK ok w base v xs)
    (y : Bw.X) (a0 a1 a2 a3 a4 : Value) (g : Nat) (hx : a.eval (.tmp x) = .slice (some ⟨g, 0, none⟩) 1 1)
    (hc : w.cell? ⟨g, 0, none⟩ = some a0 ∧ w.cell? ⟨g, 1, none⟩ = some a1 ∧ w.cell? ⟨g, 2, none⟩ = some a2 ∧ w.cell? ⟨g, 3, none⟩ = some a3 ∧ w.cell? ⟨g, 4, none⟩ = some a4)
    (hy : xK (fun k => ok k ∧ some k ≠ v.ownBlock) w y [a0, a1, a2, a3, a4]) (hok : ∀ k, w.heap.size ≤ k → ok k) (hl : xs.length ≤ 1048576) (hbase : base ≤ w.heap.size)
    (h : ∀ v' w', OwnAt 32 5 xK ok w' base v' (xs ++ [y]) → w.grownBy w' v.ownBlock → (v'.ownBlock = v.ownBlock ∨ v'.ownBlock = some w.heap.size) → K (a.put o.dst v') w') :
    if Region.wanted o (yielded ops a.tmps) = true then Oper.wp Try.prog o a w K Q else E := by
  have hw : Region.wanted o (yielded ops a.tmps) = true := by simp [Region.wanted, hgd]
  rw [if_pos hw]
  obtain ⟨i0, hi, hz0, hz1, hz2⟩ := info_parts infoX
  obtain ⟨c0, c1, c2, c3, c4⟩ := hc
  refine wpo_app goodX (.tmp s) (.tmp x) 30 ho base 32 i0 _ 88 Try.underlying30 hi hz0 hz1 hz2 rfl (by decide) v xs hs hown ⟨g, 0, none⟩ 1 1 [y] [a0, a1, a2, a3, a4] hx rfl ?_ (Reps.one hy rfl) hok (by omega) (by decide) hbase h
  intro j u hj
  rw [add_none]
  match j, hj with
  | 0, hj => cases hj; exact c0
  | 1, hj => cases hj; exact c1
  | 2, hj => cases hj; exact c2
  | 3, hj => cases hj; exact c3
  | 4, hj => cases hj; exact c4

/-- A row, where another row is grown. -/
theorem row_aside {α : Type} {e sz : Nat} {d : Knd α} (hd : _root_.Go.Bw.Good sz d) {n b0 : Nat} {vA vA' vB : Value} {ys : List α} {w w' : World}
    (hB : OwnAt e sz d (fun k => n ≤ k ∧ some k ≠ vA.ownBlock) w b0 vB ys) (hg : w.grownBy w' vA.ownBlock) (hat : vA'.ownBlock = vA.ownBlock ∨ vA'.ownBlock = some w.heap.size) :
    OwnAt e sz d (fun k => n ≤ k ∧ some k ≠ vA'.ownBlock) w' b0 vB ys := by
  refine hB.move hd fun k hk hl => ⟨⟨hk.1, fun e => ?_⟩, hg.block k hl hk.2⟩
  rcases hat with h | h
  · exact hk.2 (e.trans h)
  · have := e.trans h
    injection this with this
    omega
end

def kidO (bf : Nat → Option Bw.N) (i n : Nat) (z : Int) : Option Bw.N := if z ≤ (i : Int) ∨ (n : Int) ≤ z then none else bf z.toNat
theorem kidsOf_map (bf : Nat → Option Bw.N) (i n : Nat) (ks : List Int) : Bw.kidsOf bf i n ks = ks.map (kidO bf i n) := rfl

def Cells5 (W : World) (b : Nat) (a0 a1 a2 a3 a4 : Value) : Prop :=
  (W.cell? ⟨b, 0, none⟩ = some a0 ∧ W.cell? ⟨b, 1, none⟩ = some a1 ∧ W.cell? ⟨b, 2, none⟩ = some a2 ∧ W.cell? ⟨b, 3, none⟩ = some a3 ∧ W.cell? ⟨b, 4, none⟩ = some a4) ∧
    (W.frozen? ⟨b, 0, none⟩ = false ∧ W.frozen? ⟨b, 1, none⟩ = false ∧ W.frozen? ⟨b, 2, none⟩ = false ∧ W.frozen? ⟨b, 3, none⟩ = false ∧ W.frozen? ⟨b, 4, none⟩ = false)

/-- the children of a branch plan, so far -/
def BldRel (os : List (Option Bw.N)) (wh : Bool) (w1 : World) (a3 : Value) (vA fl ix : Value) (wr : World) : Prop :=
  ∃ (j : Nat) (ys : List Bw.X) (vB : Value), j ≤ os.length ∧ ix = .int .i64 j ∧ fl = .bool (wh && (os.take j).all Option.isSome) ∧ ((wh && (os.take j).all Option.isSome) = true → ys = (os.take j).map Bw.absO) ∧ ys.length ≤ j ∧
    OwnAt 26 1 (nodeK nt) (fun k => w1.heap.size + 1 ≤ k ∧ some k ≠ vB.ownBlock) wr (w1.heap.size + 1) vA (os.take j) ∧
    OwnAt 32 5 xK (fun k => w1.heap.size + 1 ≤ k ∧ some k ≠ vA.ownBlock) wr (w1.heap.size + 1) vB ys ∧
    Cells5 wr w1.heap.size (.int .i64 3) (.int .u64 0) (.slice none 0 0) a3 vB ∧ Below w1.heap.size w1 wr ∧ w1.heap.size + 1 ≤ wr.heap.size

theorem cells5_block {W W' : World} {b : Nat} {a0 a1 a2 a3 a4 : Value} (h : W'.heap[b]? = W.heap[b]?) (hc : Cells5 W b a0 a1 a2 a3 a4) : Cells5 W' b a0 a1 a2 a3 a4 := by
  obtain ⟨⟨h0, h1, h2, h3, h4⟩, f0, f1, f2, f3, f4⟩ := hc
  exact ⟨⟨(World.cell?_of_block (w := W) h).trans h0, (World.cell?_of_block (w := W) h).trans h1, (World.cell?_of_block (w := W) h).trans h2, (World.cell?_of_block (w := W) h).trans h3, (World.cell?_of_block (w := W) h).trans h4⟩,
    (World.frozen?_of_block (w := W) h).trans f0, (World.frozen?_of_block (w := W) h).trans f1, (World.frozen?_of_block (w := W) h).trans f2, (World.frozen?_of_block (w := W) h).trans f3, (World.frozen?_of_block (w := W) h).trans f4⟩

theorem cells5_set {W : World} {b : Nat} {a0 a1 a2 a3 a4 : Value} (u : Value) (hc : Cells5 W b a0 a1 a2 a3 a4) : Cells5 (W.setCell ⟨b, 4, none⟩ u) b a0 a1 a2 a3 u := by
  obtain ⟨⟨h0, h1, h2, h3, h4⟩, f0, f1, f2, f3, f4⟩ := hc
  refine ⟨⟨?_, ?_, ?_, ?_, ?_⟩, ?_, ?_, ?_, ?_, ?_⟩ <;> go_simp

theorem x_after {n0 base : Nat} {vA v3 vB : Value} {w2 Wc w3 W : World} {y : Bw.X} {cs : List Value} (hX : xK (fun k => n0 ≤ k) w2 y cs) (hA : ∀ k, vA.ownBlock = some k → k < n0) (hB : ∀ k, vB.ownBlock = some k → k < n0) (hbase : base ≤ n0)
    (h2c : Below w2.heap.size w2 Wc) (hg : Wc.grownBy w3 vA.ownBlock) (hat : v3.ownBlock = vA.ownBlock ∨ v3.ownBlock = some Wc.heap.size) (h3 : Below w3.heap.size w3 W) :
    xK (fun k => (base ≤ k ∧ some k ≠ v3.ownBlock) ∧ some k ≠ vB.ownBlock) W y cs := by
  refine XAt.move (fun k hk hl => ?_) _ _ hX
  have hne : some k ≠ vA.ownBlock := fun e => by have := hA k e.symm; omega
  have hl2 := h2c.size
  refine ⟨⟨⟨by omega, fun e => ?_⟩, fun e => by have := hB k e.symm; omega⟩, ?_⟩
  · rcases hat with h | h
    · exact hne (e.trans h)
    · have := e.trans h
      injection this with this
      omega
  · rw [h3.block k (by have := hg.size; omega), hg.block k (by omega) hne, h2c.block k hl]

theorem node_at {n0 base : Nat} {vA vB : Value} {w2 W : World} {y : Option Bw.N} {nv : Value} (hX : ONodeAt nt (fun k => n0 ≤ k) w2 nv y) (hA : ∀ k, vA.ownBlock = some k → k < n0) (hB : ∀ k, vB.ownBlock = some k → k < n0) (hbase : base ≤ n0)
    (h2 : Below w2.heap.size w2 W) : ONodeAt nt (fun k => (base ≤ k ∧ some k ≠ vB.ownBlock) ∧ some k ≠ vA.ownBlock) W nv y :=
  hX.move fun k hk hl => ⟨⟨⟨by omega, fun e => by have := hB k e.symm; omega⟩, fun e => by have := hA k e.symm; omega⟩, h2.block k hl⟩

theorem absO_kind (o : Option Bw.N) : ((Bw.absO o).kind = 0) ↔ o.isSome = false := by
  cases o with
  | none => simp [Bw.absO, Bw.X.zero, Bw.X.kind]
  | some n => cases n <;> simp [Bw.absO, Bw.N.abs, Bw.X.kind]

theorem int_at {ok : Nat → Prop} {w : World} {A : Option Addr} {n c j : Nat} {xs : List Int} {z : Int} (h : IntsAt ok w (.slice A n c) xs) (hj : xs[j]? = some z) : ∃ b o, A = some ⟨b, o, none⟩ ∧ w.cell? ⟨b, o + j, none⟩ = some (.int .i64 z) := by
  obtain ⟨b, o, cs, rfl, rfl, hc⟩ := h.get hj
  have := (hc 0 _ rfl).2
  simp only [Nat.mul_one, Nat.add_zero] at this
  exact ⟨b, o, rfl, this⟩

abbrev S5 (b : Nat) (a0 a1 a2 a3 a4 : Value) (w' : World) : Prop := w'.cell? ⟨b, 0, none⟩ = some a0 ∧ w'.cell? ⟨b, 1, none⟩ = some a1 ∧ w'.cell? ⟨b, 2, none⟩ = some a2 ∧ w'.cell? ⟨b, 3, none⟩ = some a3 ∧ w'.cell? ⟨b, 4, none⟩ = some a4

theorem S5.block {b : Nat} {a0 a1 a2 a3 a4 : Value} {W W' : World} (h : W'.heap[b]? = W.heap[b]?) (hs : S5 b a0 a1 a2 a3 a4 W) : S5 b a0 a1 a2 a3 a4 W' :=
  ⟨(World.cell?_of_block (w := W) h).trans hs.1, (World.cell?_of_block (w := W) h).trans hs.2.1, (World.cell?_of_block (w := W) h).trans hs.2.2.1, (World.cell?_of_block (w := W) h).trans hs.2.2.2.1, (World.cell?_of_block (w := W) h).trans hs.2.2.2.2⟩

theorem S5.set {b c : Nat} {a0 a1 a2 a3 a4 u : Value} {W : World} (hne : b ≠ c) (hs : S5 b a0 a1 a2 a3 a4 W) : S5 b a0 a1 a2 a3 a4 (W.setCell ⟨c, 4, none⟩ u) :=
  S5.block (Below.heap_setCell _ _ _ _ hne) hs

/-- Behind an append onto a row v of the call's own, that lies in [base, n0): what lies elsewhere stays. -/
theorem grown_at {bx by_ n0 base : Nat} {v : Value} {W Wc w3 w1 : World} {a0 a1 a2 a3 a4 b0 b1 b2 b3 b4 : Value} (hWc : Below W.heap.size W Wc) (hg : Wc.grownBy w3 v.ownBlock)
    (hlt : ∀ k, v.ownBlock = some k → base ≤ k ∧ k < n0) (hbx : bx < base) (hn : n0 ≤ by_) (hby : by_ < W.heap.size) (hs : S5 by_ b0 b1 b2 b3 b4 W) (hc : Cells5 W bx a0 a1 a2 a3 a4) (hbn : base ≤ n0)
    (hB : Below bx w1 W) : S5 by_ b0 b1 b2 b3 b4 w3 ∧ Cells5 w3 bx a0 a1 a2 a3 a4 ∧ Below bx w1 w3 ∧ W.heap.size ≤ w3.heap.size := by
  have hs1 := hWc.size
  have h1 : some by_ ≠ v.ownBlock := fun e => by have := (hlt _ e.symm).2; omega
  have h2 : some bx ≠ v.ownBlock := fun e => by have := (hlt _ e.symm).1; omega
  have e1 : w3.heap[by_]? = W.heap[by_]? := (hg.block by_ (by omega) h1).trans (hWc.block by_ hby)
  have e2 : w3.heap[bx]? = W.heap[bx]? := (hg.block bx (by omega) h2).trans (hWc.block bx (by omega))
  exact ⟨hs.block e1, cells5_block e2 hc, (hB.trans (hWc.mono (by omega))).grown hg (by omega) (fun k hk => by have := (hlt k hk).1; omega), Nat.le_trans hs1 hg.size⟩

theorem keepB {B : Nat} {W Wc w3 : World} {row : Option Nat} (_hg : Wc.grownBy w3 row) (h : Below B W Wc) : Below B W Wc := h

theorem block5 {n b : Nat} {W : World} (hne : b ≠ n) (v0 v1 v2 v3 v4 : Value) : (((((W.setCell ⟨n, 0, none⟩ v0).setCell ⟨n, 1, none⟩ v1).setCell ⟨n, 2, none⟩ v2).setCell ⟨n, 3, none⟩ v3).setCell ⟨n, 4, none⟩ v4).heap[b]? = W.heap[b]? := by
  rw [Below.heap_setCell _ _ _ _ hne, Below.heap_setCell _ _ _ _ hne, Below.heap_setCell _ _ _ _ hne, Below.heap_setCell _ _ _ _ hne, Below.heap_setCell _ _ _ _ hne]

theorem branchO_all {m : Nat} {os : List (Option Bw.N)} (h0 : 0 < os.length) (h1 : os.length = (Bw.bitsOf m).length) (h2 : os.all Option.isSome = true) : Bw.absO (Bw.branchO m os) = .mk 3 0 [] (Bw.bitsOf m) (os.map Bw.absO) := by
  rw [List.all_eq_true] at h2
  obtain ⟨ks, hks⟩ := Bw.seqO_of_all h2
  have hs := Bw.seqO_some hks
  unfold Bw.branchO
  rw [if_neg (by omega), hks]
  simp only [Option.map, Bw.absO, Bw.N.abs, Bw.N.absL_eq]
  rw [hs, List.map_map]
  rfl

theorem branchO_not {m : Nat} {os : List (Option Bw.N)} (h : ¬ os.length = (Bw.bitsOf m).length ∨ os.all Option.isSome = false) : Bw.branchO m os = none := by
  unfold Bw.branchO
  split
  · rfl
  · rename_i hc
    rcases h with h | h
    · exact absurd (.inr h) hc
    · rw [Bw.seqO_none]
      · rfl
      · rw [List.all_eq_false] at h
        obtain ⟨x, hx, hn⟩ := h
        cases x with
        | none => exact hx
        | some k => simp at hn

theorem bld_close {os : List (Option Bw.N)} {wh : Bool} {w1 w4 : World} {a3 v3 vB vB' fl ix : Value} {j : Nat} {ys : List Bw.X} {kd : Option Bw.N} {yx : Bw.X}
    (hj : j < os.length) (hix : ix = .int .i64 ((j + 1 : Nat) : Int)) (htk : os.take (j + 1) = os.take j ++ [kd]) (hfl : fl = .bool ((wh && (os.take j).all Option.isSome) && kd.isSome)) (hyx : yx = Bw.absO kd)
    (hyw : (wh && (os.take j).all Option.isSome) = true → ys = (os.take j).map Bw.absO) (hyl : ys.length ≤ j)
    (hA : OwnAt 26 1 (nodeK nt) (fun k => w1.heap.size + 1 ≤ k ∧ some k ≠ vB'.ownBlock) w4 (w1.heap.size + 1) v3 (os.take j ++ [kd]))
    (hB : OwnAt 32 5 xK (fun k => w1.heap.size + 1 ≤ k ∧ some k ≠ v3.ownBlock) w4 (w1.heap.size + 1) vB' (ys ++ [yx]))
    (hC : Cells5 w4 w1.heap.size (.int .i64 3) (.int .u64 0) (.slice none 0 0) a3 vB) (hBel : Below w1.heap.size w1 w4) (hsz : w1.heap.size + 1 ≤ w4.heap.size) :
    BldRel os wh w1 a3 v3 fl ix (w4.setCell ⟨w1.heap.size, 4, none⟩ vB') := by
  have hall : (os.take (j + 1)).all Option.isSome = ((os.take j).all Option.isSome && kd.isSome) := by rw [htk, List.all_append]; simp
  have hne : ∀ k, w1.heap.size + 1 ≤ k → k ≠ w1.heap.size := fun k hk => by omega
  refine ⟨j + 1, ys ++ [yx], vB', hj, hix, by rw [hall, hfl, Bool.and_assoc], fun h => ?_, by simp; omega, ?_, ?_, cells5_set _ hC, hBel.setCell (Nat.le_refl _) _, by simp [World.setCell]; omega⟩
  · rw [hall, ← Bool.and_assoc, Bool.and_eq_true] at h
    rw [htk, List.map_append, hyw h.1, hyx]
    rfl
  · rw [htk]
    exact hA.move (goodNode nt) (Moves.set (p := ⟨w1.heap.size, 4, none⟩) _ fun k hk => hne k hk.1)
  · exact hB.move goodX (Moves.set (p := ⟨w1.heap.size, 4, none⟩) _ fun k hk => hne k hk.1)

/-- A child that is none, without a call: the other row stays. -/
theorem bld_skip {os : List (Option Bw.N)} {wh : Bool} {w1 wr Wc w3 : World} {a3 vA v3 vB fl ix : Value} {j : Nat} {ys : List Bw.X}
    (hj : j < os.length) (hix : ix = .int .i64 ((j + 1 : Nat) : Int)) (htk : os.take (j + 1) = os.take j ++ [none]) (hfl : fl = .bool false) (hyl : ys.length ≤ j)
    (hA : OwnAt 26 1 (nodeK nt) (fun k => w1.heap.size + 1 ≤ k ∧ some k ≠ vB.ownBlock) w3 (w1.heap.size + 1) v3 (os.take j ++ [none]))
    (hB : OwnAt 32 5 xK (fun k => w1.heap.size + 1 ≤ k ∧ some k ≠ vA.ownBlock) wr (w1.heap.size + 1) vB ys)
    (hlA : ∀ k, vA.ownBlock = some k → w1.heap.size + 1 ≤ k ∧ k < wr.heap.size) (hWc : Below wr.heap.size wr Wc) (hg : Wc.grownBy w3 vA.ownBlock) (hat : v3.ownBlock = vA.ownBlock ∨ v3.ownBlock = some Wc.heap.size)
    (hC : Cells5 wr w1.heap.size (.int .i64 3) (.int .u64 0) (.slice none 0 0) a3 vB) (hBel : Below w1.heap.size w1 wr) (hsz : w1.heap.size + 1 ≤ wr.heap.size) :
    BldRel os wh w1 a3 v3 fl ix w3 := by
  have hall : (os.take (j + 1)).all Option.isSome = false := by rw [htk, List.all_append]; simp
  have h1 : some w1.heap.size ≠ vA.ownBlock := fun e => by have := (hlA _ e.symm).1; omega
  have hs1 := hWc.size
  have hs2 := hg.size
  have e2 : w3.heap[w1.heap.size]? = wr.heap[w1.heap.size]? := (hg.block _ (by omega) h1).trans (hWc.block _ (by omega))
  refine ⟨j + 1, ys, vB, hj, hix, by rw [hall, hfl, Bool.and_false], fun h => ?_, by omega, by rw [htk]; exact hA, ?_, cells5_block e2 hC, (hBel.trans (hWc.mono (by omega))).grown hg (by omega) (fun k hk => by have := (hlA k hk).1; omega), by omega⟩
  · rw [hall, Bool.and_false] at h; cases h
  · exact row_aside goodX (hB.move goodX (Moves.below hWc)) hg hat

set_option maxRecDepth 100000 in
set_option maxHeartbeats 8000000 in
theorem build_branch {l : List Bw.Plan} {i : Nat} {v : Value} {w : World} {q : Bw.Plan} (hq : l[i]? = some q) (hbr : q.branch = true) (hr : PlansAt AllB w v l) (hset : q.set < 4294967296) (hkl : q.kids.length ≤ 6) (bf : Nat → Option Bw.N)
    (hcnt : countOs (Bw.kidsOf bf i l.length q.kids) ≤ 4611686018427387904)
    (hih : ∀ z, i < z → z < l.length → ∀ W, Below w.heap.size w W → Calls Try.prog 8 #[v, .int .i64 (z : Nat)] W (Gives W (BuildTold W (bf z)))) :
    Calls Try.prog 8 #[v, .int .i64 (i : Nat)] w (Gives w (BuildTold w (Bw.branchO q.set (Bw.kidsOf bf i l.length q.kids)))) := by
  obtain ⟨A, c, rfl⟩ := hr.form
  obtain ⟨b, o, vp, vk, rfl, hob, d0, d1, d2, d3, d4, hp, hkk⟩ := plan_get hr hq
  obtain ⟨U1, cu1, rfl⟩ := hp.form
  obtain ⟨U2, cu2, rfl⟩ := hkk.form
  have hil := (List.getElem?_eq_some_iff.1 hq).1
  have hbl := World.block_lt_of_cell? w _ d0
  dsimp only at hbl
  have h0 : (0 : Int) ≤ (i : Int) := by omega
  have h1 : (i : Int) < (l.length : Int) := by omega
  obtain ⟨qb, qh, qp, qs, qk⟩ := q
  dsimp only at *
  subst hbr
  have hg1 : ∃ WP, ((w.alloc (.cells #[.int .i64 0, .int .u64 0, .slice none 0 0, .slice none 0 0, .slice none 0 0] 32)).alloc (.cells #[.bool true, .int .u64 (qh : Nat), .slice U1 qp.length cu1, .int .u32 (qs : Nat), .slice U2 qk.length cu2] 49)) = WP := ⟨_, rfl⟩
  obtain ⟨WP, hWP⟩ := hg1
  have hB2 : Below w.heap.size w WP := by rw [← hWP]; (repeat (first | exact Below.refl _ _ | with_reducible assumption | refine Below.drew ?_ | refine b_drewN ?_ _ | (refine Below.alloc ?_ (by simp) _) | (refine Below.alloc ?_ (by simp; omega) _)))
  have hsz : w.heap.size + 2 ≤ WP.heap.size := by rw [← hWP]; simp
  have e0 : WP.cell? ⟨w.heap.size + 1, 0, none⟩ = some (.bool true) := by subst hWP; go_simp
  have e3 : WP.cell? ⟨w.heap.size + 1, 3, none⟩ = some (.int .u32 (qs : Nat)) := by subst hWP; go_simp
  have e4 : WP.cell? ⟨w.heap.size + 1, 4, none⟩ = some (.slice U2 qk.length cu2) := by subst hWP; go_simp
  have gb : WP.heap[w.heap.size]? = some (.cells #[.int .i64 0, .int .u64 0, .slice none 0 0, .slice none 0 0, .slice none 0 0] 32 (0, 0)) := by
    subst hWP
    rw [heap_alloc_old _ _ (by simp)]
    exact heap_alloc_new w _
  have HWP := Lib.hid hWP
  have HB2 := Lib.hid hB2
  have CLI := Lib.hid (rlist_any (w := WP) hset)
  have hwr : IntKind.u32.wrap (qs : Int) = (qs : Int) := by rw [IntKind.wrap_u32]; omega
  have HG : Hid (∀ W, Below WP.heap.size WP W → (W.cell? ⟨w.heap.size + 1, 0, none⟩ = some (.bool true) ∧ W.cell? ⟨w.heap.size + 1, 3, none⟩ = some (.int .u32 (qs : Nat)) ∧ W.cell? ⟨w.heap.size + 1, 4, none⟩ = some (.slice U2 qk.length cu2)) ∧
      W.heap[w.heap.size]? = some (.cells #[.int .i64 0, .int .u64 0, .slice none 0 0, .slice none 0 0, .slice none 0 0] 32 (0, 0))) :=
    Lib.hid fun W hW => ⟨⟨(hW.cell (by simp; omega)).trans e0, (hW.cell (by simp; omega)).trans e3, (hW.cell (by simp; omega)).trans e4⟩, (hW.block _ (by omega)).trans gb⟩
  clear hr hq hp hWP hB2
  go_enter Try.func8, Try.ntmps8
  go_wp2_with fail
  rw [HWP.out]
  refine CLI.out.mono ?_
  rintro e w1 ⟨q1, rfl, hq1, hb1⟩
  obtain ⟨⟨f0, f3, f4⟩, gb⟩ := HG.out w1 hb1
  obtain ⟨M, cm, rfl⟩ := hq1.form
  have hlt1 : w.heap.size + 1 < w1.heap.size := by have := hb1.size; omega
  clear e0 e3 e4 d0 d1 d2 d3 d4
  have HIH := Lib.hid hih
  have HCN := Lib.hid hcnt
  have HQ1 := Lib.hid hq1
  have HIN := Lib.hid hkk
  have HB1 : Hid (Below w.heap.size w w1) := Lib.hid (HB2.out.trans (hb1.mono HB2.out.size))
  have HF : Hid ((w1.cell? ⟨w.heap.size + 1, 3, none⟩ = some (.int .u32 (qs : Nat))) ∧ w1.heap[w.heap.size]? = some (.cells #[.int .i64 0, .int .u64 0, .slice none 0 0, .slice none 0 0, .slice none 0 0] 32 (0, 0))) := Lib.hid ⟨f3, gb⟩
  have HKL := Lib.hid hkl
  clear hih hcnt hq1 hkk hb1 gb f3 hkl
  obtain ⟨os, hos⟩ : ∃ os, os = Bw.kidsOf bf i l.length qk := ⟨_, rfl⟩
  have hol : os.length = qk.length := by rw [hos]; simp [Bw.kidsOf]
  have HOS := Lib.hid hos
  have HOL := Lib.hid hol
  clear hos hol
  obtain ⟨wh, hwh⟩ : ∃ wh, ((qk.length : Int) == ((Bw.bitsOf qs).length : Int)) = wh := ⟨_, rfl⟩
  have HWH : Hid (wh = decide (qk.length = (Bw.bitsOf qs).length)) := Lib.hid (by rw [← hwh, Bool.eq_iff_iff, beq_iff_eq, decide_eq_true_iff]; omega)
  by_cases hk0 : 0 < qk.length
  · have hk1 : (0 : Int) < (qk.length : Int) := by omega
    have HK0 := Lib.hid hk0
    clear hk0
    go_wp2_with fail
    clear hwh
    go_loopw [10, 11, 67] (BldRel os wh w1 (.slice M (Bw.bitsOf qs).length cm)) (fun _ _ ix _ => qk.length - (intOf ix).toNat)
    case atStart => exact ⟨0, [], .slice none 0 0, Nat.zero_le _, rfl, by simp, fun _ => rfl, Nat.le_refl _, OwnAt.nil, OwnAt.nil, five_cells (heap_alloc_new _ _), by (repeat (first | exact Below.refl _ _ | with_reducible assumption | refine Below.drew ?_ | refine b_drewN ?_ _ | (refine Below.alloc ?_ (by simp) _) | (refine Below.alloc ?_ (by simp; omega) _))), by simp⟩
    case round =>
      obtain ⟨j, ys, vB, hj, rfl, rfl, hyw, hyl, hA, hB, hC, hBel, hsz2⟩ := hrel
      rw [HOL.out] at hj
      by_cases hlt : j < qk.length
      · obtain ⟨bk, o2, rfl, z0⟩ := int_at HIN.out (List.getElem?_eq_getElem hlt)
        have hltO : j < os.length := by rw [HOL.out]; exact hlt
        have hkd : os[j] = kidO bf i l.length qk[j] := by
          have h9 := HOS.out
          subst h9
          simp [Bw.kidsOf, kidO]
        have htk : os.take (j + 1) = os.take j ++ [os[j]] := take_succ_snoc hltO
        generalize qk[j] = z at *
        generalize os[j] = kd at *
        have hblz := World.block_lt_of_cell? w _ z0
        dsimp only at hblz
        have hBw : Below w.heap.size w wr := HB1.out.trans (hBel.mono HB1.out.size)
        have z1 := (hBw.cell (p := ⟨bk, o2 + j, none⟩) hblz).trans z0
        have hblz2 : bk < wr.heap.size := Nat.lt_of_lt_of_le hblz hBw.size
        have h2 : (0 : Int) ≤ (j : Int) := by omega
        have h3 : (j : Int) < (qk.length : Int) := by omega
        have hlA := hA.lt
        have hlB := hB.lt
        have HLA := Lib.hid hlA; have HLB := Lib.hid hlB
        have HAW := Lib.hid (fun W (hW : Below wr.heap.size wr W) => hA.move (goodNode nt) (Moves.below hW))
        have HBW := Lib.hid (fun W (hW : Below wr.heap.size wr W) => hB.move goodX (Moves.below hW))
        have HC := Lib.hid hC
        have HTK := Lib.hid htk
        have HKD := Lib.hid hkd
        have HYW := Lib.hid hyw
        have HYL := Lib.hid hyl
        have HBEL := Lib.hid hBel
        have HBWW := Lib.hid hBw
        have HSZ := Lib.hid hsz2
        have HLT := Lib.hid hlt
        clear hA hB hC htk hkd hyw hyl hBel hBw z0 hlA hlB hsz2
        by_cases hz : z ≤ (i : Int) ∨ (l.length : Int) ≤ z
        · have hkn : kd = none := by rw [HKD.out]; unfold kidO; rw [if_pos hz]
          have HKN := Lib.hid hkn
          clear hkn
          rw [HKN.out] at HTK
          have HZ := Lib.hid hz
          by_cases hz1 : z ≤ (i : Int)
          · clear hz
            go_wp2_with (at_builtin; refine wp_nodeapp 80 81 u10 (w1.heap.size + 1) rfl rfl rfl (HAW.out _ (by (repeat (first | exact Below.refl _ _ | with_reducible assumption | refine Below.drew ?_ | refine b_drewN ?_ _ | (refine Below.alloc ?_ (by simp) _) | (refine Below.alloc ?_ (by simp; omega) _))))) none _ _ rfl (by go_simp) rfl (fun k hk => ⟨by have := HSZ.out; (try simp at hk); omega, fun e => by have := (HLB.out k e.symm).2; (try simp at hk); omega⟩) (by have := HLT.out; have := HKL.out; simp; omega) (by have := HSZ.out; (try simp); omega) ?_; intro v3 w3 hown3 hg3 hat3; have hWc := keepB (B := wr.heap.size) (W := wr) hg3 (by (repeat (first | exact Below.refl _ _ | with_reducible assumption | refine Below.drew ?_ | refine b_drewN ?_ _ | (refine Below.alloc ?_ (by simp) _) | (refine Below.alloc ?_ (by simp; omega) _)))))
            exact ⟨bld_skip (by rw [HOL.out]; exact HLT.out) (int_succ HLT.out (Nat.le_trans HKL.out (by decide))) HTK.out rfl HYL.out hown3 (HBW.out _ (Below.refl _ _)) HLA.out hWc hg3 hat3 HC.out HBEL.out HSZ.out, less_succ HLT.out (Nat.le_trans HKL.out (by decide))⟩
          · have hz2 : (l.length : Int) ≤ z := by rcases hz with h | h; exact absurd h hz1; exact h
            clear hz
            go_wp2_with (at_builtin; refine wp_nodeapp 80 81 u10 (w1.heap.size + 1) rfl rfl rfl (HAW.out _ (by (repeat (first | exact Below.refl _ _ | with_reducible assumption | refine Below.drew ?_ | refine b_drewN ?_ _ | (refine Below.alloc ?_ (by simp) _) | (refine Below.alloc ?_ (by simp; omega) _))))) none _ _ rfl (by go_simp) rfl (fun k hk => ⟨by have := HSZ.out; (try simp at hk); omega, fun e => by have := (HLB.out k e.symm).2; (try simp at hk); omega⟩) (by have := HLT.out; have := HKL.out; simp; omega) (by have := HSZ.out; (try simp); omega) ?_; intro v3 w3 hown3 hg3 hat3; have hWc := keepB (B := wr.heap.size) (W := wr) hg3 (by (repeat (first | exact Below.refl _ _ | with_reducible assumption | refine Below.drew ?_ | refine b_drewN ?_ _ | (refine Below.alloc ?_ (by simp) _) | (refine Below.alloc ?_ (by simp; omega) _)))))
            exact ⟨bld_skip (by rw [HOL.out]; exact HLT.out) (int_succ HLT.out (Nat.le_trans HKL.out (by decide))) HTK.out rfl HYL.out hown3 (HBW.out _ (Below.refl _ _)) HLA.out hWc hg3 hat3 HC.out HBEL.out HSZ.out, less_succ HLT.out (Nat.le_trans HKL.out (by decide))⟩
        · have hz1 : ¬ z ≤ (i : Int) := fun h => hz (.inl h)
          have hz2 : ¬ (l.length : Int) ≤ z := fun h => hz (.inr h)
          obtain ⟨zn, rfl⟩ := Int.eq_ofNat_of_zero_le (show 0 ≤ z by omega)
          have hkn : kd = bf zn := by rw [HKD.out]; unfold kidO; rw [if_neg hz, Int.toNat_natCast]
          have CB := Lib.hid (HIH.out zn (by omega) (by omega) wr HBWW.out)
          rw [← hkn] at CB
          have HKN := Lib.hid hkn
          clear hkn hz
          go_wp2_with fail
          refine CB.out.mono ?_
          rintro e w2 ⟨r, rfl, ⟨nv, cs, rfl, hN, hX⟩, hb2⟩
          have hyx : ∃ yx, yx = Bw.absO kd := ⟨_, rfl⟩
          obtain ⟨yx, hyx⟩ := hyx
          rw [← hyx] at hX
          have hkind := absO_kind kd
          rw [← hyx] at hkind
          have HX := Lib.hid hX
          obtain ⟨yk, yh, yp, yset, yy⟩ := yx
          rw [xK_iff] at hX
          obtain ⟨yvp, yvs, yvk, rfl, q1, q2, q3⟩ := hX
          obtain ⟨Y1, r1, rfl⟩ := q1.form
          obtain ⟨Y2, r2, rfl⟩ := q2.form
          obtain ⟨Y3, r3, rfl⟩ := q3.form
          have HYX := Lib.hid hyx
          have HN := Lib.hid hN
          have HKI := Lib.hid hkind
          have HX2 := Lib.hid hb2
          clear hyx q1 q2 q3 hN hkind hb2
          obtain ⟨WY, hWY⟩ : ∃ WY, w2.alloc (.cells #[.int .i64 (yk : Nat), .int .u64 (yh : Nat), .slice Y1 yp.length r1, .slice Y2 yset.length r2, .slice Y3 yy.length r3] 32) = WY := ⟨_, rfl⟩
          have m0 : WY.cell? ⟨w2.heap.size, 0, none⟩ = some (.int .i64 (yk : Nat)) := by subst hWY; go_simp
          have m1 : WY.cell? ⟨w2.heap.size, 1, none⟩ = some (.int .u64 (yh : Nat)) := by subst hWY; go_simp
          have m2 : WY.cell? ⟨w2.heap.size, 2, none⟩ = some (.slice Y1 yp.length r1) := by subst hWY; go_simp
          have m3 : WY.cell? ⟨w2.heap.size, 3, none⟩ = some (.slice Y2 yset.length r2) := by subst hWY; go_simp
          have m4 : WY.cell? ⟨w2.heap.size, 4, none⟩ = some (.slice Y3 yy.length r3) := by subst hWY; go_simp
          have hwy2 : Below w2.heap.size w2 WY := by rw [← hWY]; (repeat (first | exact Below.refl _ _ | with_reducible assumption | refine Below.drew ?_ | refine b_drewN ?_ _ | (refine Below.alloc ?_ (by simp) _) | (refine Below.alloc ?_ (by simp; omega) _)))
          have hwys : w2.heap.size < WY.heap.size := by rw [← hWY]; simp
          have HWY := Lib.hid hWY
          clear hWY
          go_wp2_with fail
          rw [HWY.out]
          have hw2s := HX2.out.size
          have HW2Y := Lib.hid hwy2
          have HRY : Hid (Below wr.heap.size wr WY) := Lib.hid (HX2.out.trans (hwy2.mono hw2s))
          have hbx : w1.heap.size < w2.heap.size := Nat.lt_of_lt_of_le HSZ.out hw2s
          have HCY : Hid (Cells5 WY w1.heap.size (.int .i64 3) (.int .u64 0) (.slice none 0 0) (.slice M (Bw.bitsOf qs).length cm) vB) := Lib.hid (cells5_block (HRY.out.block _ HSZ.out) HC.out)
          have x4 := HCY.out.1.2.2.2.2
          have hbxy : w1.heap.size < WY.heap.size := Nat.lt_trans hbx hwys
          have hne1 : ¬ (w1.heap.size = w2.heap.size) := by omega
          have hne2 : ¬ (w2.heap.size = w1.heap.size) := by omega
          clear hwy2
          cases kd with
          | none =>
            have h9 := HN.out
            simp only [ONodeAt] at h9
            subst h9
            have hyk : yk = 0 := HKI.out.2 rfl
            have hyb : ((yk : Int) != 0) = false := by rw [hyk]; rfl
            clear hyk
            have hS := (⟨m0, m1, m2, m3, m4⟩ : S5 w2.heap.size (.int .i64 (yk : Nat)) (.int .u64 (yh : Nat)) (.slice Y1 yp.length r1) (.slice Y2 yset.length r2) (.slice Y3 yy.length r3) WY)
            have HSY := Lib.hid hS
            have HAY := Lib.hid (fun W (hW : Below WY.heap.size WY W) => HAW.out W (HRY.out.trans (hW.mono HRY.out.size)))
            have HBY := Lib.hid (fun W (hW : Below WY.heap.size WY W) => HBW.out W (HRY.out.trans (hW.mono HRY.out.size)))
            have HNY := Lib.hid (fun W (hW : Below WY.heap.size WY W) => node_at (vA := u10) (vB := vB) (base := w1.heap.size + 1) HN.out (fun k hk => (HLA.out k hk).2) (fun k hk => (HLB.out k hk).2) HSZ.out (HW2Y.out.trans (hW.mono HW2Y.out.size)))
            have HKY : Hid (∀ W, Below WY.heap.size WY W → (∀ k, W.heap.size ≤ k → w1.heap.size + 1 ≤ k ∧ some k ≠ vB.ownBlock) ∧ w1.heap.size + 1 ≤ W.heap.size) := Lib.hid fun W hW => by
              have h8 := hW.size; have h9 := HRY.out.size; have h7 := HSZ.out
              exact ⟨fun k hk => ⟨by omega, fun e => by have := (HLB.out k e.symm).2; omega⟩, by omega⟩
            have HLEN : Hid ((os.take j).length ≤ 4194304 ∧ ys.length ≤ 1048576) := Lib.hid ⟨by have := HLT.out; have := HKL.out; simp; omega, by have := HYL.out; have := HLT.out; have := HKL.out; omega⟩
            have HBLY : Hid (Below w1.heap.size w1 WY) := Lib.hid (HBEL.out.trans (HRY.out.mono HBEL.out.size))
            clear z1
            go_region_law
              ((first
                | ((refine st_nodeapp 89 91 u10 (w1.heap.size + 1) rfl rfl rfl (HAY.out _ (by (repeat (first | exact Below.refl _ _ | with_reducible assumption | refine Below.drew ?_ | refine b_drewN ?_ _ | (refine Below.alloc ?_ (by simp) _) | (refine Below.alloc ?_ (by simp; omega) _))))) _ _ _ rfl (by go_simp) (HNY.out _ (by (repeat (first | exact Below.refl _ _ | with_reducible assumption | refine Below.drew ?_ | refine b_drewN ?_ _ | (refine Below.alloc ?_ (by simp) _) | (refine Below.alloc ?_ (by simp; omega) _))))) (HKY.out _ (by (repeat (first | exact Below.refl _ _ | with_reducible assumption | refine Below.drew ?_ | refine b_drewN ?_ _ | (refine Below.alloc ?_ (by simp) _) | (refine Below.alloc ?_ (by simp; omega) _))))).1 HLEN.out.1 (HKY.out _ (by (repeat (first | exact Below.refl _ _ | with_reducible assumption | refine Below.drew ?_ | refine b_drewN ?_ _ | (refine Below.alloc ?_ (by simp) _) | (refine Below.alloc ?_ (by simp; omega) _))))).2 ?_; intro v3 w3 hown3 hg3 hat3; have hWc := keepB (B := WY.heap.size) (W := WY) hg3 (by (repeat (first | exact Below.refl _ _ | with_reducible assumption | refine Below.drew ?_ | refine b_drewN ?_ _ | (refine Below.alloc ?_ (by simp) _) | (refine Below.alloc ?_ (by simp; omega) _)))); obtain ⟨hS3, hC3, hBL3, hs3⟩ := grown_at hWc hg3 HLA.out (Nat.lt_succ_self _) hw2s hwys HSY.out HCY.out HSZ.out HBLY.out; have x4 := hC3.1.2.2.2.2; have hys3 : w2.heap.size < w3.heap.size := Nat.lt_of_lt_of_le hwys hs3; have hbx3 : w1.heap.size < w3.heap.size := Nat.lt_trans hbx hys3; have HB3 := Lib.hid (row_aside goodX (HBY.out _ hWc) hg3 hat3); have HXA := Lib.hid (fun W => x_after (W := W) (vB := vB) HX.out (fun k hk => (HLA.out k hk).2) (fun k hk => (HLB.out k hk).2) HSZ.out (HW2Y.out.trans (hWc.mono HW2Y.out.size)) hg3 hat3); have HC3 := Lib.hid hC3; have HBL3 := Lib.hid hBL3; have HO3 := Lib.hid hown3; have HS3 := Lib.hid hS3; obtain ⟨n0, n1, n2, n3, n4⟩ := hS3; clear hown3 hC3 hBL3))
                | ((refine st_xapp 94 96 vB (w1.heap.size + 1) rfl rfl rfl (HB3.out.move goodX (Moves.below (by (repeat (first | exact Below.refl _ _ | with_reducible assumption | refine Below.drew ?_ | refine b_drewN ?_ _ | (refine Below.alloc ?_ (by simp) _) | (refine Below.alloc ?_ (by simp; omega) _)))))) (.mk yk yh yp yset yy) _ _ _ _ _ _ rfl (by first | (go_simp; done) | exact ⟨hg3.cell (by go_simp) (fun e => by have h1 := (HLA.out _ e.symm).2; have h2 := HRY.out.size; (try dsimp only at h1); omega), hg3.cell (by go_simp) (fun e => by have h1 := (HLA.out _ e.symm).2; have h2 := HRY.out.size; (try dsimp only at h1); omega), hg3.cell (by go_simp) (fun e => by have h1 := (HLA.out _ e.symm).2; have h2 := HRY.out.size; (try dsimp only at h1); omega), hg3.cell (by go_simp) (fun e => by have h1 := (HLA.out _ e.symm).2; have h2 := HRY.out.size; (try dsimp only at h1); omega), hg3.cell (by go_simp) (fun e => by have h1 := (HLA.out _ e.symm).2; have h2 := HRY.out.size; (try dsimp only at h1); omega)⟩) (HXA.out _ (by (repeat (first | exact Below.refl _ _ | with_reducible assumption | refine Below.drew ?_ | refine b_drewN ?_ _ | (refine Below.alloc ?_ (by simp) _) | (refine Below.alloc ?_ (by simp; omega) _))))) (fun k hk => ⟨by (try simp at hk); omega, fun e => by have := (HO3.out.lt _ e.symm).2; (try simp at hk); omega⟩) HLEN.out.2 (by (try simp); omega) ?_; intro v4 w4 hown4 hg4 hat4; have hf4 : ∃ A c, v4 = .slice A (ys.length + 1) c := (by obtain ⟨A, c, h⟩ := (hown4.row goodX).form; exact ⟨A, c, by rw [h, List.length_append]; rfl⟩); obtain ⟨A4, c4, rfl⟩ := hf4; have hWc4 := keepB (B := w3.heap.size) (W := w3) hg4 (by (repeat (first | exact Below.refl _ _ | with_reducible assumption | refine Below.drew ?_ | refine b_drewN ?_ _ | (refine Below.alloc ?_ (by simp) _) | (refine Below.alloc ?_ (by simp; omega) _)))); obtain ⟨hS4, hC4, hBL4, hs4⟩ := grown_at hWc4 hg4 HLB.out (Nat.lt_succ_self _) hw2s hys3 HS3.out HC3.out HSZ.out HBL3.out; have x4 := hC4.1.2.2.2.2; have k4 := hC4.2.2.2.2.2; have hys4 : w2.heap.size < w4.heap.size := Nat.lt_of_lt_of_le hys3 hs4; have hbx4 : w1.heap.size < w4.heap.size := Nat.lt_trans hbx hys4; have HA4 := Lib.hid (row_aside (goodNode nt) (HO3.out.move (goodNode nt) (Moves.below hWc4)) hg4 hat4); have HC4 := Lib.hid hC4; have HBL4 := Lib.hid hBL4; have HO4 := Lib.hid hown4; have HS4 := Lib.hid hS4; clear hown4 hC4 hBL4 hS4))))
            all_goals obtain ⟨WF, hWF⟩ : ∃ WF, w4.setCell ⟨w1.heap.size, 4, none⟩ (.slice A4 (ys.length + 1) c4) = WF := ⟨_, rfl⟩
            all_goals have m0 : WF.cell? ⟨w2.heap.size, 0, none⟩ = some (.int .i64 (yk : Nat)) := (by subst hWF; exact (S5.set hne2 HS4.out).1)
            all_goals have hsF : w2.heap.size < WF.heap.size := (by subst hWF; simpa [World.setCell] using hys4)
            all_goals rw [hWF]
            all_goals have HWF := Lib.hid hWF
            all_goals clear hWF x4 k4
            all_goals cases hfl : (wh && (os.take j).all Option.isSome)
            all_goals go_wp2
            all_goals rw [← HWF.out]
            all_goals exact ⟨bld_close (by rw [HOL.out]; exact HLT.out) (int_succ HLT.out (Nat.le_trans HKL.out (by decide))) HTK.out (by rw [hfl]; rfl) HYX.out HYW.out HYL.out HA4.out HO4.out HC4.out HBL4.out (by omega), less_succ HLT.out (Nat.le_trans HKL.out (by decide))⟩
          | some n =>
            have h9 := HN.out
            simp only [ONodeAt] at h9
            obtain ⟨t0, b0, rfl⟩ := h9.form
            have hyk : yk ≠ 0 := fun e => by have := HKI.out.1 e; cases this
            have hyb : ((yk : Int) != 0) = true := by rw [bne_iff_ne]; omega
            clear hyk h9
            have hS := (⟨m0, m1, m2, m3, m4⟩ : S5 w2.heap.size (.int .i64 (yk : Nat)) (.int .u64 (yh : Nat)) (.slice Y1 yp.length r1) (.slice Y2 yset.length r2) (.slice Y3 yy.length r3) WY)
            have HSY := Lib.hid hS
            have HAY := Lib.hid (fun W (hW : Below WY.heap.size WY W) => HAW.out W (HRY.out.trans (hW.mono HRY.out.size)))
            have HBY := Lib.hid (fun W (hW : Below WY.heap.size WY W) => HBW.out W (HRY.out.trans (hW.mono HRY.out.size)))
            have HNY := Lib.hid (fun W (hW : Below WY.heap.size WY W) => node_at (vA := u10) (vB := vB) (base := w1.heap.size + 1) HN.out (fun k hk => (HLA.out k hk).2) (fun k hk => (HLB.out k hk).2) HSZ.out (HW2Y.out.trans (hW.mono HW2Y.out.size)))
            have HKY : Hid (∀ W, Below WY.heap.size WY W → (∀ k, W.heap.size ≤ k → w1.heap.size + 1 ≤ k ∧ some k ≠ vB.ownBlock) ∧ w1.heap.size + 1 ≤ W.heap.size) := Lib.hid fun W hW => by
              have h8 := hW.size; have h9 := HRY.out.size; have h7 := HSZ.out
              exact ⟨fun k hk => ⟨by omega, fun e => by have := (HLB.out k e.symm).2; omega⟩, by omega⟩
            have HLEN : Hid ((os.take j).length ≤ 4194304 ∧ ys.length ≤ 1048576) := Lib.hid ⟨by have := HLT.out; have := HKL.out; simp; omega, by have := HYL.out; have := HLT.out; have := HKL.out; omega⟩
            have HBLY : Hid (Below w1.heap.size w1 WY) := Lib.hid (HBEL.out.trans (HRY.out.mono HBEL.out.size))
            clear z1
            go_region_law
              ((first
                | ((refine st_nodeapp 89 91 u10 (w1.heap.size + 1) rfl rfl rfl (HAY.out _ (by (repeat (first | exact Below.refl _ _ | with_reducible assumption | refine Below.drew ?_ | refine b_drewN ?_ _ | (refine Below.alloc ?_ (by simp) _) | (refine Below.alloc ?_ (by simp; omega) _))))) _ _ _ rfl (by go_simp) (HNY.out _ (by (repeat (first | exact Below.refl _ _ | with_reducible assumption | refine Below.drew ?_ | refine b_drewN ?_ _ | (refine Below.alloc ?_ (by simp) _) | (refine Below.alloc ?_ (by simp; omega) _))))) (HKY.out _ (by (repeat (first | exact Below.refl _ _ | with_reducible assumption | refine Below.drew ?_ | refine b_drewN ?_ _ | (refine Below.alloc ?_ (by simp) _) | (refine Below.alloc ?_ (by simp; omega) _))))).1 HLEN.out.1 (HKY.out _ (by (repeat (first | exact Below.refl _ _ | with_reducible assumption | refine Below.drew ?_ | refine b_drewN ?_ _ | (refine Below.alloc ?_ (by simp) _) | (refine Below.alloc ?_ (by simp; omega) _))))).2 ?_; intro v3 w3 hown3 hg3 hat3; have hWc := keepB (B := WY.heap.size) (W := WY) hg3 (by (repeat (first | exact Below.refl _ _ | with_reducible assumption | refine Below.drew ?_ | refine b_drewN ?_ _ | (refine Below.alloc ?_ (by simp) _) | (refine Below.alloc ?_ (by simp; omega) _)))); obtain ⟨hS3, hC3, hBL3, hs3⟩ := grown_at hWc hg3 HLA.out (Nat.lt_succ_self _) hw2s hwys HSY.out HCY.out HSZ.out HBLY.out; have x4 := hC3.1.2.2.2.2; have hys3 : w2.heap.size < w3.heap.size := Nat.lt_of_lt_of_le hwys hs3; have hbx3 : w1.heap.size < w3.heap.size := Nat.lt_trans hbx hys3; have HB3 := Lib.hid (row_aside goodX (HBY.out _ hWc) hg3 hat3); have HXA := Lib.hid (fun W => x_after (W := W) (vB := vB) HX.out (fun k hk => (HLA.out k hk).2) (fun k hk => (HLB.out k hk).2) HSZ.out (HW2Y.out.trans (hWc.mono HW2Y.out.size)) hg3 hat3); have HC3 := Lib.hid hC3; have HBL3 := Lib.hid hBL3; have HO3 := Lib.hid hown3; have HS3 := Lib.hid hS3; obtain ⟨n0, n1, n2, n3, n4⟩ := hS3; clear hown3 hC3 hBL3))
                | ((refine st_xapp 94 96 vB (w1.heap.size + 1) rfl rfl rfl (HB3.out.move goodX (Moves.below (by (repeat (first | exact Below.refl _ _ | with_reducible assumption | refine Below.drew ?_ | refine b_drewN ?_ _ | (refine Below.alloc ?_ (by simp) _) | (refine Below.alloc ?_ (by simp; omega) _)))))) (.mk yk yh yp yset yy) _ _ _ _ _ _ rfl (by first | (go_simp; done) | exact ⟨hg3.cell (by go_simp) (fun e => by have h1 := (HLA.out _ e.symm).2; have h2 := HRY.out.size; (try dsimp only at h1); omega), hg3.cell (by go_simp) (fun e => by have h1 := (HLA.out _ e.symm).2; have h2 := HRY.out.size; (try dsimp only at h1); omega), hg3.cell (by go_simp) (fun e => by have h1 := (HLA.out _ e.symm).2; have h2 := HRY.out.size; (try dsimp only at h1); omega), hg3.cell (by go_simp) (fun e => by have h1 := (HLA.out _ e.symm).2; have h2 := HRY.out.size; (try dsimp only at h1); omega), hg3.cell (by go_simp) (fun e => by have h1 := (HLA.out _ e.symm).2; have h2 := HRY.out.size; (try dsimp only at h1); omega)⟩) (HXA.out _ (by (repeat (first | exact Below.refl _ _ | with_reducible assumption | refine Below.drew ?_ | refine b_drewN ?_ _ | (refine Below.alloc ?_ (by simp) _) | (refine Below.alloc ?_ (by simp; omega) _))))) (fun k hk => ⟨by (try simp at hk); omega, fun e => by have := (HO3.out.lt _ e.symm).2; (try simp at hk); omega⟩) HLEN.out.2 (by (try simp); omega) ?_; intro v4 w4 hown4 hg4 hat4; have hf4 : ∃ A c, v4 = .slice A (ys.length + 1) c := (by obtain ⟨A, c, h⟩ := (hown4.row goodX).form; exact ⟨A, c, by rw [h, List.length_append]; rfl⟩); obtain ⟨A4, c4, rfl⟩ := hf4; have hWc4 := keepB (B := w3.heap.size) (W := w3) hg4 (by (repeat (first | exact Below.refl _ _ | with_reducible assumption | refine Below.drew ?_ | refine b_drewN ?_ _ | (refine Below.alloc ?_ (by simp) _) | (refine Below.alloc ?_ (by simp; omega) _)))); obtain ⟨hS4, hC4, hBL4, hs4⟩ := grown_at hWc4 hg4 HLB.out (Nat.lt_succ_self _) hw2s hys3 HS3.out HC3.out HSZ.out HBL3.out; have x4 := hC4.1.2.2.2.2; have k4 := hC4.2.2.2.2.2; have hys4 : w2.heap.size < w4.heap.size := Nat.lt_of_lt_of_le hys3 hs4; have hbx4 : w1.heap.size < w4.heap.size := Nat.lt_trans hbx hys4; have HA4 := Lib.hid (row_aside (goodNode nt) (HO3.out.move (goodNode nt) (Moves.below hWc4)) hg4 hat4); have HC4 := Lib.hid hC4; have HBL4 := Lib.hid hBL4; have HO4 := Lib.hid hown4; have HS4 := Lib.hid hS4; clear hown4 hC4 hBL4 hS4))))
            all_goals obtain ⟨WF, hWF⟩ : ∃ WF, w4.setCell ⟨w1.heap.size, 4, none⟩ (.slice A4 (ys.length + 1) c4) = WF := ⟨_, rfl⟩
            all_goals have m0 : WF.cell? ⟨w2.heap.size, 0, none⟩ = some (.int .i64 (yk : Nat)) := (by subst hWF; exact (S5.set hne2 HS4.out).1)
            all_goals have hsF : w2.heap.size < WF.heap.size := (by subst hWF; simpa [World.setCell] using hys4)
            all_goals rw [hWF]
            all_goals have HWF := Lib.hid hWF
            all_goals clear hWF x4 k4
            all_goals cases hfl : (wh && (os.take j).all Option.isSome)
            all_goals go_wp2
            all_goals rw [← HWF.out]
            all_goals exact ⟨bld_close (by rw [HOL.out]; exact HLT.out) (int_succ HLT.out (Nat.le_trans HKL.out (by decide))) HTK.out (by rw [hfl]; rfl) HYX.out HYW.out HYL.out HA4.out HO4.out HC4.out HBL4.out (by omega), less_succ HLT.out (Nat.le_trans HKL.out (by decide))⟩
      · have hjl : j = qk.length := by omega
        have hjo : os.take j = os := by rw [hjl, ← HOL.out, List.take_length]
        rw [hjo] at hyw hA ⊢
        obtain ⟨B4, cb4, rfl⟩ := (hB.row goodX).form
        have hAr := hA.row (goodNode nt)
        obtain ⟨A9, c9, rfl⟩ := hAr.form
        have HAR := Lib.hid hAr
        have HBR := Lib.hid (hB.row goodX)
        have HC := Lib.hid hC
        have HYW := Lib.hid hyw
        have HBEL := Lib.hid hBel
        have HSZ := Lib.hid hsz2
        have f3 := (hBel.cell (p := ⟨w.heap.size + 1, 3, none⟩) (by simp; omega)).trans HF.out.1
        have gb := (hBel.block _ (by omega)).trans HF.out.2
        have hw1s : w.heap.size + 1 < wr.heap.size := by omega
        clear hAr hA hB hC hyw hBel hsz2 hlt
        have HOL32 : Hid (os.length ≤ 32) := Lib.hid (by have := HKL.out; have := HOL.out; omega)
        have HCNT : Hid (countOs os ≤ 4611686018427387904) := Lib.hid (by have := HCN.out; rw [← HOS.out] at this; exact this)
        have HBWR : Hid (Below w.heap.size w wr) := Lib.hid (HB1.out.trans (HBEL.out.mono HB1.out.size))
        cases hfl : (wh && os.all Option.isSome) with
        | true =>
          obtain ⟨K, hK⟩ : ∃ K : Int, K = 3 := ⟨_, rfl⟩
          obtain ⟨H, hH⟩ : ∃ H : Int, H = 0 := ⟨_, rfl⟩
          obtain ⟨P3, hP3⟩ : ∃ P3, P3 = M := ⟨_, rfl⟩
          obtain ⟨n3, hn3⟩ : ∃ n3, n3 = (Bw.bitsOf qs).length := ⟨_, rfl⟩
          obtain ⟨e3, he3⟩ : ∃ e3, e3 = cm := ⟨_, rfl⟩
          obtain ⟨P4, hP4⟩ : ∃ P4, P4 = B4 := ⟨_, rfl⟩
          obtain ⟨n4, hn4⟩ : ∃ n4, n4 = ys.length := ⟨_, rfl⟩
          obtain ⟨e4, he4⟩ : ∃ e4, e4 = cb4 := ⟨_, rfl⟩
          have hS : S5 w1.heap.size (.int .i64 K) (.int .u64 H) (.slice none 0 0) (.slice P3 n3 e3) (.slice P4 n4 e4) wr := by
            subst hK hH hP3 hn3 he3 hP4 hn4 he4
            exact ⟨HC.out.1.1, HC.out.1.2.1, HC.out.1.2.2.1, HC.out.1.2.2.2.1, HC.out.1.2.2.2.2⟩
          have HNS : Hid (NodesAt nt (fun k => w.heap.size < k) wr (.slice A9 os.length c9) os) := Lib.hid (HAR.out.weaken (goodNode nt) (fun k hk => by have := hk.1; have := HB1.out.size; omega))
          have hbo := branchO_all (m := qs) (os := os) (by have := HOL.out; have := HK0.out; omega) (by have h := hfl; rw [Bool.and_eq_true] at h; have h1 := h.1; rw [HWH.out, decide_eq_true_iff] at h1; rw [HOL.out]; exact h1) (by have h := hfl; rw [Bool.and_eq_true] at h; exact h.2)
          have hys := HYW.out hfl
          have HXK : Hid (∀ W, Below wr.heap.size wr W → xK (fun k => w.heap.size < k) W (Bw.absO (Bw.branchO qs os)) [.int .i64 K, .int .u64 H, .slice none 0 0, .slice P3 n3 e3, .slice P4 n4 e4]) := Lib.hid fun W hW => by
            subst hK hH hP3 hn3 he3 hP4 hn4 he4
            rw [hbo]
            refine xK_iff.2 ⟨_, _, _, rfl, RowAt.nil, HQ1.out.move goodNat ?_, ?_⟩
            · intro k hk hl
              have := hlt1
              exact ⟨by have := HB2.out.size; omega, ((HBEL.out.trans (hW.mono HBEL.out.size)).block k hl)⟩
            · rw [← hys]
              exact HBR.out.move goodX (fun k hk hl => ⟨by have := hk.1; have := HB1.out.size; omega, hW.block k hl⟩)
          clear hK hH hP3 hn3 he3 hP4 hn4 he4 hbo hys
          go_wp2_with fail
          clear hfl
          have HBW3 := HBWR
          have hsz3 : w1.heap.size + 1 ≤ wr.heap.size := HSZ.out
          have hs1 : w.heap.size < wr.heap.size := by omega
          have hs2 : w.heap.size + 1 < wr.heap.size := by omega
          have hbx3 : w1.heap.size < wr.heap.size := by omega
          have hnn1 : ¬ (w1.heap.size = w.heap.size) := by omega
          have hnn2 : ¬ (w.heap.size = w1.heap.size) := by omega
          have HYS : Hid (∀ W, Below wr.heap.size wr W → S5 w1.heap.size (.int .i64 K) (.int .u64 H) (.slice none 0 0) (.slice P3 n3 e3) (.slice P4 n4 e4) W ∧ W.cell? ⟨w.heap.size + 1, 3, none⟩ = some (.int .u32 (qs : Nat))) := Lib.hid fun W hW => ⟨S5.block (hW.block _ hbx3) hS, (hW.cell (p := ⟨w.heap.size + 1, 3, none⟩) hs2).trans f3⟩
          have hS3 := HYS.out wr (Below.refl _ _)
          have hS3d := HYS.out wr.drew (by (repeat (first | exact Below.refl _ _ | with_reducible assumption | refine Below.drew ?_ | refine b_drewN ?_ _ | (refine Below.alloc ?_ (by simp) _) | (refine Below.alloc ?_ (by simp; omega) _))))
          have HGB : Hid (∀ W, Below wr.heap.size wr W → (W.cell? ⟨w.heap.size, 0, none⟩ = some (.int .i64 0) ∧ W.cell? ⟨w.heap.size, 1, none⟩ = some (.int .u64 0) ∧ W.cell? ⟨w.heap.size, 2, none⟩ = some (.slice none 0 0) ∧ W.cell? ⟨w.heap.size, 3, none⟩ = some (.slice none 0 0) ∧ W.cell? ⟨w.heap.size, 4, none⟩ = some (.slice none 0 0)) ∧
              (W.frozen? ⟨w.heap.size, 0, none⟩ = false ∧ W.frozen? ⟨w.heap.size, 1, none⟩ = false ∧ W.frozen? ⟨w.heap.size, 2, none⟩ = false ∧ W.frozen? ⟨w.heap.size, 3, none⟩ = false ∧ W.frozen? ⟨w.heap.size, 4, none⟩ = false)) := Lib.hid fun W hW => five_cells ((hW.block _ hs1).trans gb)
          have CBR := Lib.hid (fun W (hW : Below wr.heap.size wr W) => branch_any (m := qs) (ok := fun k => w.heap.size < k) W (HNS.out.move (goodNode nt) (Moves.below hW)) HOL32.out hset (fun k hk => by have := hW.size; omega) HCNT.out)
          clear hS f3 gb
          go_region_held3 (fun w' => S5 w1.heap.size (.int .i64 K) (.int .u64 H) (.slice none 0 0) (.slice P3 n3 e3) (.slice P4 n4 e4) w' ∧ w'.cell? ⟨w.heap.size + 1, 3, none⟩ = some (.int .u32 (qs : Nat)))
            (first | with_reducible exact hS6 | with_reducible exact hS3d | with_reducible exact hS3 | (obtain ⟨⟨y0, y1, y2, y3, y4⟩, f1'⟩ := hS6; refine ⟨⟨?_, ?_, ?_, ?_, ?_⟩, ?_⟩ <;> go_simp))
            ((first
              | (go_at_call 24; (with_reducible refine (CBR.out _ (by (repeat (first | exact Below.refl _ _ | with_reducible assumption | refine Below.drew ?_ | refine b_drewN ?_ _ | (refine Below.alloc ?_ (by simp) _) | (refine Below.alloc ?_ (by simp; omega) _))))).mono ?_); rintro e w6 ⟨q6, rfl, hq6, hb6⟩; have hw6 : Below wr.heap.size wr w6 := Below.trans (by (repeat (first | exact Below.refl _ _ | with_reducible assumption | refine Below.drew ?_ | refine b_drewN ?_ _ | (refine Below.alloc ?_ (by simp) _) | (refine Below.alloc ?_ (by simp; omega) _)))) (hb6.mono (by simp)); have hS6 := HYS.out w6 hw6; obtain ⟨⟨g0, g1, g2, g3, g4⟩, k0, k1, k2, k3, k4⟩ := HGB.out w6 hw6; have hz6 : w1.heap.size < w6.heap.size := Nat.lt_of_lt_of_le hbx3 hw6.size; have HQ6 := Lib.hid hq6; clear hq6)))
          all_goals go_wp2
          all_goals refine bodyPost_ret (v := .tuple #[q6, .agg #[.int .i64 K, .int .u64 H, .slice none 0 0, .slice P3 n3 e3, .slice P4 n4 e4]]) (by simp [results, Try.results8, go_sem, g0, g1, g2, g3, g4]) rfl ⟨_, rfl, ⟨q6, [.int .i64 K, .int .u64 H, .slice none 0 0, .slice P3 n3 e3, .slice P4 n4 e4], rfl, ?_, ?_⟩, ?_⟩
          · rw [← HOS.out]; exact HQ6.out.move (moves_set5 _ _ _ _ _)
          · rw [← HOS.out]; exact XAt.move (moves_set5 _ _ _ _ _) _ _ (HXK.out _ hw6)
          · exact below_set5 (HBW3.out.trans (hw6.mono HBW3.out.size)) _ _ _ _ _
        | false =>
          obtain ⟨⟨x0, x1, x2, x3, x4⟩, k0, k1, k2, k3, k4⟩ := HC.out
          have hbo := branchO_not (m := qs) (os := os) (by
            have h := hfl
            rw [Bool.and_eq_false_iff] at h
            rcases h with h | h
            · rw [HWH.out, decide_eq_false_iff_not] at h; left; rw [HOL.out]; exact h
            · right; exact h)
          go_wp2_with fail
          clear hfl
          obtain ⟨W3, hW3⟩ : ∃ W3, (((((wr.setCell ⟨w1.heap.size, 0, none⟩ (.int .i64 0)).setCell ⟨w1.heap.size, 1, none⟩ (.int .u64 0)).setCell ⟨w1.heap.size, 2, none⟩ (.slice none 0 0)).setCell ⟨w1.heap.size, 3, none⟩ (.slice none 0 0)).setCell ⟨w1.heap.size, 4, none⟩ (.slice none 0 0)) = W3 := ⟨_, rfl⟩
          obtain ⟨K, hK⟩ : ∃ K : Int, K = 0 := ⟨_, rfl⟩
          obtain ⟨H, hH⟩ : ∃ H : Int, H = 0 := ⟨_, rfl⟩
          obtain ⟨P3, hP3⟩ : ∃ P3 : Option Addr, P3 = none := ⟨_, rfl⟩
          obtain ⟨n3, hn3⟩ : ∃ n3 : Nat, n3 = 0 := ⟨_, rfl⟩
          obtain ⟨e3, he3⟩ : ∃ e3 : Nat, e3 = 0 := ⟨_, rfl⟩
          obtain ⟨P4, hP4⟩ : ∃ P4 : Option Addr, P4 = none := ⟨_, rfl⟩
          obtain ⟨n4, hn4⟩ : ∃ n4 : Nat, n4 = 0 := ⟨_, rfl⟩
          obtain ⟨e4, he4⟩ : ∃ e4 : Nat, e4 = 0 := ⟨_, rfl⟩
          have hS : S5 w1.heap.size (.int .i64 K) (.int .u64 H) (.slice none 0 0) (.slice P3 n3 e3) (.slice P4 n4 e4) W3 := by
            subst hK hH hP3 hn3 he3 hP4 hn4 he4 hW3
            refine ⟨?_, ?_, ?_, ?_, ?_⟩ <;> go_simp
          have hblk : ∀ k, k ≠ w1.heap.size → W3.heap[k]? = wr.heap[k]? := fun k hk => by
            subst hW3
            rw [Below.heap_setCell _ _ _ _ hk, Below.heap_setCell _ _ _ _ hk, Below.heap_setCell _ _ _ _ hk, Below.heap_setCell _ _ _ _ hk, Below.heap_setCell _ _ _ _ hk]
          have hsz3 : w1.heap.size + 1 ≤ W3.heap.size := by subst hW3; simpa [World.setCell] using HSZ.out
          have HNS := Lib.hid (RowAt.move (ok' := fun k => w.heap.size < k) (w' := W3) (goodNode nt) (fun k hk hl => ⟨by have := hk.1; have := HB1.out.size; omega, hblk k (by have := hk.1; omega)⟩) HAR.out)
          have f3' : W3.cell? ⟨w.heap.size + 1, 3, none⟩ = some (.int .u32 (qs : Nat)) := (World.cell?_of_block (w := wr) (hblk _ (by show w.heap.size + 1 ≠ _; omega))).trans f3
          have gb' := (hblk w.heap.size (by omega)).trans gb
          have HBW3 : Hid (Below w.heap.size w W3) := Lib.hid (by
            have h5 := (((((HBWR.out.setCell (p := ⟨w1.heap.size, 0, none⟩) HB1.out.size (.int .i64 0)).setCell (p := ⟨w1.heap.size, 1, none⟩) HB1.out.size (.int .u64 0)).setCell (p := ⟨w1.heap.size, 2, none⟩) HB1.out.size (.slice none 0 0)).setCell (p := ⟨w1.heap.size, 3, none⟩) HB1.out.size (.slice none 0 0)).setCell (p := ⟨w1.heap.size, 4, none⟩) HB1.out.size (.slice none 0 0))
            rw [hW3] at h5
            exact h5)
          have HXK : Hid (∀ W, Below W3.heap.size W3 W → xK (fun k => w.heap.size < k) W (Bw.absO (Bw.branchO qs os)) [.int .i64 K, .int .u64 H, .slice none 0 0, .slice P3 n3 e3, .slice P4 n4 e4]) := Lib.hid fun W hW => by
            subst hK hH hP3 hn3 he3 hP4 hn4 he4
            rw [hbo]
            exact xK_zero
          rw [hW3]
          clear hK hH hP3 hn3 he3 hP4 hn4 he4 hbo hW3 hblk f3 gb x0 x1 x2 x3 x4 k0 k1 k2 k3 k4
          have f3 := f3'
          have gb := gb'
          clear f3' gb'
          have hs1 : w.heap.size < W3.heap.size := by omega
          have hs2 : w.heap.size + 1 < W3.heap.size := by omega
          have hbx3 : w1.heap.size < W3.heap.size := by omega
          have hnn1 : ¬ (w1.heap.size = w.heap.size) := by omega
          have hnn2 : ¬ (w.heap.size = w1.heap.size) := by omega
          have HYS : Hid (∀ W, Below W3.heap.size W3 W → S5 w1.heap.size (.int .i64 K) (.int .u64 H) (.slice none 0 0) (.slice P3 n3 e3) (.slice P4 n4 e4) W ∧ W.cell? ⟨w.heap.size + 1, 3, none⟩ = some (.int .u32 (qs : Nat))) := Lib.hid fun W hW => ⟨S5.block (hW.block _ hbx3) hS, (hW.cell (p := ⟨w.heap.size + 1, 3, none⟩) hs2).trans f3⟩
          have hS3 := HYS.out W3 (Below.refl _ _)
          have hS3d := HYS.out W3.drew (by (repeat (first | exact Below.refl _ _ | with_reducible assumption | refine Below.drew ?_ | refine b_drewN ?_ _ | (refine Below.alloc ?_ (by simp) _) | (refine Below.alloc ?_ (by simp; omega) _))))
          have HGB : Hid (∀ W, Below W3.heap.size W3 W → (W.cell? ⟨w.heap.size, 0, none⟩ = some (.int .i64 0) ∧ W.cell? ⟨w.heap.size, 1, none⟩ = some (.int .u64 0) ∧ W.cell? ⟨w.heap.size, 2, none⟩ = some (.slice none 0 0) ∧ W.cell? ⟨w.heap.size, 3, none⟩ = some (.slice none 0 0) ∧ W.cell? ⟨w.heap.size, 4, none⟩ = some (.slice none 0 0)) ∧
              (W.frozen? ⟨w.heap.size, 0, none⟩ = false ∧ W.frozen? ⟨w.heap.size, 1, none⟩ = false ∧ W.frozen? ⟨w.heap.size, 2, none⟩ = false ∧ W.frozen? ⟨w.heap.size, 3, none⟩ = false ∧ W.frozen? ⟨w.heap.size, 4, none⟩ = false)) := Lib.hid fun W hW => five_cells ((hW.block _ hs1).trans gb)
          have CBR := Lib.hid (fun W (hW : Below W3.heap.size W3 W) => branch_any (m := qs) (ok := fun k => w.heap.size < k) W (HNS.out.move (goodNode nt) (Moves.below hW)) HOL32.out hset (fun k hk => by have := hW.size; omega) HCNT.out)
          clear hS f3 gb
          go_region_held3 (fun w' => S5 w1.heap.size (.int .i64 K) (.int .u64 H) (.slice none 0 0) (.slice P3 n3 e3) (.slice P4 n4 e4) w' ∧ w'.cell? ⟨w.heap.size + 1, 3, none⟩ = some (.int .u32 (qs : Nat)))
            (first | with_reducible exact hS6 | with_reducible exact hS3d | with_reducible exact hS3 | (obtain ⟨⟨y0, y1, y2, y3, y4⟩, f1'⟩ := hS6; refine ⟨⟨?_, ?_, ?_, ?_, ?_⟩, ?_⟩ <;> go_simp))
            ((first
              | (go_at_call 24; (with_reducible refine (CBR.out _ (by (repeat (first | exact Below.refl _ _ | with_reducible assumption | refine Below.drew ?_ | refine b_drewN ?_ _ | (refine Below.alloc ?_ (by simp) _) | (refine Below.alloc ?_ (by simp; omega) _))))).mono ?_); rintro e w6 ⟨q6, rfl, hq6, hb6⟩; have hw6 : Below W3.heap.size W3 w6 := Below.trans (by (repeat (first | exact Below.refl _ _ | with_reducible assumption | refine Below.drew ?_ | refine b_drewN ?_ _ | (refine Below.alloc ?_ (by simp) _) | (refine Below.alloc ?_ (by simp; omega) _)))) (hb6.mono (by simp)); have hS6 := HYS.out w6 hw6; obtain ⟨⟨g0, g1, g2, g3, g4⟩, k0, k1, k2, k3, k4⟩ := HGB.out w6 hw6; have hz6 : w1.heap.size < w6.heap.size := Nat.lt_of_lt_of_le hbx3 hw6.size; have HQ6 := Lib.hid hq6; clear hq6)))
          all_goals go_wp2
          all_goals refine bodyPost_ret (v := .tuple #[q6, .agg #[.int .i64 K, .int .u64 H, .slice none 0 0, .slice P3 n3 e3, .slice P4 n4 e4]]) (by simp [results, Try.results8, go_sem, g0, g1, g2, g3, g4]) rfl ⟨_, rfl, ⟨q6, [.int .i64 K, .int .u64 H, .slice none 0 0, .slice P3 n3 e3, .slice P4 n4 e4], rfl, ?_, ?_⟩, ?_⟩
          · rw [← HOS.out]; exact HQ6.out.move (moves_set5 _ _ _ _ _)
          · rw [← HOS.out]; exact XAt.move (moves_set5 _ _ _ _ _) _ _ (HXK.out _ hw6)
          · exact below_set5 (HBW3.out.trans (hw6.mono HBW3.out.size)) _ _ _ _ _
  · have hk1 : ¬ (0 : Int) < (qk.length : Int) := by omega
    have hkz : (qk.length : Int) = 0 := by omega
    have hos0 : os = [] := List.eq_nil_of_length_eq_zero (by rw [HOL.out]; omega)
    have HOS0 := Lib.hid hos0
    obtain ⟨wr, hwrr⟩ : ∃ wr, w1.alloc (.cells #[.int .i64 3, .int .u64 0, .slice none 0 0, .slice M (Bw.bitsOf qs).length cm, .slice none 0 0] 32) = wr := ⟨_, rfl⟩
    have HC : Hid (Cells5 wr w1.heap.size (.int .i64 3) (.int .u64 0) (.slice none 0 0) (.slice M (Bw.bitsOf qs).length cm) (.slice none 0 0)) := Lib.hid (by rw [← hwrr]; exact five_cells (heap_alloc_new _ _))
    have HBEL : Hid (Below w1.heap.size w1 wr) := Lib.hid (by rw [← hwrr]; (repeat (first | exact Below.refl _ _ | with_reducible assumption | refine Below.drew ?_ | refine b_drewN ?_ _ | (refine Below.alloc ?_ (by simp) _) | (refine Below.alloc ?_ (by simp; omega) _))))
    have HSZ : Hid (w1.heap.size + 1 ≤ wr.heap.size) := Lib.hid (by rw [← hwrr]; simp)
    have HWRR := Lib.hid hwrr
    clear hwh hk0 hwrr hos0
    go_wp2_with fail
    rw [HWRR.out]
    go_loopw [10, 11, 67] (fun a b i W => a = .slice none 0 0 ∧ b = .bool false ∧ i = .int .i64 0 ∧ W = wr) (fun _ _ _ _ => 0)
    case atStart => exact ⟨rfl, rfl, rfl, rfl⟩
    case round =>
      obtain ⟨rfl, rfl, rfl, rfl⟩ := hrel
      rename_i WR
      have f3 := (HBEL.out.cell (p := ⟨w.heap.size + 1, 3, none⟩) (by simp; omega)).trans HF.out.1
      have gb := (HBEL.out.block _ (by omega)).trans HF.out.2
      have hw1s : w.heap.size + 1 < w1.heap.size := by omega
      have HAR : Hid (NodesAt nt (fun k => w1.heap.size + 1 ≤ k ∧ True) wr (.slice none 0 0) os) := Lib.hid (by rw [HOS0.out]; exact RowAt.nil)
      have HOL32 : Hid (os.length ≤ 32) := Lib.hid (by have := HKL.out; have := HOL.out; omega)
      have HCNT : Hid (countOs os ≤ 4611686018427387904) := Lib.hid (by have := HCN.out; rw [← HOS.out] at this; exact this)
      have HBWR : Hid (Below w.heap.size w wr) := Lib.hid (HB1.out.trans (HBEL.out.mono HB1.out.size))
      obtain ⟨⟨x0, x1, x2, x3, x4⟩, k0, k1, k2, k3, k4⟩ := HC.out
      have hbo : Bw.branchO qs os = none := by rw [HOS0.out]; unfold Bw.branchO; rw [if_pos (.inl rfl)]
      go_wp2_with fail
      obtain ⟨W3, hW3⟩ : ∃ W3, (((((wr.setCell ⟨w1.heap.size, 0, none⟩ (.int .i64 0)).setCell ⟨w1.heap.size, 1, none⟩ (.int .u64 0)).setCell ⟨w1.heap.size, 2, none⟩ (.slice none 0 0)).setCell ⟨w1.heap.size, 3, none⟩ (.slice none 0 0)).setCell ⟨w1.heap.size, 4, none⟩ (.slice none 0 0)) = W3 := ⟨_, rfl⟩
      obtain ⟨K, hK⟩ : ∃ K : Int, K = 0 := ⟨_, rfl⟩
      obtain ⟨H, hH⟩ : ∃ H : Int, H = 0 := ⟨_, rfl⟩
      obtain ⟨P3, hP3⟩ : ∃ P3 : Option Addr, P3 = none := ⟨_, rfl⟩
      obtain ⟨n3, hn3⟩ : ∃ n3 : Nat, n3 = 0 := ⟨_, rfl⟩
      obtain ⟨e3, he3⟩ : ∃ e3 : Nat, e3 = 0 := ⟨_, rfl⟩
      obtain ⟨P4, hP4⟩ : ∃ P4 : Option Addr, P4 = none := ⟨_, rfl⟩
      obtain ⟨n4, hn4⟩ : ∃ n4 : Nat, n4 = 0 := ⟨_, rfl⟩
      obtain ⟨e4, he4⟩ : ∃ e4 : Nat, e4 = 0 := ⟨_, rfl⟩
      have hS : S5 w1.heap.size (.int .i64 K) (.int .u64 H) (.slice none 0 0) (.slice P3 n3 e3) (.slice P4 n4 e4) W3 := by
        subst hK hH hP3 hn3 he3 hP4 hn4 he4 hW3
        refine ⟨?_, ?_, ?_, ?_, ?_⟩ <;> go_simp
      have hblk : ∀ k, k ≠ w1.heap.size → W3.heap[k]? = wr.heap[k]? := fun k hk => by
        subst hW3
        rw [Below.heap_setCell _ _ _ _ hk, Below.heap_setCell _ _ _ _ hk, Below.heap_setCell _ _ _ _ hk, Below.heap_setCell _ _ _ _ hk, Below.heap_setCell _ _ _ _ hk]
      have hsz3 : w1.heap.size + 1 ≤ W3.heap.size := by subst hW3; simpa [World.setCell] using HSZ.out
      have HNS := Lib.hid (RowAt.move (ok' := fun k => w.heap.size < k) (w' := W3) (goodNode nt) (fun k hk hl => ⟨by have := hk.1; have := HB1.out.size; omega, hblk k (by have := hk.1; omega)⟩) HAR.out)
      have f3' : W3.cell? ⟨w.heap.size + 1, 3, none⟩ = some (.int .u32 (qs : Nat)) := (World.cell?_of_block (w := wr) (hblk _ (by show w.heap.size + 1 ≠ _; omega))).trans f3
      have gb' := (hblk w.heap.size (by omega)).trans gb
      have HBW3 : Hid (Below w.heap.size w W3) := Lib.hid (by
        have h5 := (((((HBWR.out.setCell (p := ⟨w1.heap.size, 0, none⟩) HB1.out.size (.int .i64 0)).setCell (p := ⟨w1.heap.size, 1, none⟩) HB1.out.size (.int .u64 0)).setCell (p := ⟨w1.heap.size, 2, none⟩) HB1.out.size (.slice none 0 0)).setCell (p := ⟨w1.heap.size, 3, none⟩) HB1.out.size (.slice none 0 0)).setCell (p := ⟨w1.heap.size, 4, none⟩) HB1.out.size (.slice none 0 0))
        rw [hW3] at h5
        exact h5)
      have HXK : Hid (∀ W, Below W3.heap.size W3 W → xK (fun k => w.heap.size < k) W (Bw.absO (Bw.branchO qs os)) [.int .i64 K, .int .u64 H, .slice none 0 0, .slice P3 n3 e3, .slice P4 n4 e4]) := Lib.hid fun W hW => by
        subst hK hH hP3 hn3 he3 hP4 hn4 he4
        rw [hbo]
        exact xK_zero
      rw [hW3]
      clear hK hH hP3 hn3 he3 hP4 hn4 he4 hbo hW3 hblk f3 gb x0 x1 x2 x3 x4 k0 k1 k2 k3 k4
      have f3 := f3'
      have gb := gb'
      clear f3' gb'
      have hs1 : w.heap.size < W3.heap.size := by omega
      have hs2 : w.heap.size + 1 < W3.heap.size := by omega
      have hbx3 : w1.heap.size < W3.heap.size := by omega
      have hnn1 : ¬ (w1.heap.size = w.heap.size) := by omega
      have hnn2 : ¬ (w.heap.size = w1.heap.size) := by omega
      have HYS : Hid (∀ W, Below W3.heap.size W3 W → S5 w1.heap.size (.int .i64 K) (.int .u64 H) (.slice none 0 0) (.slice P3 n3 e3) (.slice P4 n4 e4) W ∧ W.cell? ⟨w.heap.size + 1, 3, none⟩ = some (.int .u32 (qs : Nat))) := Lib.hid fun W hW => ⟨S5.block (hW.block _ hbx3) hS, (hW.cell (p := ⟨w.heap.size + 1, 3, none⟩) hs2).trans f3⟩
      have hS3 := HYS.out W3 (Below.refl _ _)
      have hS3d := HYS.out W3.drew (by (repeat (first | exact Below.refl _ _ | with_reducible assumption | refine Below.drew ?_ | refine b_drewN ?_ _ | (refine Below.alloc ?_ (by simp) _) | (refine Below.alloc ?_ (by simp; omega) _))))
      have HGB : Hid (∀ W, Below W3.heap.size W3 W → (W.cell? ⟨w.heap.size, 0, none⟩ = some (.int .i64 0) ∧ W.cell? ⟨w.heap.size, 1, none⟩ = some (.int .u64 0) ∧ W.cell? ⟨w.heap.size, 2, none⟩ = some (.slice none 0 0) ∧ W.cell? ⟨w.heap.size, 3, none⟩ = some (.slice none 0 0) ∧ W.cell? ⟨w.heap.size, 4, none⟩ = some (.slice none 0 0)) ∧
          (W.frozen? ⟨w.heap.size, 0, none⟩ = false ∧ W.frozen? ⟨w.heap.size, 1, none⟩ = false ∧ W.frozen? ⟨w.heap.size, 2, none⟩ = false ∧ W.frozen? ⟨w.heap.size, 3, none⟩ = false ∧ W.frozen? ⟨w.heap.size, 4, none⟩ = false)) := Lib.hid fun W hW => five_cells ((hW.block _ hs1).trans gb)
      have CBR := Lib.hid (fun W (hW : Below W3.heap.size W3 W) => branch_any (m := qs) (ok := fun k => w.heap.size < k) W (HNS.out.move (goodNode nt) (Moves.below hW)) HOL32.out hset (fun k hk => by have := hW.size; omega) HCNT.out)
      clear hS f3 gb
      go_region_held3 (fun w' => S5 w1.heap.size (.int .i64 K) (.int .u64 H) (.slice none 0 0) (.slice P3 n3 e3) (.slice P4 n4 e4) w' ∧ w'.cell? ⟨w.heap.size + 1, 3, none⟩ = some (.int .u32 (qs : Nat)))
        (first | with_reducible exact hS6 | with_reducible exact hS3d | with_reducible exact hS3 | (obtain ⟨⟨y0, y1, y2, y3, y4⟩, f1'⟩ := hS6; refine ⟨⟨?_, ?_, ?_, ?_, ?_⟩, ?_⟩ <;> go_simp))
        ((first
          | (go_at_call 24; (with_reducible refine (CBR.out _ (by (repeat (first | exact Below.refl _ _ | with_reducible assumption | refine Below.drew ?_ | refine b_drewN ?_ _ | (refine Below.alloc ?_ (by simp) _) | (refine Below.alloc ?_ (by simp; omega) _))))).mono ?_); rintro e w6 ⟨q6, rfl, hq6, hb6⟩; have hw6 : Below W3.heap.size W3 w6 := Below.trans (by (repeat (first | exact Below.refl _ _ | with_reducible assumption | refine Below.drew ?_ | refine b_drewN ?_ _ | (refine Below.alloc ?_ (by simp) _) | (refine Below.alloc ?_ (by simp; omega) _)))) (hb6.mono (by simp)); have hS6 := HYS.out w6 hw6; obtain ⟨⟨g0, g1, g2, g3, g4⟩, k0, k1, k2, k3, k4⟩ := HGB.out w6 hw6; have hz6 : w1.heap.size < w6.heap.size := Nat.lt_of_lt_of_le hbx3 hw6.size; have HQ6 := Lib.hid hq6; clear hq6)))
      all_goals go_wp2
      all_goals refine bodyPost_ret (v := .tuple #[q6, .agg #[.int .i64 K, .int .u64 H, .slice none 0 0, .slice P3 n3 e3, .slice P4 n4 e4]]) (by simp [results, Try.results8, go_sem, g0, g1, g2, g3, g4]) rfl ⟨_, rfl, ⟨q6, [.int .i64 K, .int .u64 H, .slice none 0 0, .slice P3 n3 e3, .slice P4 n4 e4], rfl, ?_, ?_⟩, ?_⟩
      · rw [← HOS.out]; exact HQ6.out.move (moves_set5 _ _ _ _ _)
      · rw [← HOS.out]; exact XAt.move (moves_set5 _ _ _ _ _) _ _ (HXK.out _ hw6)
      · exact below_set5 (HBW3.out.trans (hw6.mono HBW3.out.size)) _ _ _ _ _
end Go.Proofs.Ytkblhilaeecdlaa
