/- A trie's variable, and a seed's, as a whole: loads and stores of its value. -/
import Derived.Test.YtadaoceidkagfaaGreatDoorStepT
import Derived.Test.YtadaoceidkagfaaGreatDoorAw21
import Derived.Test.YtadaoceidkagfaaGreatDoorTrie5
namespace Go.Proofs.YtadaoceidkagfaaGreatDoor
open Go.RowKit Go.Bw
/-- a trie's cells -/
def trieL (s : List UInt8) (nv : Value) : List Value := s.map encB ++ [nv]
def seedL (s : List UInt8) : List Value := s.map encB
theorem trieL_length {s : List UInt8} (hs : s.length = 16) (nv : Value) : (trieL s nv).length = 17 := by simp [trieL, hs]
theorem seedL_length {s : List UInt8} (hs : s.length = 16) : (seedL s).length = 16 := by simp [seedL, hs]
theorem trieL_one {s : List UInt8} {nv : Value} (h : nv.oneCell' = true) : (trieL s nv).toArray.all (·.oneCell') = true := all_oneCell_toArray (fun v hv => by
  rcases List.mem_append.1 hv with h1 | h1
  · obtain ⟨b, _, rfl⟩ := List.mem_map.1 h1
    rfl
  · rw [List.mem_singleton.1 h1]; exact h)
theorem seedV_is (s : List UInt8) : seedV s = .agg (seedL s).toArray := rfl
/-- a trie lies in the variable at block b -/
structure TrieIn (W : World) (b : Nat) (s : List UInt8) (nv : Value) : Prop where
  rng : W.rangeAt b 0 (trieL s nv)
  there : W.there b 0 17
theorem rng_same {W W' : World} {B : Nat} {cs : List Value} (h : W'.heap[B]? = W.heap[B]?) (hr : W.rangeAt B 0 cs) : W'.rangeAt B 0 cs := fun j v hv => (World.cell?_of_block h).trans (hr j v hv)
theorem there_same {W W' : World} {B n : Nat} (h : W'.heap[B]? = W.heap[B]?) (hr : W.there B 0 n) : W'.there B 0 n := fun j hj => by
  have h1 := hr j hj
  refine ⟨by rw [World.cell?_of_block h]; exact h1.1, ?_⟩
  have h2 := h1.2
  simp only [World.frozen?, h] at h2 ⊢
  exact h2
theorem there_lt {W : World} {B n : Nat} (hr : W.there B 0 (n + 1)) : B < W.heap.size := by
  obtain ⟨u, hu⟩ := Option.isSome_iff_exists.1 (hr 0 (Nat.succ_pos _)).1
  exact World.block_lt_of_cell? W _ hu
theorem TrieIn.same {W W' : World} {b : Nat} {s : List UInt8} {nv : Value} (h : TrieIn W b s nv) (e : W'.heap[b]? = W.heap[b]?) : TrieIn W' b s nv := ⟨rng_same e h.rng, there_same e h.there⟩
theorem TrieIn.lt {W : World} {b : Nat} {s : List UInt8} {nv : Value} (h : TrieIn W b s nv) : b < W.heap.size := there_lt h.there
theorem TrieIn.below {W W' : World} {b : Nat} {s : List UInt8} {nv : Value} (h : TrieIn W b s nv) (hb : Below W.heap.size W W') : TrieIn W' b s nv := h.same (hb.block b h.lt)
theorem TrieIn.turns {W W' : World} {b : Nat} {s : List UInt8} {nv : Value} {mb : Option Nat} (h : TrieIn W b s nv) (hb : Turns W W' mb) (hn : some b ≠ mb) : TrieIn W' b s nv := h.same (hb.block b h.lt hn)
theorem TrieIn.put {W : World} {b : Nat} {s : List UInt8} (nv : Value) (hs : s.length = 16) (h : W.there b 0 17) : TrieIn (W.setCells b 0 (trieL s nv)) b s nv :=
  ⟨World.rangeAt_setCells_same _ _ _ _ (by rw [trieL_length hs]; exact h), World.there_setCells h _ _ _⟩
section
variable {ops : Array Oper} {rest : List Oper} {op : Oper} {a : Act} {w : World} {Q : Exit → Act → World → Prop} {K : Act → World → Prop} {S : World → Prop} {s : List UInt8} {nv : Value} {x y : Operand} {b : Nat}
theorem wpl_load_trie (hgd : op.guard = none) (ho : op.op = .load 30 x) (hx : a.eval x = .pointer (some ⟨b, 0, none⟩)) (hs : s.length = 16) (hc : TrieIn w b s nv)
    (h : wpList Tryz.prog ops Q rest (a.put op.dst (trieV s nv)) w) : wpList Tryz.prog ops Q (op :: rest) a w :=
  wpList_load_mid (P := Tryz.prog) hgd 30 x ho b 0 hx (trieL s nv) _ hc.rng Tryz.underlying30 rfl (trie_size.trans (congrArg some (trieL_length hs nv).symm)) h
theorem wpl_store_trie (hgd : op.guard = none) (ho : op.op = .store 30 x y) (hx : a.eval x = .pointer (some ⟨b, 0, none⟩)) (hy : a.eval y = trieV s nv) (hs : s.length = 16) (h1 : nv.oneCell' = true) (ht : w.there b 0 17)
    (h : wpList Tryz.prog ops Q rest (a.put op.dst undef) (w.setCells b 0 (trieL s nv))) : wpList Tryz.prog ops Q (op :: rest) a w :=
  wpList_store_mid (P := Tryz.prog) hgd 30 x y ho b 0 (trieL s nv).toArray hx hy (by rw [List.size_toArray, trieL_length hs]; exact ht) (by rw [List.size_toArray, trieL_length hs]; exact trie_size) (trieL_one h1) h
theorem wp_store_trie (ho : op.op = .store 30 x y) (hx : a.eval x = .pointer (some ⟨b, 0, none⟩)) (hy : a.eval y = trieV s nv) (hs : s.length = 16) (h1 : nv.oneCell' = true) (ht : w.there b 0 17)
    (h : K (a.put op.dst undef) (w.setCells b 0 (trieL s nv))) : op.wp Tryz.prog a w K Q :=
  wp_store_mid (P := Tryz.prog) 30 x y ho b 0 (trieL s nv).toArray hx hy (by rw [List.size_toArray, trieL_length hs]; exact ht) (by rw [List.size_toArray, trieL_length hs]; exact trie_size) (trieL_one h1) h
theorem yieldsIf_load_trie (hw : Region.wanted op (yielded ops a.tmps) = true) (ho : op.op = .load 30 x) (hx : a.eval x = .pointer (some ⟨b, 0, none⟩)) (hs : s.length = 16) (hc : ∀ W, S W → TrieIn W b s nv) :
    YieldsIf Tryz.prog ops S op (trieV s nv) a :=
  yieldsIf_load_mid (P := Tryz.prog) hw 30 x ho b 0 hx (trieL s nv) _ (fun W h => (hc W h).rng) Tryz.underlying30 rfl (trie_size.trans (congrArg some (trieL_length hs nv).symm))
theorem yieldsIf_load_seed (hw : Region.wanted op (yielded ops a.tmps) = true) (ho : op.op = .load 23 x) (hx : a.eval x = .pointer (some ⟨b, 0, none⟩)) (hs : s.length = 16) (hc : ∀ W, S W → W.rangeAt b 0 (seedL s)) :
    YieldsIf Tryz.prog ops S op (seedV s) a :=
  yieldsIf_load_mid (P := Tryz.prog) hw 23 x ho b 0 hx (seedL s) _ hc Tryz.underlying23 rfl (seed_size.trans (congrArg some (seedL_length hs).symm))
end
/-- a region's post, parted from what follows -/
theorem region_cut {P : Program} {id : Nat} {ops : Array Oper} {dr : Bool} {Q : Exit → Act → World → Prop} {a : Act} {w : World} (R : Act → Act → World → Prop)
    (h1 : (Code.region id ops dr).wp P (fun e a' w' => e = .normal ∧ R a a' w') a w) (h2 : ∀ a' w', R a a' w' → Q .normal a' w') : (Code.region id ops dr).wp P Q a w :=
  Code.wp_mono (fun e a' w' h => by obtain ⟨rfl, h⟩ := h; exact h2 a' w' h) h1
theorem seed_in {w : World} {s : List UInt8} : (w.alloc (.cells (seedL s).toArray 23)).rangeAt w.heap.size 0 (seedL s) := fun j v hv => by
  have h := cell_of_row (w.alloc (.cells (seedL s).toArray 23)) w.heap.size j _ _ (0, 0) (heap_alloc_new w _)
  rw [Nat.zero_add, h]
  simpa using hv
theorem trie_there (w : World) (C : Array Value) (t : TypeId) (hC : C.size = 17) : (w.alloc (.cells C t)).there w.heap.size 0 17 := there_of (heap_alloc_new w _) hC.symm
end Go.Proofs.YtadaoceidkagfaaGreatDoor
