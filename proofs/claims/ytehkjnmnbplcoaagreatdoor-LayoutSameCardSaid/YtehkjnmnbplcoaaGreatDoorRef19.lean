
import Derived.Test.YtehkjnmnbplcoaaGreatDoorRefA
import Derived.Test.YtehkjnmnbplcoaaGreatDoorBwG
import Derived.Deep.RegionHeld3
import Derived.Deep.RegionLaw
import Derived.Deep.QuietTactic
import Derived.BigQuiet
namespace Go.Proofs.YtehkjnmnbplcoaaGreatDoor
open Go.RowKit Go.Bw

/-! ### ref04.Get -/
theorem _root_.Bw.get_at {m : List Bw.PV} {k : Bw.Bytes} {i : Nat} {q : Bw.PV} (h : ∀ x ∈ m.take i, x.1 ≠ k) (hi : m[i]? = some q) (hq : q.1 = k) : Bw.get m k = some q.2 := by
  induction m generalizing i with
  | nil => simp at hi
  | cons x r ih =>
    cases i with
    | zero =>
      simp only [List.getElem?_cons_zero, Option.some.injEq] at hi
      subst hi
      simp only [Bw.get]; rw [if_pos hq]
    | succ i =>
      simp only [Bw.get]
      rw [if_neg (h x (by simp))]
      exact ih (i := i) (fun y hy => h y (by simp [hy])) (by simpa using hi)
theorem _root_.Bw.get_none {m : List Bw.PV} {k : Bw.Bytes} (h : ∀ x ∈ m, x.1 ≠ k) : Bw.get m k = none := by
  induction m with
  | nil => rfl
  | cons x r ih =>
    simp only [Bw.get]
    rw [if_neg (h x (by simp))]
    exact ih fun y hy => h y (by simp [hy])

def GetRel (m : List Bw.PV) (key : Bw.Bytes) (w : World) (i : Value) (wr : World) : Prop :=
  ∃ k : Nat, k ≤ m.length ∧ i = .int .i64 k ∧ (∀ x ∈ m.take k, x.1 ≠ key) ∧ Below w.heap.size w wr

def getV (o : Option Bw.Bytes) : Value := .tuple #[str (o.getD []), .bool o.isSome]

/-- a key's hash by a table -/
def _root_.Bw.tabHash (t : List Nat) (k : Bw.Bytes) : Nat := t.getD ((k.length + (k.map UInt8.toNat).sum) % t.length) 0

abbrev natK64 : Knd Nat := immK fun n : Nat => .int .u64 (n : Nat)
theorem goodNat64 : _root_.Go.Bw.Good 1 natK64 := Good.imm (fun _ => rfl)

def HashRel (key : Bw.Bytes) (n i : Value) : Prop := ∃ k : Nat, k ≤ key.length ∧ i = .int .i64 k ∧ n = .int .i64 ((key.length + ((key.map UInt8.toNat).take k).sum : Nat) : Int)

theorem sum_take_le (l : Bw.Bytes) (k : Nat) : ((l.map UInt8.toNat).take k).sum ≤ 256 * k := by
  induction l generalizing k with
  | nil => simp
  | cons x r ih =>
    cases k with
    | zero => simp
    | succ k =>
      have := ih k
      have := x.toNat_lt
      simp only [List.map_cons, List.take_succ_cons, List.sum_cons]
      omega
theorem byte_at (key : Bw.Bytes) (k : Nat) (h : k < key.length) (h' : k < (⟨key.toArray⟩ : ByteArray).size) : (⟨key.toArray⟩ : ByteArray)[k]'h' = key[k]'h := rfl

set_option maxRecDepth 100000 in
set_option maxHeartbeats 1000000 in
theorem thash_any {ok : Nat → Prop} {t : List Nat} {key : Bw.Bytes} {v : Value} {w : World} (hl : key.length ≤ 1048576) (ht : t.length ≤ 1048576) (hr : RowAt 1 natK64 ok w v t) :
    Calls Tryz.prog 7 #[v, str key] w fun e w' => e = .returned (.int .u64 (Bw.tabHash t key : Nat)) ∧ w = w' := by
  obtain ⟨A, c, rfl⟩ := hr.form
  have HL := Lib.hid hl
  have HR := Lib.hid hr
  have HT := Lib.hid ht
  simp only [str]
  by_cases h0 : t.length = 0
  · have hz : ((t.length : Int) == 0) = true := by rw [beq_iff_eq]; omega
    have hf : Bw.tabHash t key = 0 := by
      have : t = [] := List.eq_nil_of_length_eq_zero h0
      subst this; simp [Bw.tabHash]
    rw [hf]
    clear hl hr ht h0 hf
    go_enter Tryz.func7, Tryz.ntmps7
    go_wp2
    go_ret
    exact ⟨rfl, rfl⟩
  · have hz : ((t.length : Int) == 0) = false := by rw [beq_eq_false_iff_ne]; omega
    have H0 : Hid (HashRel key (.int .i64 (key.length : Nat)) (.int .i64 0)) := Lib.hid ⟨0, Nat.zero_le _, rfl, by simp⟩
    have HZ := Lib.hid h0
    clear hl hr ht h0
    go_enter Tryz.func7, Tryz.ntmps7
    go_wp2_with fail
    go_loop [5, 6] (HashRel key) (fun _ i => key.length - (intOf i).toNat)
    case atStart => exact H0.out
    case round =>
      obtain ⟨k, hk, rfl, rfl⟩ := hrel
      have hsl := sum_take_le key k
      have hkl := HL.out
      by_cases hlt : k < key.length
      · have h1 : (0 : Int) ≤ (k : Int) := by omega
        have h2 : (k : Int) < (key.length : Int) := by omega
        have hb := key[k].toNat_lt
        have HS : Hid (((key.map UInt8.toNat).take (k + 1)).sum = ((key.map UInt8.toNat).take k).sum + key[k].toNat) := Lib.hid (by
          rw [take_succ_snoc (by simpa using hlt)]; simp)
        go_wp2
        refine ⟨⟨k + 1, hlt, by rw [Int.natCast_add]; rfl, congrArg (Value.int IntKind.i64) ?_⟩, by simp only [intOf]; omega⟩
        rw [HS.out, byte_at key k hlt]
        unfold wrap64
        omega
      · obtain rfl : k = key.length := by omega
        rw [show (key.map UInt8.toNat).take key.length = key.map UInt8.toNat by rw [List.take_of_length_le (by simp)]] at hsl ⊢
        have hlen := HZ.out
        have htl := HT.out
        obtain ⟨N, hN⟩ : ∃ N, key.length + (key.map UInt8.toNat).sum = N := ⟨_, rfl⟩
        have hf : Bw.tabHash t key = t.getD (N % t.length) 0 := by unfold Bw.tabHash; rw [hN]
        have hi : N % t.length < t.length := Nat.mod_lt _ (by omega)
        obtain ⟨b, o, cs, rfl, hd, hc⟩ := HR.out.get (List.getElem?_eq_getElem hi)
        obtain rfl := hd
        have c0 := (hc 0 _ rfl).2
        simp only [Nat.mul_one, Nat.add_zero] at c0
        have hg : t.getD (N % t.length) 0 = t[N % t.length] := by rw [List.getD_eq_getElem?_getD, List.getElem?_eq_getElem hi]; rfl
        have HF := Lib.hid (hf.trans hg)
        generalize hx : t[N % t.length] = x at *
        have hr1 : (N : Int) % (t.length : Int) = ((N % t.length : Nat) : Int) := by omega
        have hr2 : Int.tmod (N : Int) (t.length : Int) = ((N % t.length : Nat) : Int) := by rw [Int.tmod_eq_emod_of_nonneg (by omega)]; omega
        have hr3 : (0 : Int) ≤ ((N % t.length : Nat) : Int) := by omega
        have hr4 : ((N % t.length : Nat) : Int) < (t.length : Int) := by omega
        generalize hy : N % t.length = y at *
        have hN0 : (0 : Int) ≤ (N : Int) := by omega
        have hN1 : (N : Int) ≤ 9223372036854775807 := by omega
        rw [show (key.length : Nat) + (key.map UInt8.toNat).sum = N from hN]
        clear hN hf hi hg hx hy hc hsl hkl hlt hk
        go_wp2
        go_ret
        exact ⟨by rw [HF.out]; rfl, rfl⟩

/-! ### ref19.Entries -/
abbrev senK : Knd Bw.En := prK natK64 spK
theorem goodSen : _root_.Go.Bw.Good 3 senK := goodNat64.pr goodSp
abbrev SensAt := RowAt 3 senK
theorem senK_open {ok : Nat → Prop} {w : World} {e : Bw.En} {cs : List Value} (h : senK ok w e cs) : cs = [.int .u64 (e.1 : Nat), str e.2.1, str e.2.2] := by
  obtain ⟨a, b, rfl, rfl, h2⟩ := h
  obtain rfl := spK_open h2
  rfl
theorem senK_mk {ok : Nat → Prop} {w : World} {e : Bw.En} : senK ok w e [.int .u64 (e.1 : Nat), str e.2.1, str e.2.2] := ⟨[.int .u64 (e.1 : Nat)], [str e.2.1, str e.2.2], rfl, rfl, spK_mk⟩
theorem sen_get {ok : Nat → Prop} {w : World} {A : Option Addr} {n c j : Nat} {xs : List Bw.En} {e : Bw.En} (h : SensAt ok w (.slice A n c) xs) (hj : xs[j]? = some e) :
    ∃ b o, A = some ⟨b, o, none⟩ ∧ ok b ∧ w.cell? ⟨b, o + j * 3, none⟩ = some (.int .u64 (e.1 : Nat)) ∧ w.cell? ⟨b, o + j * 3 + 1, none⟩ = some (str e.2.1) ∧ w.cell? ⟨b, o + j * 3 + 2, none⟩ = some (str e.2.2) := by
  obtain ⟨b, o, cs, rfl, hx, hc⟩ := h.get hj
  obtain rfl := senK_open hx
  exact ⟨b, o, rfl, (hc 0 _ rfl).1, (hc 0 _ rfl).2, (hc 1 _ rfl).2, (hc 2 _ rfl).2⟩

theorem infoE : (Tryz.prog.info? 66).map (fun i => (i.zero, i.size, i.bytes)) = some (some (.agg #[.int .u64 0, .string ⟨#[]⟩, .string ⟨#[]⟩]), 3, 40) := by kernel_rfl

def _root_.Bw.entries (t : List Nat) (m : List Bw.PV) : List Bw.En := m.map fun p => (Bw.tabHash t p.1, p)

def EntRel (t : List Nat) (m : List Bw.PV) (w : World) (v i : Value) (wr : World) : Prop :=
  ∃ k : Nat, k ≤ m.length ∧ i = .int .i64 k ∧ OwnAt 66 3 senK (fun k => w.heap.size ≤ k) wr w.heap.size v (Bw.entries t (m.take k)) ∧ Below w.heap.size w wr

set_option maxRecDepth 100000 in
set_option maxHeartbeats 1000000 in
theorem rentries_any {ok ok' : Nat → Prop} {t : List Nat} {m : List Bw.PV} {tv v : Value} {w : World} (ht : t.length ≤ 1048576) (htr : RowAt 1 natK64 ok' w tv t) (hl : m.length ≤ 1048576) (hk : ∀ p ∈ m, p.1.length ≤ 1048576) (hr : SPairsAt ok w v m) :
    Calls Tryz.prog 10 #[tv, v] w (Gives w fun q w' => SensAt (fun k => w.heap.size ≤ k) w' q (Bw.entries t m)) := by
  obtain ⟨A, c, rfl⟩ := hr.form
  obtain ⟨AT, ct, rfl⟩ := htr.form
  have HL := Lib.hid hl
  have HR := Lib.hid hr
  have HK := Lib.hid hk
  have CT := Lib.hid (fun (W : World) (hW : Below w.heap.size w W) (key : Bw.Bytes) (hkey : key.length ≤ 1048576) => thash_any hkey ht (htr.move goodNat64 (Moves.below hW)))
  have H0 : Hid (EntRel t m w (.slice none 0 0) (.int .i64 0) w) := Lib.hid ⟨0, Nat.zero_le _, rfl, OwnAt.nil, Below.refl _ _⟩
  obtain ⟨i0, hi, hz0, hz1, hz2⟩ := info_parts infoE
  have HI := Lib.hid hi; have HZ0 := Lib.hid hz0; have HZ1 := Lib.hid hz1; have HZ2 := Lib.hid hz2
  clear hl hr hk ht htr hi hz0 hz1 hz2
  go_enter Tryz.func10, Tryz.ntmps10
  go_wp2_with fail
  go_loopw [5, 10] (EntRel t m w) (fun _ i _ => m.length - (intOf i).toNat)
  case atStart => exact H0.out
  case round =>
    obtain ⟨k, hk, rfl, hown, hB⟩ := hrel
    by_cases hlt : k < m.length
    · obtain ⟨b, o, rfl, hob, c0, c1⟩ := sp_get HR.out (List.getElem?_eq_getElem hlt)
      have hbl := World.block_lt_of_cell? w _ c0
      dsimp only at hbl
      have d0 := (hB.cell (p := ⟨b, o + k * 2, none⟩) hbl).trans c0
      have d1 := (hB.cell (p := ⟨b, o + k * 2 + 1, none⟩) hbl).trans c1
      have hbl2 : b < wr.heap.size := Nat.lt_of_lt_of_le hbl hB.size
      have h0 : (0 : Int) ≤ (k : Int) := by omega
      have h1 : (k : Int) < (m.length : Int) := by omega
      have hsn : Bw.entries t (m.take (k + 1)) = Bw.entries t (m.take k) ++ [(Bw.tabHash t m[k].1, m[k])] := by unfold Bw.entries; rw [take_succ_snoc hlt, List.map_append]; rfl
      have hlen : (Bw.entries t (m.take k)).length = k := by simp [Bw.entries]; omega
      have hkq := HK.out m[k] (List.getElem_mem hlt)
      generalize m[k] = q at *
      obtain ⟨qx, qy⟩ := q
      simp only [str] at d0 d1
      have hbq : Below wr.heap.size wr (wr.alloc (.cells #[.string ⟨qx.toArray⟩, .string ⟨qy.toArray⟩] 52)) := by (repeat (first | exact Below.refl _ _ | with_reducible assumption | refine Below.drew ?_ | refine b_drewN ?_ _ | (refine Below.alloc ?_ (by first | omega | (simp <;> omega)) _)))
      have CH := Lib.hid (fun (W : World) (hW : Below w.heap.size w W) => (CT.out W hW qx hkq).mono (R' := fun e w' => e = .returned (.int .u64 (Bw.tabHash t qx : Nat)) ∧ Below W.heap.size W w') (fun _ _ h => ⟨h.1, h.2 ▸ Below.refl _ _⟩))
      simp only [str] at CH
      obtain ⟨AA, cc, hvv⟩ := (hown.row goodSen).form
      rw [hlen] at hvv
      subst hvv
      have HOWN := Lib.hid hown
      have HBB := Lib.hid hB
      have HSN := Lib.hid hsn
      have HLN := Lib.hid hlen
      clear c0 c1 hB hsn hown hbq hlen hkq
      go_wp2_with fail
      go_region_law
        ((first
          | (go_simp; go_at_call 7; (with_reducible refine (CH.out _ (HBB.out.trans (Below.mono (by (repeat (first | exact Below.refl _ _ | with_reducible assumption | refine Below.drew ?_ | refine b_drewN ?_ _ | (refine Below.alloc ?_ (by first | omega | (simp <;> omega)) _)))) HBB.out.size))).mono ?_); rintro e w2 ⟨rfl, hb2⟩; have hr2 : Below wr.heap.size wr w2 := Below.trans (by (repeat (first | exact Below.refl _ _ | with_reducible assumption | refine Below.drew ?_ | refine b_drewN ?_ _ | (refine Below.alloc ?_ (by first | omega | (simp <;> omega)) _)))) (hb2.mono (by simp)); have k0 : w2.cell? ⟨wr.heap.size, 0, none⟩ = some (.string ⟨qx.toArray⟩) := (hb2.cell (p := ⟨wr.heap.size, 0, none⟩) (by simp)).trans (by go_simp); have k1 : w2.cell? ⟨wr.heap.size, 1, none⟩ = some (.string ⟨qy.toArray⟩) := (hb2.cell (p := ⟨wr.heap.size, 1, none⟩) (by simp)).trans (by go_simp))
          | (go_loud (refine st_app1 goodSen rfl (.tmp 14) (.tmp 21) 41 rfl w.heap.size 66 i0 _ 40 Tryz.underlying41 HI.out HZ0.out HZ1.out HZ2.out rfl (by decide) (.slice AA k cc) (Bw.entries t (m.take k)) rfl (HOWN.out.move goodSen (Moves.below hr2)) (Bw.tabHash t qx, (qx, qy)) #[.int .u64 (Bw.tabHash t qx : Nat), .string ⟨qx.toArray⟩, .string ⟨qy.toArray⟩] 66 (by go_simp) senK_mk (fun k hk => Nat.le_trans HBB.out.size (Nat.le_trans hr2.size hk)) (by have := HLN.out; have := HL.out; omega) (by decide) (Nat.le_trans HBB.out.size hr2.size) ?_; intro v3 w3 hown3 hb3 hat3 hg3))))
      all_goals go_wp2
      all_goals exact ⟨⟨k + 1, hlt, int_succ hlt HL.out, by rw [HSN.out]; exact hown3, (HBB.out.trans (hr2.mono HBB.out.size)).trans hb3⟩, less_succ hlt HL.out⟩
    · obtain rfl : k = m.length := by omega
      have HOWN := Lib.hid hown
      clear hown
      go_wp2
      go_ret
      have hO := HOWN.out
      rw [List.take_length] at hO
      exact ⟨_, rfl, hO.row goodSen, hB⟩
end Go.Proofs.YtehkjnmnbplcoaaGreatDoor
