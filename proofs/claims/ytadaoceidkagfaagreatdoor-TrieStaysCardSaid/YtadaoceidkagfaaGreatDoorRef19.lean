
import Derived.Test.YtadaoceidkagfaaGreatDoorRefA
import Derived.Test.YtadaoceidkagfaaGreatDoorBwG
import Derived.Deep.RegionHeld3
import Derived.Deep.RegionLaw
import Derived.Deep.QuietTactic
import Derived.BigQuiet
namespace Go.Proofs.YtadaoceidkagfaaGreatDoor
open Go.RowKit Go.Bw
theorem _root_.Bw.get_at {m : List Bw.PV} {k : Bw.Bytes} {i : Nat} {q : Bw.PV} (h : ∀ x ∈ m.take i, x.1 ≠ k) (hi : m[i]? = some q) (hq : q.1 = k) : Bw.get m k = some q.2 := by
  induction m generalizing i with
  | nil => simp at hi
  | cons x r ih =>
    cases i with
    | zero =>
      simp only [List.getElem?_cons_zero, Option.some.injEq] at hi
      subst hi
      simp only [Bw.get]; rw [if_pos hq]
    | succ i =>
      simp only [Bw.get]
      rw [if_neg (h x (by simp))]
      exact ih (i := i) (fun y hy => h y (by simp [hy])) (by simpa using hi)
theorem _root_.Bw.get_none {m : List Bw.PV} {k : Bw.Bytes} (h : ∀ x ∈ m, x.1 ≠ k) : Bw.get m k = none := by
  induction m with
  | nil => rfl
  | cons x r ih =>
    simp only [Bw.get]
    rw [if_neg (h x (by simp))]
    exact ih fun y hy => h y (by simp [hy])
def GetRel (m : List Bw.PV) (key : Bw.Bytes) (w : World) (i : Value) (wr : World) : Prop :=
  ∃ k : Nat, k <= m.length /\ i = .int .i64 k /\ (∀ x ∈ m.take k, x.1 ≠ key) /\ Below w.heap.size w wr
def getV (o : Option Bw.Bytes) : Value := .tuple #[str (o.getD []), .bool o.isSome]
set_option maxRecDepth 100000 in
set_option maxHeartbeats 1000000 in
theorem rget_any {ok : Nat -> Prop} {m : List Bw.PV} {key : Bw.Bytes} {v : Value} {w : World} (hl : m.length <= 1048576) (hr : SPairsAt ok w v m) :
    Calls Tryz.prog 17 #[v, str key] w fun e w' => e = .returned (getV (Bw.get m key)) /\ Below w.heap.size w w' := by
  obtain ⟨A, c, rfl⟩ := hr.form
  have HL := Lib.hid hl
  have HR := Lib.hid hr
  have H0 : Hid (GetRel m key w (.int .i64 0) w) := Lib.hid ⟨0, Nat.zero_le _, rfl, by simp, Below.refl _ _⟩
  clear hl hr
  simp only [str]
  go_enter Tryz.func17, Tryz.ntmps17
  go_wp2_with fail
  go_loopw [10] (GetRel m key w) (fun i _ => m.length - (intOf i).toNat)
  case atStart => exact H0.out
  case round =>
    obtain ⟨k, hk, rfl, hno, hB⟩ := hrel
    by_cases hlt : k < m.length
    · obtain ⟨b, o, rfl, hob, c0, c1⟩ := sp_get HR.out (List.getElem?_eq_getElem hlt)
      have hbl := World.block_lt_of_cell? w _ c0
      dsimp only at hbl
      have d0 := (hB.cell (p := ⟨b, o + k * 2, none⟩) hbl).trans c0
      have d1 := (hB.cell (p := ⟨b, o + k * 2 + 1, none⟩) hbl).trans c1
      have hbl2 : b < wr.heap.size := Nat.lt_of_lt_of_le hbl hB.size
      have h0 : (0 : Int) <= (k : Int) := by omega
      have h1 : (k : Int) < (m.length : Int) := by omega
      have hat : m[k]? = some m[k] := List.getElem?_eq_getElem hlt
      have hsn := take_succ_snoc hlt
      generalize m[k] = q at *
      obtain ⟨qx, qy⟩ := q
      simp only [str] at d0 d1
      have HBB := Lib.hid hB
      have HNO := Lib.hid hno
      have HAT := Lib.hid hat
      have HSN := Lib.hid hsn
      clear c0 c1 hB hno hat hsn
      have hbq : Below wr.heap.size wr (wr.alloc (.cells #[.string ⟨qx.toArray⟩, .string ⟨qy.toArray⟩] 55)) := by exact gB3
      have HBQ := Lib.hid (HBB.out.trans (hbq.mono HBB.out.size))
      clear hbq
      by_cases hx : qx = key
      · have HG := Lib.hid (Bw.get_at HNO.out HAT.out hx)
        have hxb : (qx == key) = true := beq_iff_eq.2 hx
        clear hx
        go_wp2
        go_ret2
        exact ⟨by rw [HG.out]; rfl, HBQ.out⟩
      · have hxb : (qx == key) = false := beq_eq_false_iff_ne.2 hx
        have HX := Lib.hid hx
        clear hx
        go_wp2
        exact ⟨⟨k + 1, hlt, int_succ hlt HL.out, by rw [HSN.out]; intro x hx; rcases List.mem_append.1 hx with hx | hx; exact HNO.out x hx; simp only [List.mem_singleton] at hx; subst hx; exact HX.out, HBQ.out⟩, less_succ hlt HL.out⟩
    · obtain rfl : k = m.length := by omega
      rw [List.take_length] at hno
      have HG := Lib.hid (Bw.get_none hno)
      have HB := Lib.hid hB
      clear hno hB
      go_wp2
      go_ret2
      exact ⟨by rw [HG.out]; rfl, HB.out⟩
def _root_.Bw.tabHash (t : List Nat) (k : Bw.Bytes) : Nat := t.getD ((k.length + (k.map UInt8.toNat).sum) % t.length) 0
abbrev natK64 : Knd Nat := immK fun n : Nat => .int .u64 (n : Nat)
theorem goodNat64 : _root_.Go.Bw.Good 1 natK64 := Good.imm (fun _ => rfl)
abbrev senK : Knd Bw.En := prK natK64 spK
theorem goodSen : _root_.Go.Bw.Good 3 senK := goodNat64.pr goodSp
abbrev SensAt := RowAt 3 senK
theorem senK_open {ok : Nat -> Prop} {w : World} {e : Bw.En} {cs : List Value} (h : senK ok w e cs) : cs = [.int .u64 (e.1 : Nat), str e.2.1, str e.2.2] := by
  obtain ⟨a, b, rfl, rfl, h2⟩ := h
  obtain rfl := spK_open h2
  rfl
theorem senK_mk {ok : Nat -> Prop} {w : World} {e : Bw.En} : senK ok w e [.int .u64 (e.1 : Nat), str e.2.1, str e.2.2] := ⟨[.int .u64 (e.1 : Nat)], [str e.2.1, str e.2.2], rfl, rfl, spK_mk⟩
theorem sen_get {ok : Nat -> Prop} {w : World} {A : Option Addr} {n c j : Nat} {xs : List Bw.En} {e : Bw.En} (h : SensAt ok w (.slice A n c) xs) (hj : xs[j]? = some e) :
    ∃ b o, A = some ⟨b, o, none⟩ /\ ok b /\ w.cell? ⟨b, o + j * 3, none⟩ = some (.int .u64 (e.1 : Nat)) /\ w.cell? ⟨b, o + j * 3 + 1, none⟩ = some (str e.2.1) /\ w.cell? ⟨b, o + j * 3 + 2, none⟩ = some (str e.2.2) := by
  obtain ⟨b, o, cs, rfl, hx, hc⟩ := h.get hj
  obtain rfl := senK_open hx
  exact ⟨b, o, rfl, (hc 0 _ rfl).1, (hc 0 _ rfl).2, (hc 1 _ rfl).2, (hc 2 _ rfl).2⟩
theorem infoE : (Tryz.prog.info? 94).map (fun i => (i.zero, i.size, i.bytes)) = some (some (.agg #[.int .u64 0, .string ⟨#[]⟩, .string ⟨#[]⟩]), 3, 40) := by kernel_rfl
def _root_.Bw.entries (t : List Nat) (m : List Bw.PV) : List Bw.En := m.map fun p => (Bw.tabHash t p.1, p)
end Go.Proofs.YtadaoceidkagfaaGreatDoor
