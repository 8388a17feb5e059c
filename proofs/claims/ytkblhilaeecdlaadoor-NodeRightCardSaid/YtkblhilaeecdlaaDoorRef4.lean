
import Derived.Test.YtkblhilaeecdlaaDoorRef3
namespace Go.Proofs.YtkblhilaeecdlaaDoor
open Go.RowKit Go.Bw

theorem _root_.Bw.come_succ {l : List Bw.PV} {k : Nat} (h : k < l.length) : Bw.come (l.take (k + 1)) = Bw.put (Bw.come (l.take k)) l[k] := by
  unfold Bw.come
  rw [take_succ_snoc h, List.foldl_append]; rfl
theorem _root_.Bw.mem_come {l : List Bw.PV} {x : Bw.PV} (h : x ∈ Bw.come l) : x ∈ l := by
  suffices hh : ∀ m, x ∈ l.foldl Bw.put m → x ∈ m ∨ x ∈ l by
    rcases hh [] h with h | h
    · simp at h
    · exact h
  clear h
  induction l with
  | nil => intro m h; exact .inl h
  | cons p r ih =>
    intro m h
    rcases ih _ h with h | h
    · rcases Bw.mem_put h with rfl | h
      · exact .inr (by simp)
      · exact .inl h
    · exact .inr (List.mem_cons_of_mem _ h)
theorem _root_.Bw.length_put (m : List Bw.PV) (p : Bw.PV) : (Bw.put m p).length ≤ m.length + 1 := by
  induction m with
  | nil => simp [Bw.put]
  | cons q r ih =>
    simp only [Bw.put]
    split
    · simp; omega
    · split <;> simp
theorem _root_.Bw.length_come (l : List Bw.PV) : (Bw.come l).length ≤ l.length := by
  suffices hh : ∀ m, (l.foldl Bw.put m).length ≤ m.length + l.length by have := hh []; simpa [Bw.come] using this
  induction l with
  | nil => intro m; simp
  | cons p r ih => intro m; have := ih (Bw.put m p); have := Bw.length_put m p; simp; omega

def RComeRel (l : List Bw.PV) (w : World) (v i : Value) (wr : World) : Prop :=
  ∃ k : Nat, k ≤ l.length ∧ i = .int .i64 k ∧ SPairsAt (fun k => w.heap.size ≤ k) wr v (Bw.come (l.take k)) ∧ Below w.heap.size w wr

set_option maxRecDepth 100000 in
set_option maxHeartbeats 400000 in
theorem rcome_any {ok : Nat → Prop} {l : List Bw.PV} {v : Value} {w : World} (hl : l.length ≤ 1048576) (hp : ∀ p ∈ l, p.1.length ≤ 1048576) (hr : SPairsAt ok w v l) :
    Calls Tryd.prog 12 #[v] w (Gives w fun q w' => SPairsAt (fun k => w.heap.size ≤ k) w' q (Bw.come l)) := by
  obtain ⟨A, c, rfl⟩ := hr.form
  have HL := Lib.hid hl
  have HR := Lib.hid hr
  have HP := Lib.hid hp
  have H0 : Hid (RComeRel l w (.slice none 0 0) (.int .i64 0) w) := Lib.hid ⟨0, Nat.zero_le _, rfl, RowAt.nil, Below.refl _ _⟩
  clear hl hr hp
  go_enter Tryd.func12, Tryd.ntmps12
  go_wp2_with fail
  go_loopw [3, 8] (RComeRel l w) (fun _ i _ => l.length - (intOf i).toNat)
  case atStart => exact H0.out
  case round =>
    obtain ⟨k, hk, rfl, hrow, hB⟩ := hrel
    by_cases hlt : k < l.length
    · obtain ⟨b, o, rfl, hob, c0, c1⟩ := sp_get HR.out (List.getElem?_eq_getElem hlt)
      have hbl := World.block_lt_of_cell? w _ c0
      dsimp only at hbl
      have d0 := (hB.cell (p := ⟨b, o + k * 2, none⟩) hbl).trans c0
      have d1 := (hB.cell (p := ⟨b, o + k * 2 + 1, none⟩) hbl).trans c1
      have hbl2 : b < wr.heap.size := Nat.lt_of_lt_of_le hbl hB.size
      have h0 : (0 : Int) ≤ (k : Int) := by omega
      have h1 : (k : Int) < (l.length : Int) := by omega
      have hsucc := Bw.come_succ hlt
      have hKq := HP.out l[k] (List.getElem_mem hlt)
      have hlc := Bw.length_come (l.take k)
      have hml : ∀ q ∈ Bw.come (l.take k), q.1.length ≤ 1048576 := fun q hq => HP.out q (List.mem_of_mem_take (Bw.mem_come hq))
      have hrs := Bw.rises_come (l.take k)
      generalize l[k] = q at *
      obtain ⟨qx, qy⟩ := q
      simp only [str] at d0 d1 hKq
      have CP := Lib.hid (fun W (hW : Below wr.heap.size wr W) => rput_any (py := qy) (by rw [List.length_take] at hlc; have := HL.out; omega) hKq hml (hrow.move goodSp (Moves.below hW)) hrs)
      have HS := Lib.hid hsucc
      have HBB := Lib.hid hB
      clear c0 c1 hB hsucc hlc hml hrs hrow
      go_wp2_with fail
      refine (CP.out _ (by (repeat (first | exact Below.refl _ _ | with_reducible assumption | refine Below.drew ?_ | refine b_drewN ?_ _ | (refine Below.alloc ?_ (by simp) _) | (refine Below.alloc ?_ (by simp; omega) _))))).mono ?_
      rintro e w1 ⟨q, rfl, hq, hb1⟩
      have HQ := Lib.hid hq
      have HB1 := Lib.hid hb1
      clear hq hb1
      go_wp2
      have hwr : Below wr.heap.size wr w1 := Below.trans (b := wr.alloc (.cells #[.string ⟨qx.toArray⟩, .string ⟨qy.toArray⟩] 76)) (by (repeat (first | exact Below.refl _ _ | with_reducible assumption | refine Below.drew ?_ | refine b_drewN ?_ _ | (refine Below.alloc ?_ (by simp) _) | (refine Below.alloc ?_ (by simp; omega) _)))) (HB1.out.mono (by simp))
      exact ⟨⟨k + 1, hlt, int_succ hlt HL.out, by rw [HS.out]; exact HQ.out.weaken goodSp (fun k hk => Nat.le_trans (Nat.le_trans HBB.out.size (by simp)) hk), HBB.out.trans (hwr.mono HBB.out.size)⟩, less_succ hlt HL.out⟩
    · obtain rfl : k = l.length := by omega
      rw [List.take_length] at hrow
      have HROW := Lib.hid hrow
      clear hrow
      go_wp2
      go_ret
      exact ⟨_, rfl, HROW.out, hB⟩

def IsRel (l m : List Bw.PV) (w : World) (i : Value) (wr : World) : Prop :=
  ∃ (k n : Nat), k ≤ m.length ∧ i = .int .i64 k ∧ l.take k = m.take k ∧ wr = w.drewN n

end Go.Proofs.YtkblhilaeecdlaaDoor
