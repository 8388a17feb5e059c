
import Derived.Test.YtkblhilaeecdlaaDoorLaw2
import Derived.Test.YtkblhilaeecdlaaDoorRef5
import Derived.Test.YtkblhilaeecdlaaDoorBwAll
namespace Go.Proofs.YtkblhilaeecdlaaDoor
open Go.RowKit Go.Bw

def encH (n : Nat) : Value := .int .u64 (n : Nat)
abbrev hashK : Knd Nat := immK encH
theorem goodHash : _root_.Go.Bw.Good 1 hashK := Good.imm (fun _ => rfl)
abbrev HashesAt := RowAt 1 hashK

theorem infoU : (Tryd.prog.info? 27).map (fun i => (i.zero, i.size, i.bytes)) = some (some (.int .u64 0), 1, 8) := by kernel_rfl

theorem wp_happ {rest : List Oper} {a : Act} {Q : Exit → Act → World → Prop} {o : Oper} {ops : Array Oper} {w0 w : World} {s x : Nat} {v : Value} {xs ys : List Nat} {base m c : Nat} {ad : Addr} {ok2 : Nat → Prop}
    (hgd : o.guard = none) (ho : o.op = .call { callee := .builtin .append, args := #[.tmp s, .tmp x], argTypes := #[60, 60] })
    (hs : a.eval (.tmp s) = v) (hown : OwnAt 27 1 hashK (fun k => w0.heap.size ≤ k) w base v xs)
    (hx : a.eval (.tmp x) = .slice (some ad) m c) (hm : ys.length = m) (hr : HashesAt ok2 w (.slice (some ad) m c) ys) (hw : w0.heap.size ≤ w.heap.size) (hl : xs.length + m ≤ 8796093022208) (hbase : base ≤ w.heap.size)
    (h : ∀ v' w', OwnAt 27 1 hashK (fun k => w0.heap.size ≤ k) w' base v' (xs ++ ys) → Below base w w' → wpList Tryd.prog ops Q rest (a.put o.dst v') w') :
    wpList Tryd.prog ops Q (o :: rest) a w := by
  obtain ⟨i0, hi, hz0, hz1, hz2⟩ := info_parts infoU
  exact wp_app goodHash hgd (.tmp s) (.tmp x) 60 ho base 27 i0 _ 8 Tryd.underlying60 hi hz0 hz1 hz2 rfl (by decide) v xs hs hown ad m c ys (ys.map encH) hx hm hr.news (Reps.imm encH _ _ ys) (fun k hk => Nat.le_trans hw hk) (by omega) (by decide) hbase
    fun v' w' h1 h2 _ => h v' w' h1 ((Below.refl base w).grown h2 hbase (fun k hk => (hown.lt k hk).1))

theorem _root_.Bw.X.hashesL_append (a b : List Bw.X) : Bw.X.hashesL (a ++ b) = Bw.X.hashesL a ++ Bw.X.hashesL b := by
  induction a with
  | nil => rfl
  | cons k r ih => simp [Bw.X.hashesL, ih]

theorem _root_.Bw.hashes_ne (n : Bw.N) : n.wf → n.abs.hashes ≠ [] := by
  refine Bw.N.ind (P := fun n => n.wf → n.abs.hashes ≠ []) ?_ ?_ ?_ n
  · intro h p _; simp [Bw.N.abs, Bw.X.hashes]
  · intro h p _; simp [Bw.N.abs, Bw.X.hashes]
  · intro m kids ih hw
    simp only [Bw.N.wf] at hw
    obtain ⟨hne, _, hwl⟩ := hw
    match kids, hne with
    | k :: r, _ =>
      simp only [Bw.N.wfL] at hwl
      simp only [Bw.N.abs, Bw.X.hashes, if_true, Bw.N.absL, Bw.X.hashesL]
      intro e
      exact ih k (by simp) hwl.1 (List.append_eq_nil_iff.1 e).1

def HashRel (kids : List Bw.X) (w : World) (v i : Value) (wr : World) : Prop :=
  ∃ j : Nat, j ≤ kids.length ∧ i = .int .i64 (j : Nat) ∧ OwnAt 27 1 hashK (fun k => w.heap.size ≤ k) wr w.heap.size v (Bw.X.hashesL (kids.take j)) ∧ Below w.heap.size w wr

def HashAns (ok : Nat → Prop) (n : Bw.N) : Prop := ∀ (cs : List Value) (w : World), xK ok w n.abs cs → n.wf → n.abs.hashes.length ≤ 8796093022208 →
    Calls Tryd.prog 19 #[.agg cs.toArray] w (Gives w fun r w' => HashesAt (fun k => w.heap.size ≤ k) w' r n.abs.hashes)

set_option maxRecDepth 100000 in
set_option maxHeartbeats 1000000 in
theorem hashes_flat (ok : Nat → Prop) (n : Bw.N) (k h : Nat) (ps : List Bw.PV) (hn : n.abs = .mk k h ps [] []) (hk : k ≠ 3) : HashAns ok n := by
  intro cs w hx hw hl
  have hh : n.abs.hashes = [h] := by rw [hn]; simp [Bw.X.hashes, hk]
  rw [hh]
  rw [hn, xK_iff] at hx
  obtain ⟨vp, vs, vk, rfl, h1, h2, h3⟩ := hx
  obtain ⟨A1, c1, rfl⟩ := h1.form
  obtain ⟨A2, c2, rfl⟩ := h2.form
  obtain ⟨A3, c3, rfl⟩ := h3.form
  have hk3 : ((k : Int) == 3) = false := by rw [beq_eq_false_iff_ne]; omega
  clear h1 h2 h3 hn hh hw hl
  go_enter Tryd.func19, Tryd.ntmps19
  go_wp2
  go_ret
  refine ⟨_, rfl, RowAt.single goodHash (cs := #[.int .u64 (h : Nat)]) (t := 27) (fr := (0, 0)) rfl (by omega) ?_, by (repeat (first | exact Below.refl _ _ | with_reducible assumption | refine Below.drew ?_ | refine b_drewN ?_ _ | (refine Below.alloc ?_ (by simp) _) | (refine Below.alloc ?_ (by simp; omega) _)))⟩
  have := heap_alloc_new (w.alloc (.cells #[.int .i64 (k : Nat), .int .u64 (h : Nat), .slice A1 ps.length c1, .slice A2 0 c2, .slice A3 0 c3] 32)) (.cells #[.int .u64 (h : Nat)] 27)
  rwa [World.size_alloc] at this

set_option maxRecDepth 100000 in
set_option maxHeartbeats 1000000 in
theorem hashes_branch (ok : Nat → Prop) (m : Nat) (kids : List Bw.N) (ih : ∀ k ∈ kids, HashAns ok k) : HashAns ok (.branch m kids) := by
  intro cs w hx hw hl
  simp only [Bw.N.abs] at hx
  rw [xK_iff] at hx
  obtain ⟨vp, vs, vk, rfl, h1, h2, h3⟩ := hx
  obtain ⟨A1, c1, rfl⟩ := h1.form
  obtain ⟨A2, c2, rfl⟩ := h2.form
  obtain ⟨A3, c3, rfl⟩ := h3.form
  have hll : (Bw.N.absL kids).length = kids.length := by rw [Bw.N.absL_eq, List.length_map]
  have HMX : Hid (kids.length ≤ maxLen) := Lib.hid (by rw [← hll]; exact Nat.le_trans h3.cap.2.1 h3.cap.2.2)
  rw [hll] at h3 ⊢
  rw [show ((3 : Nat) : Int) = 3 from rfl, show ((0 : Nat) : Int) = 0 from rfl]
  have HK := Lib.hid h3
  have HIH := Lib.hid ih
  simp only [Bw.N.wf] at hw
  have HWF := Lib.hid ((Bw.N.wfL_iff _).1 hw.2.2)
  have hH : (Bw.N.branch m kids).abs.hashes = Bw.X.hashesL (Bw.N.absL kids) := by simp [Bw.N.abs, Bw.X.hashes]
  rw [hH] at hl ⊢
  have HL := Lib.hid hl
  generalize (Bw.bitsOf m) = set at *
  have hB0 : Below w.heap.size w (w.alloc (.cells #[.int .i64 3, .int .u64 0, .slice A1 0 c1, .slice A2 set.length c2, .slice A3 kids.length c3] 32)) := by (repeat (first | exact Below.refl _ _ | with_reducible assumption | refine Below.drew ?_ | refine b_drewN ?_ _ | (refine Below.alloc ?_ (by simp) _) | (refine Below.alloc ?_ (by simp; omega) _)))
  have H0 : Hid (HashRel (Bw.N.absL kids) w (.slice none 0 0) (.int .i64 0) (w.alloc (.cells #[.int .i64 3, .int .u64 0, .slice A1 0 c1, .slice A2 set.length c2, .slice A3 kids.length c3] 32))) := Lib.hid ⟨0, Nat.zero_le _, rfl, OwnAt.nil, hB0⟩
  clear h1 h2 h3 hH hl hw hB0 ih
  go_enter Tryd.func19, Tryd.ntmps19
  go_wp2_with fail
  go_loopw [3, 15] (HashRel (Bw.N.absL kids) w) (fun _ i _ => kids.length - (intOf i).toNat)
  case atStart => exact H0.out
  case round =>
    obtain ⟨j, hj, rfl, hown, hB⟩ := hrel
    rw [hll] at hj
    by_cases hlt : j < kids.length
    · have hxj : (Bw.N.absL kids)[j]? = some (kids[j]).abs := by rw [Bw.N.absL_eq, List.getElem?_map, List.getElem?_eq_getElem hlt]; rfl
      obtain ⟨b, o, cs, rfl, hy, hcells⟩ := HK.out.get hxj
      have hmem : kids[j] ∈ kids := List.getElem_mem hlt
      have hs : Bw.X.hashesL ((Bw.N.absL kids).take (j + 1)) = Bw.X.hashesL ((Bw.N.absL kids).take j) ++ (kids[j]).abs.hashes := by
        have hlt2 : j < (Bw.N.absL kids).length := by rw [hll]; exact hlt
        rw [take_succ_snoc hlt2, Bw.X.hashesL_append, (List.getElem?_eq_some_iff.1 hxj).2]
        simp [Bw.X.hashesL]
      have hlen : (Bw.X.hashesL ((Bw.N.absL kids).take j)).length + (kids[j]).abs.hashes.length ≤ 8796093022208 := by
        rw [← List.length_append, ← hs]
        have h1 := HL.out
        have h2 : Bw.X.hashesL (Bw.N.absL kids) = Bw.X.hashesL ((Bw.N.absL kids).take (j + 1)) ++ Bw.X.hashesL ((Bw.N.absL kids).drop (j + 1)) := by rw [← Bw.X.hashesL_append, List.take_append_drop]
        rw [h2, List.length_append] at h1
        omega
      have hne := Bw.hashes_ne kids[j] (HWF.out _ hmem)
      have CI := fun W (hW : Below w.heap.size w W) => HIH.out _ hmem cs W (XAt.move (Moves.below hW) _ _ hy) (HWF.out _ hmem) (by omega)
      generalize (kids[j]).abs.hashes = hs2 at *
      generalize (kids[j]).abs = y at *
      obtain ⟨yk, yh, yp, ys, yy⟩ := y
      rw [xK_iff] at hy
      obtain ⟨yvp, yvs, yvk, rfl, h1, h2, h3⟩ := hy
      obtain ⟨B1, e1, rfl⟩ := h1.form
      obtain ⟨B2, e2, rfl⟩ := h2.form
      obtain ⟨B3, e3, rfl⟩ := h3.form
      have c0 := (hcells 0 _ rfl).2; have c1 := (hcells 1 _ rfl).2; have c2 := (hcells 2 _ rfl).2; have c3 := (hcells 3 _ rfl).2; have c4 := (hcells 4 _ rfl).2
      have hbl := World.block_lt_of_cell? w _ c0
      dsimp only at hbl
      have d0 := (hB.cell (p := ⟨b, o + (j * 5 + 0), none⟩) hbl).trans c0
      have d1 := (hB.cell (p := ⟨b, o + (j * 5 + 1), none⟩) hbl).trans c1
      have d2 := (hB.cell (p := ⟨b, o + (j * 5 + 2), none⟩) hbl).trans c2
      have d3 := (hB.cell (p := ⟨b, o + (j * 5 + 3), none⟩) hbl).trans c3
      have d4 := (hB.cell (p := ⟨b, o + (j * 5 + 4), none⟩) hbl).trans c4
      simp only [Nat.add_zero, ← Nat.add_assoc] at d0 d1 d2 d3 d4
      have hbl2 : b < wr.heap.size := Nat.lt_of_lt_of_le hbl hB.size
      have h0 : (0 : Int) ≤ (j : Int) := by omega
      have h1' : (j : Int) < (kids.length : Int) := by omega
      have HCI := Lib.hid CI
      have HB := Lib.hid hB
      have HOWN := Lib.hid hown
      have HS := Lib.hid hs
      have HLEN := Lib.hid hlen
      have HNE := Lib.hid hne
      clear h1 h2 h3 c0 c1 c2 c3 c4 hcells CI hs hmem hB hown hlen hne hxj
      go_wp2_with fail
      refine (HCI.out _ (HB.out.trans (Below.mono (by (repeat (first | exact Below.refl _ _ | with_reducible assumption | refine Below.drew ?_ | refine b_drewN ?_ _ | (refine Below.alloc ?_ (by simp) _) | (refine Below.alloc ?_ (by simp; omega) _)))) HB.out.size))).mono ?_
      rintro e w2 ⟨r, rfl, hr, hb2⟩
      have hb3 : Below wr.heap.size wr w2 := Below.trans (b := wr.alloc (.cells #[.int .i64 (yk : Nat), .int .u64 (yh : Nat), .slice B1 yp.length e1, .slice B2 ys.length e2, .slice B3 yy.length e3] 32)) (by (repeat (first | exact Below.refl _ _ | with_reducible assumption | refine Below.drew ?_ | refine b_drewN ?_ _ | (refine Below.alloc ?_ (by simp) _) | (refine Below.alloc ?_ (by simp; omega) _)))) (hb2.mono (by simp))
      have HB2 := Lib.hid (HB.out.trans (hb3.mono HB.out.size))
      have HO2 := Lib.hid (HOWN.out.move (ok' := fun k => w.heap.size ≤ k) goodHash (Moves.below hb3))
      obtain ⟨AR, cr, rfl⟩ := hr.form
      obtain ⟨ad, rfl⟩ : ∃ ad, AR = some ad := by
        cases AR with
        | some ad => exact ⟨ad, rfl⟩
        | none =>
          exfalso
          have h2 := List.length_pos_iff.2 HNE.out
          obtain ⟨A', c', e, q1, _, q2, _⟩ := hr
          injection e with e1 _ e3
          have := q2 e1.symm
          omega
      have HR := Lib.hid hr
      clear hb2 hb3 hr
      go_wp2_with (at_builtin; go_loud (refine wp_happ rfl rfl rfl HO2.out rfl rfl HR.out HB2.out.size HLEN.out HB2.out.size ?_; intro v3 w3 hown3 hb3))
      exact ⟨⟨j + 1, by rw [hll]; exact hlt, int_succM hlt HMX.out, by rw [HS.out]; exact hown3, HB2.out.trans hb3⟩, less_succM hlt HMX.out⟩
    · obtain rfl : j = kids.length := by omega
      rw [show (Bw.N.absL kids).take kids.length = Bw.N.absL kids by rw [← hll, List.take_length]] at hown
      have HOWN := Lib.hid hown
      clear hown
      go_wp2
      go_ret
      exact ⟨_, rfl, HOWN.out.row goodHash, hB⟩

theorem hashes_any (ok : Nat → Prop) (n : Bw.N) : HashAns ok n :=
  Bw.N.ind (P := HashAns ok) (fun h p => hashes_flat ok _ 1 h [p] rfl (by decide)) (fun h t => hashes_flat ok _ 2 h t.list rfl (by decide)) (hashes_branch ok) n
end Go.Proofs.YtkblhilaeecdlaaDoor
