
import Derived.Test.YtadaoceidkagfaaGreatDoorTurn
namespace Go.Proofs.YtadaoceidkagfaaGreatDoor
open Go.RowKit Go.Bw
theorem treeAt_some {ok : Nat -> Prop} {w : World} {v : Value} {t : Bw.T} (h : TreeAt ok w v t) (hne : t ≠ .nil) : ∃ b, v = .pointer (some ⟨b, 0, none⟩) := by
  cases t with
  | nil => exact absurd rfl hne
  | node l p r =>
    obtain ⟨b, _, _, _, _, rfl, _⟩ := treeAt_open h
    exact ⟨b, rfl⟩
set_option maxRecDepth 100000 in
set_option maxHeartbeats 1000000 in
theorem even_any {ok : Nat -> Prop} {l r : Bw.T} {p : Bw.PV} {lv rv u v : Value} {w : World} (hl : TreeAt ok w lv l) (hr : TreeAt ok w rv r) (hu : BytesAt ok w u p.1) (hv : BytesAt ok w v p.2) (hok : ∀ k, w.heap.size <= k -> ok k) (hf : Bw.Fair l r) (hn : l.size + r.size <= 1048575) :
    Calls Tryz.prog 123 #[lv, .agg #[u, v], rv] w (Gives w fun q w' => TreeAt ok w' q (Bw.T.evened l p r)) := by
  obtain ⟨A1, rfl⟩ := hl.form
  obtain ⟨A2, rfl⟩ := hr.form
  obtain ⟨U, cu, rfl⟩ := hu.form
  obtain ⟨V, cv, rfl⟩ := hv.form
  obtain ⟨wb, hwb⟩ : ∃ wb, w.alloc (.cells #[.slice U p.1.length cu, .slice V p.2.length cv] 62) = wb := ⟨_, rfl⟩
  have hB : Below w.heap.size w wb := by rw [<- hwb]; exact gB1
  have hBW : ∀ W, Below wb.heap.size wb W -> Below w.heap.size w W := fun W hW => hB.trans (hW.mono hB.size)
  have p0 : wb.cell? ⟨w.heap.size, 0, none⟩ = some (.slice U p.1.length cu) := by rw [<- hwb]; exact cell_new w 0 _ _ 0 _ rfl
  have p1 : wb.cell? ⟨w.heap.size, 1, none⟩ = some (.slice V p.2.length cv) := by rw [<- hwb]; exact cell_new w 0 _ _ 1 _ rfl
  have CL := Lib.hid (fun (W : World) (hW : Below wb.heap.size wb W) => size_any (hl.move (Moves.below (hBW W hW))))
  have CR := Lib.hid (fun (W : World) (hW : Below wb.heap.size wb W) => size_any (hr.move (Moves.below (hBW W hW))))
  have CE := Lib.hid (fun (W : World) => weven_b l.size r.size W (by omega) (by omega))
  have HWB := Lib.hid hwb
  have HB := Lib.hid hB
  unfold Bw.T.evened
  cases he : Bw.evenB l.size r.size with
  | true =>
    rw [he] at CE
    rw [if_pos rfl]
    have CN := Lib.hid (fun (W : World) (hW : Below wb.heap.size wb W) => node_any (hl.move (Moves.below (hBW W hW))) (hr.move (Moves.below (hBW W hW))) (hu.move goodByte (Moves.below (hBW W hW))) (hv.move goodByte (Moves.below (hBW W hW))) (fun k hk => hok k (Nat.le_trans (hBW W hW).size hk)) (by omega))
    generalize l.size = sl at *
    generalize r.size = sr at *
    clear hl hr hu hv hok hf hn hwb hB hBW he
    go_enter Tryz.func123, Tryz.ntmps123
    go_wp2_with fail
    rw [HWB.out]
    go_wp2_with (first
    | (go_at_call 56; first | ((with_reducible refine (CL.out _ (by exact gB2)).mono ?_); rintro e w' ⟨rfl, rfl⟩) | ((with_reducible refine (CR.out _ (by exact gB2)).mono ?_); rintro e w' ⟨rfl, rfl⟩))
    | (go_at_call 57; (with_reducible refine (CE.out _).mono ?_); rintro e w' ⟨rfl, rfl⟩)
    | (go_at_call 129; (with_reducible refine (CN.out _ (by exact gB2)).mono ?_); rintro e w1 ⟨y1, rfl, hy1, hb1⟩; obtain ⟨Y1, rfl⟩ := hy1.form; have HY := Lib.hid hy1; have HB1 := Lib.hid hb1; clear hy1 hb1))
    go_ret
    exact ⟨_, rfl, HY.out, HB.out.trans (HB1.out.mono HB.out.size)⟩
  | false =>
    rw [he] at CE
    rw [if_neg (by simp)]
    by_cases hlt : l.size < r.size
    · rw [if_pos hlt, Bw.T.orFrom_ne (Bw.T.turnL_ne p hf.2.1 he hlt (hf.2.2.1 hlt))]
      have HNE := Lib.hid (Bw.T.turnL_ne p hf.2.1 he hlt (hf.2.2.1 hlt))
      have hrn : r ≠ .nil := fun e => by subst e; simp [Bw.T.size] at hlt
      have CT := Lib.hid (fun (W : World) (hW : Below wb.heap.size wb W) => turnL_any (hl.move (Moves.below (hBW W hW))) (hr.move (Moves.below (hBW W hW))) hrn (hu.move goodByte (Moves.below (hBW W hW))) (hv.move goodByte (Moves.below (hBW W hW))) (fun k hk => hok k (Nat.le_trans (hBW W hW).size hk)) (by omega))
      generalize Bw.T.turnL l p r = t at *
      generalize l.size = sl at *
      generalize r.size = sr at *
      clear hl hr hu hv hok hf hn hwb hB hBW he hrn
      go_enter Tryz.func123, Tryz.ntmps123
      go_wp2_with fail
      rw [HWB.out]
      go_wp2_with (first
    | (go_at_call 56; first | ((with_reducible refine (CL.out _ (by exact gB2)).mono ?_); rintro e w' ⟨rfl, rfl⟩) | ((with_reducible refine (CR.out _ (by exact gB2)).mono ?_); rintro e w' ⟨rfl, rfl⟩))
    | (go_at_call 57; (with_reducible refine (CE.out _).mono ?_); rintro e w' ⟨rfl, rfl⟩)
    | (go_at_call 150; (with_reducible refine (CT.out _ (by exact gB2)).mono ?_); rintro e w1 ⟨y1, rfl, hy1, hb1⟩; obtain ⟨Y1, rfl⟩ := treeAt_some hy1 HNE.out; have HY := Lib.hid hy1; have HB1 := Lib.hid hb1; clear hy1 hb1))
      go_ret
      exact ⟨_, rfl, HY.out, HB.out.trans (HB1.out.mono HB.out.size)⟩
    · rw [if_neg hlt]
      have hle : r.size <= l.size := by omega
      have HNE := Lib.hid (Bw.T.turnR_ne p hf.1 he hle (hf.2.2.2 hle))
      rw [Bw.T.orFrom_ne HNE.out]
      have hln : l ≠ .nil := fun e => by
        subst e
        have h0 : r.size = 0 := by simp only [Bw.T.size] at hle; omega
        rw [h0] at he
        simp [Bw.T.size, Bw.evenB] at he
      have CT := Lib.hid (fun (W : World) (hW : Below wb.heap.size wb W) => turnR_any (hr.move (Moves.below (hBW W hW))) (hl.move (Moves.below (hBW W hW))) hln (hu.move goodByte (Moves.below (hBW W hW))) (hv.move goodByte (Moves.below (hBW W hW))) (fun k hk => hok k (Nat.le_trans (hBW W hW).size hk)) (by omega))
      generalize Bw.T.turnR r p l = t at *
      generalize l.size = sl at *
      generalize r.size = sr at *
      clear hl hr hu hv hok hf hn hwb hB hBW he hle hln
      go_enter Tryz.func123, Tryz.ntmps123
      go_wp2_with fail
      rw [HWB.out]
      go_wp2_with (first
    | (go_at_call 56; first | ((with_reducible refine (CL.out _ (by exact gB2)).mono ?_); rintro e w' ⟨rfl, rfl⟩) | ((with_reducible refine (CR.out _ (by exact gB2)).mono ?_); rintro e w' ⟨rfl, rfl⟩))
    | (go_at_call 57; (with_reducible refine (CE.out _).mono ?_); rintro e w' ⟨rfl, rfl⟩)
    | (go_at_call 151; (with_reducible refine (CT.out _ (by exact gB2)).mono ?_); rintro e w1 ⟨y1, rfl, hy1, hb1⟩; obtain ⟨Y1, rfl⟩ := treeAt_some hy1 HNE.out; have HY := Lib.hid hy1; have HB1 := Lib.hid hb1; clear hy1 hb1))
      go_ret
      exact ⟨_, rfl, HY.out, HB.out.trans (HB1.out.mono HB.out.size)⟩
end Go.Proofs.YtadaoceidkagfaaGreatDoor
