/- What graft.Put visits and compares: with a meter. -/
import Derived.Test.YtehkjnmnbplcoaaGreatDoorGA
import Derived.Test.YtehkjnmnbplcoaaGreatDoorHigh
import Derived.Test.YtehkjnmnbplcoaaGreatDoorBound
import Derived.Test.YtehkjnmnbplcoaaGreatDoorLSame
namespace Go.Proofs.YtehkjnmnbplcoaaGreatDoor
open Go.RowKit Go.Bw

theorem _root_.Bw.costO_way (h : Nat) (k : Bw.Bytes) : ∀ (f level : Nat) (o : Option Bw.N), Bw.costO f o h k level = ((Bw.wayO f o h level).2 + (Bw.costEnd (Bw.wayO f o h level).1 h k).1, (Bw.costEnd (Bw.wayO f o h level).1 h k).2)
  | f, level, none => by rw [Bw.costO_none, Bw.wayO_none]; rfl
  | f, level, some (.leaf g q) => by rw [Bw.costO_leaf, Bw.wayO_leaf]; simp [Bw.costEnd]
  | f, level, some (.bucket g t) => by rw [Bw.costO_bucket, Bw.wayO_bucket]; simp only [Bw.costEnd]; split <;> simp
  | 0, level, some (.branch m kids) => rfl
  | f + 1, level, some (.branch m kids) => by
    simp only [Bw.costO, Bw.wayO]
    rw [Bw.costO_way h k f (level + 1) (Bw.kidO m kids (Bw.chunkAt h level))]
    simp only [Prod.mk.injEq, and_true]
    omega

theorem entries_lay {t : List Nat} {m : List Bw.PV} (ht : ∀ x ∈ t, x < 18446744073709551616) (hm : MapOk m) : LayOk 0 13 (Bw.entries t m) where
  lv := rfl
  len := by rw [Bw.length_entries]; exact Nat.le_trans hm.len (by decide)
  bytes := hm.entries
  unlike := Bw.unlike_entries hm.rises
  res := ⟨0, fun e _ => by rw [Nat.pow_zero, Nat.mod_one]⟩
  hash := entries_hash ht

theorem olays_many {t : List Nat} {m : List Bw.PV} {o : Option Bw.N} (hm : MapOk m) (h : Bw.OLays 0 o (Bw.entries t m)) : manyO o = m.length := by
  rw [← Bw.length_entries t m]
  cases o with
  | none => rw [show Bw.entries t m = [] from h]; rfl
  | some n => exact Bw.lays_count h _ (Bw.unlike_entries hm.rises) fun _ => Iff.rfl

theorem gput_meter {t : List Nat} {m : List Bw.PV} {p : Bw.PV} {o : Option Bw.N} {v u1 u2 : Value} {M : Nat} {w : World} (ht : ∀ x ∈ t, x < 18446744073709551616) (hm : MapOk m) (hp : p.1.length ≤ 1048576 ∧ p.2.length ≤ 1048576)
    (hn : ONodeAt nt (fun k => some k ≠ some M) w v o) (hL : Bw.OLays 0 o (Bw.entries t m)) (h1 : BytesAt (fun k => some k ≠ some M) w u1 p.1) (h2 : BytesAt (fun k => some k ≠ some M) w u2 p.2) (hM : M < w.heap.size) (hM0 : 0 < M)
    (hme : MeterAt w (.pointer (some ⟨M, 0, none⟩)) (0, 0) (some M)) (hT : Tab w) :
    Calls Tryz.prog 11 #[v, .int .u64 (Bw.tabHash t p.1 : Nat), .agg #[u1, u2], .pointer (some ⟨M, 0, none⟩)] w fun e w' =>
      ∃ nv n, e = .returned (.tuple #[nv, .bool (!(Bw.get m p.1).isSome)]) ∧ NodeAt nt AllB w' nv n ∧ Bw.OLays 0 (some n) (Bw.entries t (Bw.put m p)) ∧ MeterAt w' (.pointer (some ⟨M, 0, none⟩)) (Bw.costO 13 o (Bw.tabHash t p.1) p.1 0) (some M) ∧ Turns w w' (some M) := by
  refine (gput_any (mb := some M) (c := (0, 0)) (l := Bw.entries t m) (mv := .pointer (some ⟨M, 0, none⟩)) ⟨rfl, hL, Bw.unlike_entries hm.rises, hm.entries, entries_hash ht, by rw [Bw.length_entries]; exact Nat.le_trans hm.len (by decide), fun e _ => by rw [Nat.pow_zero, Nat.mod_one, Nat.mod_one], fun e he hk => by rw [(Bw.mem_entries.1 he).2, hk], tabHash_lt ht _, hp.1, hp.2, hn, h1, h2, hme, (fun _ h => h), (fun _ h => h), (fun e => by injection e with e; omega), (fun k hk e => by injection e with e; omega), hT, by decide, by decide⟩).mono ?_
  rintro e w' ⟨nv, n, fr, rfl, hn', hl', hfr, hm', hT'⟩
  obtain rfl := fresh_get hfr
  refine ⟨nv, n, rfl, NodeAt.move (Moves.weaken fun _ _ _ => trivial) _ _ hn', hl'.congr fun e => (Bw.entries_put hm.rises e).symm, ?_, hT'⟩
  have e : costAt (0, 0) (Bw.costO 13 o (Bw.tabHash t p.1) p.1 0) = Bw.costO 13 o (Bw.tabHash t p.1) p.1 0 := by unfold costAt; rw [Nat.zero_add, Nat.zero_add]
  rw [e] at hm'
  exact hm'

theorem thinM (n : Bw.N) : n.fit → n.thin := by
  refine Bw.N.ind (P := fun n => n.fit → n.thin) ?_ ?_ ?_ n
  · intro h p _; trivial
  · intro h p _; trivial
  · intro m kids ih hf
    simp only [Bw.N.fit, Bw.N.fitL_iff] at hf
    simp only [Bw.N.thin, Bw.N.thinL_iff]
    exact ⟨hf.1, fun k hk => ih k hk (hf.2.2 k hk)⟩

theorem olays_slimM {t : List Nat} {m : List Bw.PV} {o : Option Bw.N} (ht : ∀ x ∈ t, x < 18446744073709551616) (hm : MapOk m) (hl : m.length ≤ 1000) (h : Bw.OLays 0 o (Bw.entries t m)) : ∀ n, o = some n → Slim n := by
  rintro n rfl
  have hu := Bw.unlike_entries (t := t) hm.rises
  obtain ⟨_, h2, h3⟩ := lays_visits h _ hu (fun _ => Iff.rfl) (by decide) ⟨0, fun _ _ => Nat.mod_one _⟩ (entries_hash ht)
  have h4 := Bw.lays_count h _ hu (fun _ => Iff.rfl)
  rw [Bw.length_entries] at h3 h4
  refine ⟨olays_fit hm h n rfl, fun x hx => Nat.le_trans (h2 x hx) (by decide), ?_⟩
  rw [vol_wtE, held_count, h4]
  omega

theorem olays_sameM {t : List Nat} {m : List Bw.PV} {a b : Option Bw.N} (ht : ∀ x ∈ t, x < 18446744073709551616) (hm : MapOk m) (ha : Bw.OLays 0 a (Bw.entries t m)) (hb : Bw.OLays 0 b (Bw.entries t m)) : sameB a b = true := by
  have h := Bw.absO_same (fun n e => thinM n (olays_fit hm ha n e)) (fun n e => thinM n (olays_fit hm hb n e)) ((olays_abs ht hm ha).symm.trans (olays_abs ht hm hb)) 0
  unfold sameB
  rw [h.1, h.2]
  simp

/-- of a put: how deep its way goes, what is there, and what it costs -/
structure PutCost (t : List Nat) (m : List Bw.PV) (o : Option Bw.N) (p : Bw.PV) (D cv cc : Nat) (x : Bw.X) : Prop where
  way : (Bw.wayO 13 o (Bw.tabHash t p.1) 0).2 = D
  there : Bw.absO (Bw.wayO 13 o (Bw.tabHash t p.1) 0).1 = x
  cost : Bw.costO 13 o (Bw.tabHash t p.1) p.1 0 = (D + cv, cc)
  ends : EndCost x.kind x.hash (Bw.tabHash t p.1) (cv, cc)
  deep : D ≤ 13
  bound : ∀ L : Nat, (m.length + 1) ^ 6 < 2 ^ L → cv ≤ L

theorem put_cost {t : List Nat} {m : List Bw.PV} {o : Option Bw.N} (ht : ∀ x ∈ t, x < 18446744073709551616) (hm : MapOk m) (h : Bw.OLays 0 o (Bw.entries t m)) (p : Bw.PV) : ∃ D cv cc x, PutCost t m o p D cv cc x := by
  obtain ⟨d', f', l', hL', hO', hnb⟩ := fway_lays (Bw.tabHash t p.1) 13 0 o _ (entries_lay ht hm) h
  have hfx : ∀ n, (Bw.wayO 13 o (Bw.tabHash t p.1) 0).1 = some n → n.fit := fun n e => hL'.fit (e ▸ hO')
  refine ⟨_, (Bw.costEnd (Bw.wayO 13 o (Bw.tabHash t p.1) 0).1 (Bw.tabHash t p.1) p.1).1, (Bw.costEnd (Bw.wayO 13 o (Bw.tabHash t p.1) 0).1 (Bw.tabHash t p.1) p.1).2, _, rfl, rfl, Bw.costO_way _ _ _ _ _, ?_, wayO_le _ 13 0 _, fun L hL => ?_⟩
  · exact costEnd_is hO' hnb _ _
  · exact costEnd_bound hfx _ _ (Nat.le_trans (way_count _ 13 0 _) (Nat.le_of_eq (olays_many hm h))) hL
end Go.Proofs.YtehkjnmnbplcoaaGreatDoor
