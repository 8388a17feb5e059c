/- What the library's byte entries tell of rows of bytes in memory. Over any program. -/
import Derived.Test.YtkblhilaeecdlaaBwMem
import Derived.Lib.UnsafeStr
import Derived.Lib.Bytealg
import Derived.Laws.IdiomStrings
import Derived.Laws.BytesArg
namespace Go.Bw
open Go.RowKit

theorem RowAt.byteCells {ok : Nat → Prop} {w : World} {ad : Addr} {n c : Nat} {l : Bw.Bytes} (h : BytesAt ok w (.slice (some ad) n c) l) : ∀ j x, l[j]? = some x → w.cell? (ad.add j) = some (.int .u8 x.toNat) := by
  intro j x hj
  exact RowAt.news h j (encB x) (by rw [List.getElem?_map, hj]; rfl)

theorem run_loadBytesE {P : Program} {w : World} : ∀ (l : List UInt8) (a : Addr) (acc : ByteArray), (∀ j x, l[j]? = some x → w.cell? (a.add j) = some (.int .u8 x.toNat)) →
    (Extern.Bytes.loadBytes a l.length acc).run P w = .ok ⟨acc.data ++ l.toArray⟩ w
  | [], a, acc, _ => by simp [Extern.Bytes.loadBytes]
  | x :: l, a, acc, h => by
    have h0 : w.cell? a = some (.int .u8 x.toNat) := by
      have := h 0 x rfl
      simpa [Addr.add] using this
    have ih := run_loadBytesE (P := P) (w := w) l (a.add 1) (acc.push x) (fun j y hj => by
      have := h (j + 1) y (by simpa using hj)
      have e : (a.add 1).add j = a.add (j + 1) := by
        unfold Addr.add
        by_cases hj0 : j = 0
        · simp [hj0]
        · simp [hj0]; omega
      rw [e]; exact this)
    have e2 : ((x.toNat : Int).toNat).toUInt8 = x := by simp
    rw [List.length_cons, Extern.Bytes.loadBytes]
    simp only [Sem.run_bind, load, Sem.run, h0, Result.andThen, e2]
    rw [ih]
    congr 1
    simp

theorem run_bytesOfE {P : Program} {ok : Nat → Prop} {w : World} {v : Value} {l : Bw.Bytes} (h : BytesAt ok w v l) : (Extern.Bytes.bytesOf v).run P w = .ok ⟨l.toArray⟩ w := by
  obtain ⟨A, c, rfl⟩ := h.form
  cases A with
  | none =>
    obtain ⟨A', c', e, _, _, hz, _, _⟩ := h
    injection e with e1 e2 e3
    subst e1
    have : l = [] := List.eq_nil_of_length_eq_zero (by have := hz rfl; omega)
    subst this
    rfl
  | some ad =>
    have := run_loadBytesE (P := P) l ad .empty h.byteCells
    rw [Extern.Bytes.bytesOf, this]
    congr 1
    show ByteArray.mk (#[] ++ l.toArray) = _
    rw [Array.empty_append]

/-- internal/bytealg.Compare. -/
theorem run_compareE {P : Program} {ok ok' : Nat → Prop} {w : World} {u v : Value} {a b : Bw.Bytes} (hu : BytesAt ok w u a) (hv : BytesAt ok' w v b) :
    (Extern.BytealgCompare.compare #[u, v]).run P w = .ok (.int .i64 (Lib.compareBytes a b)) w := by
  change Sem.run P (do pure (goInt (Extern.BytealgCompare.cmp (← Extern.Bytes.bytesOf u) (← Extern.Bytes.bytesOf v)))) w = _
  simp only [Sem.run_bind, Sem.run_pure, run_bytesOfE hu, run_bytesOfE hv, Result.andThen]
  rw [Lib.cmp_eq]
  rfl

/-- string(b) -/
theorem run_conv {P : Program} {ok : Nat → Prop} {w : World} {v : Value} {l : Bw.Bytes} (src dst e : TypeId) (hs : P.underlying src = some (.slice e)) (he : P.underlying e = some (.int .u8)) (hd : P.underlying dst = some .string) (h : BytesAt ok w v l) :
    (convert src dst v).run P w = .ok (.string ⟨l.toArray⟩) w := by
  obtain ⟨A, c, rfl⟩ := h.form
  cases A with
  | none =>
    obtain ⟨A', c', e', _, _, hz, _, _⟩ := h
    injection e' with e1 e2 e3
    subst e1
    have : l = [] := List.eq_nil_of_length_eq_zero (by have := hz rfl; omega)
    subst this
    exact run_convert_bytes_nil (P := P) (w := w) src e hs he _ _ dst hd
  | some ad =>
    exact run_convert_bytes_back w src dst e ad c l hs he hd (fun j hj => h.byteCells j l[j] (List.getElem?_eq_getElem hj))

end Go.Bw
