/-
  NARROWER THAN 'FOR EVERY INPUT', by the rows' own cells (each row's printed sentence says how): TrieSeeds: laid · TrieStays: laid · TrieCanon: laid · TriePlays: laid.
  DERIVED. THE GIVEN ROWS OF THIS SEAT. 4 by the template 'for every input the law returns true; each argument reads behind the call as it read before'; 0 by the template 'total and deterministic' (their statements: YtadaoceidkagfaaGreatDoorTotals.lean).
  GIVEN WITH THE SEED: the statements are not yours to turn. If you find one false, say at which input.
  Laid BY PROGRAM, IN A SANDBOX (cutbox-rows.mjs): the forced cells as the released guide's own fill.sh prints them over the translation 88efa3292191623a… (all of the seat's roots in one cut). By AI agents, Wed Nov 11 2026. No macro, syntax, notation, axiom, sorry.
-/
import Derived.Test.YtadaoceidkagfaaGreatDoorChecked
import GoSem.Claim
import GoSem.ClaimJoined
import GoSem.ClaimMapViews
import Derived.JoinedTies
import Derived.KernelRfl
namespace Go.Proofs.YtadaoceidkagfaaGreatDoor
/- THE CELL 'sum', in the pinned program and in every row, IS THE sha256 OF THE DUMP (.gsa) THAT YtadaoceidkagfaaGreatDoorProg.lean LOADS. Nothing in Lean hashes anything: it is a label: what it is worth is what the hold of that sum in a sandbox is worth. -/
noncomputable def Tryz.pinned : Pinned := { name := "ytadaoceidkagfaagreatdoor", sum := "88efa3292191623a6e191594d47dcbc0cac9102b236f31ef2a5a9a1316aba934", checked := Tryz.checked }
namespace Rows
def none {H : Type} : Left H := { results := [], args := [] }

/- WHAT THE LISTED PACKAGE-LEVEL VARIABLES READ AS WHEN THE CALL BEGINS. Each datum BY PROGRAM (the guide's laid-datum.mjs) off the statement by which the dump's own 'gosem.cut.vars' lays the variable. In a bare row this is a premise. The card (YtadaoceidkagfaaGreatDoorCards.lean) ties it to the program's text. -/
def laid_math_bits_deBruijn32tab {H : Type} : DataW H := .agg [.lit (.int .u8 0), .lit (.int .u8 1), .lit (.int .u8 28), .lit (.int .u8 2), .lit (.int .u8 29), .lit (.int .u8 14), .lit (.int .u8 24), .lit (.int .u8 3), .lit (.int .u8 30), .lit (.int .u8 22), .lit (.int .u8 20), .lit (.int .u8 15), .lit (.int .u8 25), .lit (.int .u8 17), .lit (.int .u8 4), .lit (.int .u8 8), .lit (.int .u8 31), .lit (.int .u8 27), .lit (.int .u8 13), .lit (.int .u8 23), .lit (.int .u8 21), .lit (.int .u8 19), .lit (.int .u8 16), .lit (.int .u8 7), .lit (.int .u8 26), .lit (.int .u8 12), .lit (.int .u8 18), .lit (.int .u8 6), .lit (.int .u8 11), .lit (.int .u8 5), .lit (.int .u8 10), .lit (.int .u8 9)]
def laid_brushwood_sip_start {H : Type} : DataW H := .agg [.lit (.int .u64 8317987319222330741), .lit (.int .u64 7237128888997146477), .lit (.int .u64 7816392313619706465), .lit (.int .u64 8387220255154660723)]

/-- 'brushwoodlaw21.TrieSeeds': WHATEVER THE INPUT: true; the input reads as it did. -/
def trieSeedsSpec : ChangeSpec := { name := "trieSeeds", fn := fun _ => fun
  | [d1, d2, d3] => { results := [.lit (.bool true)], args := [d1, d2, d3] }
  | _ => none }
def trieSeedsRow : OpenClaim := { program := "ytadaoceidkagfaagreatdoor", sum := "88efa3292191623a6e191594d47dcbc0cac9102b236f31ef2a5a9a1316aba934", func := "brushwood/brushwoodlaw21.TrieSeeds", spec := "trieSeeds", inPlace := ["internal/bytealg.Compare"], unfollowed := true, recurses := true, named := ["brushwood/sip.start", "math/bits.deBruijn32tab"], apart := false, laid := [("math/bits.deBruijn32tab", laid_math_bits_deBruijn32tab), ("brushwood/sip.start", laid_brushwood_sip_start)] }
def TrieSeedsSaid : Prop := trieSeedsRow.holds Tryz.pinned (OpenSpec.ofChange trieSeedsSpec)

/-- ITS FALSE NEIGHBOUR: 'it returns false'. Refute it at one input. -/
def trieSeedsWrong : ChangeSpec := { name := "trieSeeds", fn := fun _ => fun
  | [d1, d2, d3] => { results := [.lit (.bool false)], args := [d1, d2, d3] }
  | _ => none }
def TrieSeedsWrongFalsely : Prop := trieSeedsRow.holds Tryz.pinned (OpenSpec.ofChange trieSeedsWrong)

/-- 'brushwoodlaw21.TrieStays': WHATEVER THE INPUT: true; the input reads as it did. -/
def trieStaysSpec : ChangeSpec := { name := "trieStays", fn := fun _ => fun
  | [d1, d2] => { results := [.lit (.bool true)], args := [d1, d2] }
  | _ => none }
def trieStaysRow : OpenClaim := { program := "ytadaoceidkagfaagreatdoor", sum := "88efa3292191623a6e191594d47dcbc0cac9102b236f31ef2a5a9a1316aba934", func := "brushwood/brushwoodlaw21.TrieStays", spec := "trieStays", inPlace := ["internal/bytealg.Compare"], unfollowed := true, recurses := true, named := ["brushwood/sip.start", "math/bits.deBruijn32tab"], apart := false, laid := [("math/bits.deBruijn32tab", laid_math_bits_deBruijn32tab), ("brushwood/sip.start", laid_brushwood_sip_start)] }
def TrieStaysSaid : Prop := trieStaysRow.holds Tryz.pinned (OpenSpec.ofChange trieStaysSpec)

/-- ITS FALSE NEIGHBOUR: 'it returns false'. Refute it at one input. -/
def trieStaysWrong : ChangeSpec := { name := "trieStays", fn := fun _ => fun
  | [d1, d2] => { results := [.lit (.bool false)], args := [d1, d2] }
  | _ => none }
def TrieStaysWrongFalsely : Prop := trieStaysRow.holds Tryz.pinned (OpenSpec.ofChange trieStaysWrong)

/-- 'brushwoodlaw21.TrieCanon': WHATEVER THE INPUT: true; the input reads as it did. -/
def trieCanonSpec : ChangeSpec := { name := "trieCanon", fn := fun _ => fun
  | [d1, d2, d3] => { results := [.lit (.bool true)], args := [d1, d2, d3] }
  | _ => none }
def trieCanonRow : OpenClaim := { program := "ytadaoceidkagfaagreatdoor", sum := "88efa3292191623a6e191594d47dcbc0cac9102b236f31ef2a5a9a1316aba934", func := "brushwood/brushwoodlaw21.TrieCanon", spec := "trieCanon", inPlace := ["internal/bytealg.Compare"], unfollowed := true, recurses := true, named := ["brushwood/sip.start", "math/bits.deBruijn32tab"], apart := false, laid := [("math/bits.deBruijn32tab", laid_math_bits_deBruijn32tab), ("brushwood/sip.start", laid_brushwood_sip_start)] }
def TrieCanonSaid : Prop := trieCanonRow.holds Tryz.pinned (OpenSpec.ofChange trieCanonSpec)

/-- ITS FALSE NEIGHBOUR: 'it returns false'. Refute it at one input. -/
def trieCanonWrong : ChangeSpec := { name := "trieCanon", fn := fun _ => fun
  | [d1, d2, d3] => { results := [.lit (.bool false)], args := [d1, d2, d3] }
  | _ => none }
def TrieCanonWrongFalsely : Prop := trieCanonRow.holds Tryz.pinned (OpenSpec.ofChange trieCanonWrong)

/-- 'brushwoodlaw21.TriePlays': WHATEVER THE INPUT: true; the input reads as it did. -/
def triePlaysSpec : ChangeSpec := { name := "triePlays", fn := fun _ => fun
  | [d1, d2] => { results := [.lit (.bool true)], args := [d1, d2] }
  | _ => none }
def triePlaysRow : OpenClaim := { program := "ytadaoceidkagfaagreatdoor", sum := "88efa3292191623a6e191594d47dcbc0cac9102b236f31ef2a5a9a1316aba934", func := "brushwood/brushwoodlaw21.TriePlays", spec := "triePlays", inPlace := ["internal/bytealg.Compare"], unfollowed := true, recurses := true, named := ["brushwood/sip.start", "math/bits.deBruijn32tab"], apart := false, laid := [("math/bits.deBruijn32tab", laid_math_bits_deBruijn32tab), ("brushwood/sip.start", laid_brushwood_sip_start)] }
def TriePlaysSaid : Prop := triePlaysRow.holds Tryz.pinned (OpenSpec.ofChange triePlaysSpec)

/-- ITS FALSE NEIGHBOUR: 'it returns false'. Refute it at one input. -/
def triePlaysWrong : ChangeSpec := { name := "triePlays", fn := fun _ => fun
  | [d1, d2] => { results := [.lit (.bool false)], args := [d1, d2] }
  | _ => none }
def TriePlaysWrongFalsely : Prop := triePlaysRow.holds Tryz.pinned (OpenSpec.ofChange triePlaysWrong)

/- THE SECOND FORM. 'bulk': how many values and letters a reading holds, each counted each time it is reached (what is shared counts as often as it is met; a slice's spare places count too). A statement '..UptoSaid' is the law's where the arguments, and the package variables that the reading takes, are together of bulk at most 1048576: NARROWER than '..Said'. Prove '..Said' where nothing that the law and all that it calls make is longer than what came in: it says more and counts as full. Else prove '..UptoSaid'. A law counts once. -/
mutual
def uptoBulk {H : Type} : DataW H → Nat
  | .lit (.string bytes) => bytes.length + 1
  | .lit _ => 1
  | .nil => 1
  | .ptr d => uptoBulk d + 1
  | .slice elems spare => uptoBulkAll elems + uptoBulkAll spare + 1
  | .agg parts => uptoBulkAll parts + 1
  | .iface _ d => uptoBulk d + 1
  | .map entries => uptoBulkEntries entries + 1
  | .held _ => 1
def uptoBulkAll {H : Type} : List (DataW H) → Nat
  | [] => 0
  | d :: r => uptoBulk d + uptoBulkAll r
def uptoBulkEntries {H : Type} : List (Lit × DataW H) → Nat
  | [] => 0
  | x :: r => uptoBulkEntry x + uptoBulkEntries r
def uptoBulkEntry {H : Type} : Lit × DataW H → Nat
  | (.string bytes, d) => bytes.length + uptoBulk d + 1
  | (_, d) => uptoBulk d + 1
 end
def uptoSmall : (H : Type) → List (DataW H) → Bool := fun _ ds => decide (uptoBulkAll ds ≤ 1048576)
def OpenSpec.upto (s : _root_.Go.ChangeSpec) : _root_.Go.OpenSpec := { _root_.Go.OpenSpec.ofChange s with cond := some uptoSmall }

/-- 'brushwoodlaw21.TrieSeeds', WHERE WHAT IT READS IS OF BULK AT MOST 1048576: true; the input reads as it did. -/
def trieSeedsUptoRow : OpenClaim := { program := "ytadaoceidkagfaagreatdoor", sum := "88efa3292191623a6e191594d47dcbc0cac9102b236f31ef2a5a9a1316aba934", func := "brushwood/brushwoodlaw21.TrieSeeds", spec := "trieSeeds", inPlace := ["internal/bytealg.Compare"], unfollowed := true, recurses := true, named := ["brushwood/sip.start", "math/bits.deBruijn32tab"], apart := false, laid := [("math/bits.deBruijn32tab", laid_math_bits_deBruijn32tab), ("brushwood/sip.start", laid_brushwood_sip_start)], narrowed := true }
def TrieSeedsUptoSaid : Prop := trieSeedsUptoRow.holds Tryz.pinned (OpenSpec.upto trieSeedsSpec)

/-- 'brushwoodlaw21.TrieStays', WHERE WHAT IT READS IS OF BULK AT MOST 1048576: true; the input reads as it did. -/
def trieStaysUptoRow : OpenClaim := { program := "ytadaoceidkagfaagreatdoor", sum := "88efa3292191623a6e191594d47dcbc0cac9102b236f31ef2a5a9a1316aba934", func := "brushwood/brushwoodlaw21.TrieStays", spec := "trieStays", inPlace := ["internal/bytealg.Compare"], unfollowed := true, recurses := true, named := ["brushwood/sip.start", "math/bits.deBruijn32tab"], apart := false, laid := [("math/bits.deBruijn32tab", laid_math_bits_deBruijn32tab), ("brushwood/sip.start", laid_brushwood_sip_start)], narrowed := true }
def TrieStaysUptoSaid : Prop := trieStaysUptoRow.holds Tryz.pinned (OpenSpec.upto trieStaysSpec)

/-- 'brushwoodlaw21.TrieCanon', WHERE WHAT IT READS IS OF BULK AT MOST 1048576: true; the input reads as it did. -/
def trieCanonUptoRow : OpenClaim := { program := "ytadaoceidkagfaagreatdoor", sum := "88efa3292191623a6e191594d47dcbc0cac9102b236f31ef2a5a9a1316aba934", func := "brushwood/brushwoodlaw21.TrieCanon", spec := "trieCanon", inPlace := ["internal/bytealg.Compare"], unfollowed := true, recurses := true, named := ["brushwood/sip.start", "math/bits.deBruijn32tab"], apart := false, laid := [("math/bits.deBruijn32tab", laid_math_bits_deBruijn32tab), ("brushwood/sip.start", laid_brushwood_sip_start)], narrowed := true }
def TrieCanonUptoSaid : Prop := trieCanonUptoRow.holds Tryz.pinned (OpenSpec.upto trieCanonSpec)

/-- 'brushwoodlaw21.TriePlays', WHERE WHAT IT READS IS OF BULK AT MOST 1048576: true; the input reads as it did. -/
def triePlaysUptoRow : OpenClaim := { program := "ytadaoceidkagfaagreatdoor", sum := "88efa3292191623a6e191594d47dcbc0cac9102b236f31ef2a5a9a1316aba934", func := "brushwood/brushwoodlaw21.TriePlays", spec := "triePlays", inPlace := ["internal/bytealg.Compare"], unfollowed := true, recurses := true, named := ["brushwood/sip.start", "math/bits.deBruijn32tab"], apart := false, laid := [("math/bits.deBruijn32tab", laid_math_bits_deBruijn32tab), ("brushwood/sip.start", laid_brushwood_sip_start)], narrowed := true }
def TriePlaysUptoSaid : Prop := triePlaysUptoRow.holds Tryz.pinned (OpenSpec.upto triePlaysSpec)

end Rows
end Go.Proofs.YtadaoceidkagfaaGreatDoor
