/-
  NARROWER THAN 'FOR EVERY INPUT', by the rows' own cells (each row's printed sentence says how): GraftPuts: laid · GraftStays: laid · GraftOrder: laid · LayoutComes: laid · LayoutSums: laid · LayoutOf: laid · LayoutOrder: laid · FindAll: laid · FindMeters: laid · FindGets: laid.
  DERIVED. THE GIVEN ROWS OF THIS SEAT. 10 by the template 'for every input the law returns true; each argument reads behind the call as it read before'; 0 by the template 'total and deterministic' (their statements: YtehkjnmnbplcoaaDoorTotals.lean).
  GIVEN WITH THE SEED: the statements are not yours to turn. If you find one false, say at which input.
  Laid BY PROGRAM, IN A SANDBOX (cutbox-rows.mjs): the forced cells as the released guide's own fill.sh prints them over the translation c37ee6b23561609c… (all of the seat's roots in one cut). By AI agents, Wed Nov 11 2026. No macro, syntax, notation, axiom, sorry.
-/
import Derived.Test.YtehkjnmnbplcoaaDoorChecked
import GoSem.Claim
import GoSem.ClaimJoined
import GoSem.ClaimMapViews
import Derived.JoinedTies
import Derived.KernelRfl
namespace Go.Proofs.YtehkjnmnbplcoaaDoor
/- THE CELL 'sum', in the pinned program and in every row, IS THE sha256 OF THE DUMP (.gsa) THAT YtehkjnmnbplcoaaDoorProg.lean LOADS. Nothing in Lean hashes anything: it is a label: what it is worth is what the hold of that sum in a sandbox is worth. -/
noncomputable def Tryd.pinned : Pinned := { name := "ytehkjnmnbplcoaadoor", sum := "c37ee6b23561609c8829fdd5bf32973d38c3485ad3d845d649c04f9a34b8ee9a", checked := Tryd.checked }
namespace Rows
def none {H : Type} : Left H := { results := [], args := [] }

/- WHAT THE LISTED PACKAGE-LEVEL VARIABLES READ AS WHEN THE CALL BEGINS. Each datum BY PROGRAM (the guide's laid-datum.mjs) off the statement by which the dump's own 'gosem.cut.vars' lays the variable. In a bare row this is a premise. The card (YtehkjnmnbplcoaaDoorCards.lean) ties it to the program's text. -/
def laid_math_bits_deBruijn32tab {H : Type} : DataW H := .agg [.lit (.int .u8 0), .lit (.int .u8 1), .lit (.int .u8 28), .lit (.int .u8 2), .lit (.int .u8 29), .lit (.int .u8 14), .lit (.int .u8 24), .lit (.int .u8 3), .lit (.int .u8 30), .lit (.int .u8 22), .lit (.int .u8 20), .lit (.int .u8 15), .lit (.int .u8 25), .lit (.int .u8 17), .lit (.int .u8 4), .lit (.int .u8 8), .lit (.int .u8 31), .lit (.int .u8 27), .lit (.int .u8 13), .lit (.int .u8 23), .lit (.int .u8 21), .lit (.int .u8 19), .lit (.int .u8 16), .lit (.int .u8 7), .lit (.int .u8 26), .lit (.int .u8 12), .lit (.int .u8 18), .lit (.int .u8 6), .lit (.int .u8 11), .lit (.int .u8 5), .lit (.int .u8 10), .lit (.int .u8 9)]

/-- 'brushwoodlaw19.GraftPuts': WHATEVER THE INPUT: true; the input reads as it did. -/
def graftPutsSpec : ChangeSpec := { name := "graftPuts", fn := fun _ => fun
  | [d1, d2] => { results := [.lit (.bool true)], args := [d1, d2] }
  | _ => none }
def graftPutsRow : OpenClaim := { program := "ytehkjnmnbplcoaadoor", sum := "c37ee6b23561609c8829fdd5bf32973d38c3485ad3d845d649c04f9a34b8ee9a", func := "brushwood/brushwoodlaw19.GraftPuts", spec := "graftPuts", inPlace := ["internal/bytealg.Compare"], unfollowed := true, recurses := true, named := ["math/bits.deBruijn32tab"], apart := false, laid := [("math/bits.deBruijn32tab", laid_math_bits_deBruijn32tab)] }
def GraftPutsSaid : Prop := graftPutsRow.holds Tryd.pinned (OpenSpec.ofChange graftPutsSpec)

/-- ITS FALSE NEIGHBOUR: 'it returns false'. Refute it at one input. -/
def graftPutsWrong : ChangeSpec := { name := "graftPuts", fn := fun _ => fun
  | [d1, d2] => { results := [.lit (.bool false)], args := [d1, d2] }
  | _ => none }
def GraftPutsWrongFalsely : Prop := graftPutsRow.holds Tryd.pinned (OpenSpec.ofChange graftPutsWrong)

/-- 'brushwoodlaw19.GraftStays': WHATEVER THE INPUT: true; the input reads as it did. -/
def graftStaysSpec : ChangeSpec := { name := "graftStays", fn := fun _ => fun
  | [d1, d2] => { results := [.lit (.bool true)], args := [d1, d2] }
  | _ => none }
def graftStaysRow : OpenClaim := { program := "ytehkjnmnbplcoaadoor", sum := "c37ee6b23561609c8829fdd5bf32973d38c3485ad3d845d649c04f9a34b8ee9a", func := "brushwood/brushwoodlaw19.GraftStays", spec := "graftStays", inPlace := ["internal/bytealg.Compare"], unfollowed := true, recurses := true, named := ["math/bits.deBruijn32tab"], apart := false, laid := [("math/bits.deBruijn32tab", laid_math_bits_deBruijn32tab)] }
def GraftStaysSaid : Prop := graftStaysRow.holds Tryd.pinned (OpenSpec.ofChange graftStaysSpec)

/-- ITS FALSE NEIGHBOUR: 'it returns false'. Refute it at one input. -/
def graftStaysWrong : ChangeSpec := { name := "graftStays", fn := fun _ => fun
  | [d1, d2] => { results := [.lit (.bool false)], args := [d1, d2] }
  | _ => none }
def GraftStaysWrongFalsely : Prop := graftStaysRow.holds Tryd.pinned (OpenSpec.ofChange graftStaysWrong)

/-- 'brushwoodlaw19.GraftOrder': WHATEVER THE INPUT: true; the input reads as it did. -/
def graftOrderSpec : ChangeSpec := { name := "graftOrder", fn := fun _ => fun
  | [d1, d2, d3] => { results := [.lit (.bool true)], args := [d1, d2, d3] }
  | _ => none }
def graftOrderRow : OpenClaim := { program := "ytehkjnmnbplcoaadoor", sum := "c37ee6b23561609c8829fdd5bf32973d38c3485ad3d845d649c04f9a34b8ee9a", func := "brushwood/brushwoodlaw19.GraftOrder", spec := "graftOrder", inPlace := ["internal/bytealg.Compare"], unfollowed := true, recurses := true, named := ["math/bits.deBruijn32tab"], apart := false, laid := [("math/bits.deBruijn32tab", laid_math_bits_deBruijn32tab)] }
def GraftOrderSaid : Prop := graftOrderRow.holds Tryd.pinned (OpenSpec.ofChange graftOrderSpec)

/-- ITS FALSE NEIGHBOUR: 'it returns false'. Refute it at one input. -/
def graftOrderWrong : ChangeSpec := { name := "graftOrder", fn := fun _ => fun
  | [d1, d2, d3] => { results := [.lit (.bool false)], args := [d1, d2, d3] }
  | _ => none }
def GraftOrderWrongFalsely : Prop := graftOrderRow.holds Tryd.pinned (OpenSpec.ofChange graftOrderWrong)

/-- 'brushwoodlaw17.LayoutComes': WHATEVER THE INPUT: true; the input reads as it did. -/
def layoutComesSpec : ChangeSpec := { name := "layoutComes", fn := fun _ => fun
  | [d] => { results := [.lit (.bool true)], args := [d] }
  | _ => none }
def layoutComesRow : OpenClaim := { program := "ytehkjnmnbplcoaadoor", sum := "c37ee6b23561609c8829fdd5bf32973d38c3485ad3d845d649c04f9a34b8ee9a", func := "brushwood/brushwoodlaw17.LayoutComes", spec := "layoutComes", inPlace := ["internal/bytealg.Compare"], unfollowed := true, recurses := true, named := ["math/bits.deBruijn32tab"], apart := false, laid := [("math/bits.deBruijn32tab", laid_math_bits_deBruijn32tab)] }
def LayoutComesSaid : Prop := layoutComesRow.holds Tryd.pinned (OpenSpec.ofChange layoutComesSpec)

/-- ITS FALSE NEIGHBOUR: 'it returns false'. Refute it at one input. -/
def layoutComesWrong : ChangeSpec := { name := "layoutComes", fn := fun _ => fun
  | [d] => { results := [.lit (.bool false)], args := [d] }
  | _ => none }
def LayoutComesWrongFalsely : Prop := layoutComesRow.holds Tryd.pinned (OpenSpec.ofChange layoutComesWrong)

/-- 'brushwoodlaw17.LayoutSums': WHATEVER THE INPUT: true; the input reads as it did. -/
def layoutSumsSpec : ChangeSpec := { name := "layoutSums", fn := fun _ => fun
  | [d] => { results := [.lit (.bool true)], args := [d] }
  | _ => none }
def layoutSumsRow : OpenClaim := { program := "ytehkjnmnbplcoaadoor", sum := "c37ee6b23561609c8829fdd5bf32973d38c3485ad3d845d649c04f9a34b8ee9a", func := "brushwood/brushwoodlaw17.LayoutSums", spec := "layoutSums", inPlace := ["internal/bytealg.Compare"], unfollowed := true, recurses := true, named := ["math/bits.deBruijn32tab"], apart := false, laid := [("math/bits.deBruijn32tab", laid_math_bits_deBruijn32tab)] }
def LayoutSumsSaid : Prop := layoutSumsRow.holds Tryd.pinned (OpenSpec.ofChange layoutSumsSpec)

/-- ITS FALSE NEIGHBOUR: 'it returns false'. Refute it at one input. -/
def layoutSumsWrong : ChangeSpec := { name := "layoutSums", fn := fun _ => fun
  | [d] => { results := [.lit (.bool false)], args := [d] }
  | _ => none }
def LayoutSumsWrongFalsely : Prop := layoutSumsRow.holds Tryd.pinned (OpenSpec.ofChange layoutSumsWrong)

/-- 'brushwoodlaw17.LayoutOf': WHATEVER THE INPUT: true; the input reads as it did. -/
def layoutOfSpec : ChangeSpec := { name := "layoutOf", fn := fun _ => fun
  | [d] => { results := [.lit (.bool true)], args := [d] }
  | _ => none }
def layoutOfRow : OpenClaim := { program := "ytehkjnmnbplcoaadoor", sum := "c37ee6b23561609c8829fdd5bf32973d38c3485ad3d845d649c04f9a34b8ee9a", func := "brushwood/brushwoodlaw17.LayoutOf", spec := "layoutOf", inPlace := ["internal/bytealg.Compare"], unfollowed := true, recurses := true, named := ["math/bits.deBruijn32tab"], apart := false, laid := [("math/bits.deBruijn32tab", laid_math_bits_deBruijn32tab)] }
def LayoutOfSaid : Prop := layoutOfRow.holds Tryd.pinned (OpenSpec.ofChange layoutOfSpec)

/-- ITS FALSE NEIGHBOUR: 'it returns false'. Refute it at one input. -/
def layoutOfWrong : ChangeSpec := { name := "layoutOf", fn := fun _ => fun
  | [d] => { results := [.lit (.bool false)], args := [d] }
  | _ => none }
def LayoutOfWrongFalsely : Prop := layoutOfRow.holds Tryd.pinned (OpenSpec.ofChange layoutOfWrong)

/-- 'brushwoodlaw17.LayoutOrder': WHATEVER THE INPUT: true; the input reads as it did. -/
def layoutOrderSpec : ChangeSpec := { name := "layoutOrder", fn := fun _ => fun
  | [d1, d2] => { results := [.lit (.bool true)], args := [d1, d2] }
  | _ => none }
def layoutOrderRow : OpenClaim := { program := "ytehkjnmnbplcoaadoor", sum := "c37ee6b23561609c8829fdd5bf32973d38c3485ad3d845d649c04f9a34b8ee9a", func := "brushwood/brushwoodlaw17.LayoutOrder", spec := "layoutOrder", inPlace := ["internal/bytealg.Compare"], unfollowed := true, recurses := true, named := ["math/bits.deBruijn32tab"], apart := false, laid := [("math/bits.deBruijn32tab", laid_math_bits_deBruijn32tab)] }
def LayoutOrderSaid : Prop := layoutOrderRow.holds Tryd.pinned (OpenSpec.ofChange layoutOrderSpec)

/-- ITS FALSE NEIGHBOUR: 'it returns false'. Refute it at one input. -/
def layoutOrderWrong : ChangeSpec := { name := "layoutOrder", fn := fun _ => fun
  | [d1, d2] => { results := [.lit (.bool false)], args := [d1, d2] }
  | _ => none }
def LayoutOrderWrongFalsely : Prop := layoutOrderRow.holds Tryd.pinned (OpenSpec.ofChange layoutOrderWrong)

/-- 'brushwoodlaw18.FindAll': WHATEVER THE INPUT: true; the input reads as it did. -/
def findAllSpec : ChangeSpec := { name := "findAll", fn := fun _ => fun
  | [d1, d2] => { results := [.lit (.bool true)], args := [d1, d2] }
  | _ => none }
def findAllRow : OpenClaim := { program := "ytehkjnmnbplcoaadoor", sum := "c37ee6b23561609c8829fdd5bf32973d38c3485ad3d845d649c04f9a34b8ee9a", func := "brushwood/brushwoodlaw18.FindAll", spec := "findAll", inPlace := ["internal/bytealg.Compare"], unfollowed := true, recurses := true, named := ["math/bits.deBruijn32tab"], apart := false, laid := [("math/bits.deBruijn32tab", laid_math_bits_deBruijn32tab)] }
def FindAllSaid : Prop := findAllRow.holds Tryd.pinned (OpenSpec.ofChange findAllSpec)

/-- ITS FALSE NEIGHBOUR: 'it returns false'. Refute it at one input. -/
def findAllWrong : ChangeSpec := { name := "findAll", fn := fun _ => fun
  | [d1, d2] => { results := [.lit (.bool false)], args := [d1, d2] }
  | _ => none }
def FindAllWrongFalsely : Prop := findAllRow.holds Tryd.pinned (OpenSpec.ofChange findAllWrong)

/-- 'brushwoodlaw18.FindMeters': WHATEVER THE INPUT: true; the input reads as it did. -/
def findMetersSpec : ChangeSpec := { name := "findMeters", fn := fun _ => fun
  | [d1, d2, d3] => { results := [.lit (.bool true)], args := [d1, d2, d3] }
  | _ => none }
def findMetersRow : OpenClaim := { program := "ytehkjnmnbplcoaadoor", sum := "c37ee6b23561609c8829fdd5bf32973d38c3485ad3d845d649c04f9a34b8ee9a", func := "brushwood/brushwoodlaw18.FindMeters", spec := "findMeters", inPlace := ["internal/bytealg.Compare"], unfollowed := true, recurses := true, named := ["math/bits.deBruijn32tab"], apart := false, laid := [("math/bits.deBruijn32tab", laid_math_bits_deBruijn32tab)] }
def FindMetersSaid : Prop := findMetersRow.holds Tryd.pinned (OpenSpec.ofChange findMetersSpec)

/-- ITS FALSE NEIGHBOUR: 'it returns false'. Refute it at one input. -/
def findMetersWrong : ChangeSpec := { name := "findMeters", fn := fun _ => fun
  | [d1, d2, d3] => { results := [.lit (.bool false)], args := [d1, d2, d3] }
  | _ => none }
def FindMetersWrongFalsely : Prop := findMetersRow.holds Tryd.pinned (OpenSpec.ofChange findMetersWrong)

/-- 'brushwoodlaw18.FindGets': WHATEVER THE INPUT: true; the input reads as it did. -/
def findGetsSpec : ChangeSpec := { name := "findGets", fn := fun _ => fun
  | [d1, d2, d3] => { results := [.lit (.bool true)], args := [d1, d2, d3] }
  | _ => none }
def findGetsRow : OpenClaim := { program := "ytehkjnmnbplcoaadoor", sum := "c37ee6b23561609c8829fdd5bf32973d38c3485ad3d845d649c04f9a34b8ee9a", func := "brushwood/brushwoodlaw18.FindGets", spec := "findGets", inPlace := ["internal/bytealg.Compare"], unfollowed := true, recurses := true, named := ["math/bits.deBruijn32tab"], apart := false, laid := [("math/bits.deBruijn32tab", laid_math_bits_deBruijn32tab)] }
def FindGetsSaid : Prop := findGetsRow.holds Tryd.pinned (OpenSpec.ofChange findGetsSpec)

/-- ITS FALSE NEIGHBOUR: 'it returns false'. Refute it at one input. -/
def findGetsWrong : ChangeSpec := { name := "findGets", fn := fun _ => fun
  | [d1, d2, d3] => { results := [.lit (.bool false)], args := [d1, d2, d3] }
  | _ => none }
def FindGetsWrongFalsely : Prop := findGetsRow.holds Tryd.pinned (OpenSpec.ofChange findGetsWrong)

/- THE SECOND FORM. 'bulk': how many values and letters a reading holds, each counted each time it is reached (what is shared counts as often as it is met; a slice's spare places count too). A statement '..UptoSaid' is the law's where the arguments, and the package variables that the reading takes, are together of bulk at most 1048576: NARROWER than '..Said'. Prove '..Said' where nothing that the law and all that it calls make is longer than what came in: it says more and counts as full. Else prove '..UptoSaid'. A law counts once. -/
mutual
def uptoBulk {H : Type} : DataW H → Nat
  | .lit (.string bytes) => bytes.length + 1
  | .lit _ => 1
  | .nil => 1
  | .ptr d => uptoBulk d + 1
  | .slice elems spare => uptoBulkAll elems + uptoBulkAll spare + 1
  | .agg parts => uptoBulkAll parts + 1
  | .iface _ d => uptoBulk d + 1
  | .map entries => uptoBulkEntries entries + 1
  | .held _ => 1
def uptoBulkAll {H : Type} : List (DataW H) → Nat
  | [] => 0
  | d :: r => uptoBulk d + uptoBulkAll r
def uptoBulkEntries {H : Type} : List (Lit × DataW H) → Nat
  | [] => 0
  | x :: r => uptoBulkEntry x + uptoBulkEntries r
def uptoBulkEntry {H : Type} : Lit × DataW H → Nat
  | (.string bytes, d) => bytes.length + uptoBulk d + 1
  | (_, d) => uptoBulk d + 1
 end
def uptoSmall : (H : Type) → List (DataW H) → Bool := fun _ ds => decide (uptoBulkAll ds ≤ 1048576)
def OpenSpec.upto (s : _root_.Go.ChangeSpec) : _root_.Go.OpenSpec := { _root_.Go.OpenSpec.ofChange s with cond := some uptoSmall }

/-- 'brushwoodlaw19.GraftPuts', WHERE WHAT IT READS IS OF BULK AT MOST 1048576: true; the input reads as it did. -/
def graftPutsUptoRow : OpenClaim := { program := "ytehkjnmnbplcoaadoor", sum := "c37ee6b23561609c8829fdd5bf32973d38c3485ad3d845d649c04f9a34b8ee9a", func := "brushwood/brushwoodlaw19.GraftPuts", spec := "graftPuts", inPlace := ["internal/bytealg.Compare"], unfollowed := true, recurses := true, named := ["math/bits.deBruijn32tab"], apart := false, laid := [("math/bits.deBruijn32tab", laid_math_bits_deBruijn32tab)], narrowed := true }
def GraftPutsUptoSaid : Prop := graftPutsUptoRow.holds Tryd.pinned (OpenSpec.upto graftPutsSpec)

/-- 'brushwoodlaw19.GraftStays', WHERE WHAT IT READS IS OF BULK AT MOST 1048576: true; the input reads as it did. -/
def graftStaysUptoRow : OpenClaim := { program := "ytehkjnmnbplcoaadoor", sum := "c37ee6b23561609c8829fdd5bf32973d38c3485ad3d845d649c04f9a34b8ee9a", func := "brushwood/brushwoodlaw19.GraftStays", spec := "graftStays", inPlace := ["internal/bytealg.Compare"], unfollowed := true, recurses := true, named := ["math/bits.deBruijn32tab"], apart := false, laid := [("math/bits.deBruijn32tab", laid_math_bits_deBruijn32tab)], narrowed := true }
def GraftStaysUptoSaid : Prop := graftStaysUptoRow.holds Tryd.pinned (OpenSpec.upto graftStaysSpec)

/-- 'brushwoodlaw19.GraftOrder', WHERE WHAT IT READS IS OF BULK AT MOST 1048576: true; the input reads as it did. -/
def graftOrderUptoRow : OpenClaim := { program := "ytehkjnmnbplcoaadoor", sum := "c37ee6b23561609c8829fdd5bf32973d38c3485ad3d845d649c04f9a34b8ee9a", func := "brushwood/brushwoodlaw19.GraftOrder", spec := "graftOrder", inPlace := ["internal/bytealg.Compare"], unfollowed := true, recurses := true, named := ["math/bits.deBruijn32tab"], apart := false, laid := [("math/bits.deBruijn32tab", laid_math_bits_deBruijn32tab)], narrowed := true }
def GraftOrderUptoSaid : Prop := graftOrderUptoRow.holds Tryd.pinned (OpenSpec.upto graftOrderSpec)

/-- 'brushwoodlaw17.LayoutComes', WHERE WHAT IT READS IS OF BULK AT MOST 1048576: true; the input reads as it did. -/
def layoutComesUptoRow : OpenClaim := { program := "ytehkjnmnbplcoaadoor", sum := "c37ee6b23561609c8829fdd5bf32973d38c3485ad3d845d649c04f9a34b8ee9a", func := "brushwood/brushwoodlaw17.LayoutComes", spec := "layoutComes", inPlace := ["internal/bytealg.Compare"], unfollowed := true, recurses := true, named := ["math/bits.deBruijn32tab"], apart := false, laid := [("math/bits.deBruijn32tab", laid_math_bits_deBruijn32tab)], narrowed := true }
def LayoutComesUptoSaid : Prop := layoutComesUptoRow.holds Tryd.pinned (OpenSpec.upto layoutComesSpec)

/-- 'brushwoodlaw17.LayoutSums', WHERE WHAT IT READS IS OF BULK AT MOST 1048576: true; the input reads as it did. -/
def layoutSumsUptoRow : OpenClaim := { program := "ytehkjnmnbplcoaadoor", sum := "c37ee6b23561609c8829fdd5bf32973d38c3485ad3d845d649c04f9a34b8ee9a", func := "brushwood/brushwoodlaw17.LayoutSums", spec := "layoutSums", inPlace := ["internal/bytealg.Compare"], unfollowed := true, recurses := true, named := ["math/bits.deBruijn32tab"], apart := false, laid := [("math/bits.deBruijn32tab", laid_math_bits_deBruijn32tab)], narrowed := true }
def LayoutSumsUptoSaid : Prop := layoutSumsUptoRow.holds Tryd.pinned (OpenSpec.upto layoutSumsSpec)

/-- 'brushwoodlaw17.LayoutOf', WHERE WHAT IT READS IS OF BULK AT MOST 1048576: true; the input reads as it did. -/
def layoutOfUptoRow : OpenClaim := { program := "ytehkjnmnbplcoaadoor", sum := "c37ee6b23561609c8829fdd5bf32973d38c3485ad3d845d649c04f9a34b8ee9a", func := "brushwood/brushwoodlaw17.LayoutOf", spec := "layoutOf", inPlace := ["internal/bytealg.Compare"], unfollowed := true, recurses := true, named := ["math/bits.deBruijn32tab"], apart := false, laid := [("math/bits.deBruijn32tab", laid_math_bits_deBruijn32tab)], narrowed := true }
def LayoutOfUptoSaid : Prop := layoutOfUptoRow.holds Tryd.pinned (OpenSpec.upto layoutOfSpec)

/-- 'brushwoodlaw17.LayoutOrder', WHERE WHAT IT READS IS OF BULK AT MOST 1048576: true; the input reads as it did. -/
def layoutOrderUptoRow : OpenClaim := { program := "ytehkjnmnbplcoaadoor", sum := "c37ee6b23561609c8829fdd5bf32973d38c3485ad3d845d649c04f9a34b8ee9a", func := "brushwood/brushwoodlaw17.LayoutOrder", spec := "layoutOrder", inPlace := ["internal/bytealg.Compare"], unfollowed := true, recurses := true, named := ["math/bits.deBruijn32tab"], apart := false, laid := [("math/bits.deBruijn32tab", laid_math_bits_deBruijn32tab)], narrowed := true }
def LayoutOrderUptoSaid : Prop := layoutOrderUptoRow.holds Tryd.pinned (OpenSpec.upto layoutOrderSpec)

/-- 'brushwoodlaw18.FindAll', WHERE WHAT IT READS IS OF BULK AT MOST 1048576: true; the input reads as it did. -/
def findAllUptoRow : OpenClaim := { program := "ytehkjnmnbplcoaadoor", sum := "c37ee6b23561609c8829fdd5bf32973d38c3485ad3d845d649c04f9a34b8ee9a", func := "brushwood/brushwoodlaw18.FindAll", spec := "findAll", inPlace := ["internal/bytealg.Compare"], unfollowed := true, recurses := true, named := ["math/bits.deBruijn32tab"], apart := false, laid := [("math/bits.deBruijn32tab", laid_math_bits_deBruijn32tab)], narrowed := true }
def FindAllUptoSaid : Prop := findAllUptoRow.holds Tryd.pinned (OpenSpec.upto findAllSpec)

/-- 'brushwoodlaw18.FindMeters', WHERE WHAT IT READS IS OF BULK AT MOST 1048576: true; the input reads as it did. -/
def findMetersUptoRow : OpenClaim := { program := "ytehkjnmnbplcoaadoor", sum := "c37ee6b23561609c8829fdd5bf32973d38c3485ad3d845d649c04f9a34b8ee9a", func := "brushwood/brushwoodlaw18.FindMeters", spec := "findMeters", inPlace := ["internal/bytealg.Compare"], unfollowed := true, recurses := true, named := ["math/bits.deBruijn32tab"], apart := false, laid := [("math/bits.deBruijn32tab", laid_math_bits_deBruijn32tab)], narrowed := true }
def FindMetersUptoSaid : Prop := findMetersUptoRow.holds Tryd.pinned (OpenSpec.upto findMetersSpec)

/-- 'brushwoodlaw18.FindGets', WHERE WHAT IT READS IS OF BULK AT MOST 1048576: true; the input reads as it did. -/
def findGetsUptoRow : OpenClaim := { program := "ytehkjnmnbplcoaadoor", sum := "c37ee6b23561609c8829fdd5bf32973d38c3485ad3d845d649c04f9a34b8ee9a", func := "brushwood/brushwoodlaw18.FindGets", spec := "findGets", inPlace := ["internal/bytealg.Compare"], unfollowed := true, recurses := true, named := ["math/bits.deBruijn32tab"], apart := false, laid := [("math/bits.deBruijn32tab", laid_math_bits_deBruijn32tab)], narrowed := true }
def FindGetsUptoSaid : Prop := findGetsUptoRow.holds Tryd.pinned (OpenSpec.upto findGetsSpec)

end Rows
end Go.Proofs.YtehkjnmnbplcoaaDoor
