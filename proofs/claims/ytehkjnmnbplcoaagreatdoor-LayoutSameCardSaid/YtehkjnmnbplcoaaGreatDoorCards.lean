/-
  DERIVED. GIVEN WITH THE SEED: THE CARDS: each row of YtehkjnmnbplcoaaGreatDoorRows.lean that lists a variable, with what it lists TIED to the program's text (the seventh form; the later family's looks); each row that meets fmt, with fmt's text TOLD by the authors' own Lean function (tested against real Go, not proved from fmt's source: count such statements apart). THE CARD IS WHAT COUNTS. Prove the row's statement (the work); the ties are given (YtehkjnmnbplcoaaGreatDoorTie.lean); close each card by the builder's one call (the guide's Derived/Test/ToyasCard.lean, 'card_holds'). Laid BY PROGRAM, IN A SANDBOX (cutbox-door.mjs). By AI agents, Wed Nov 11 2026. No macro, syntax, notation, axiom, sorry.
-/
import Derived.Test.YtehkjnmnbplcoaaGreatDoorRows
import GoSem.ClaimSeven
namespace Go.Proofs.YtehkjnmnbplcoaaGreatDoor
namespace Rows

/-- THE TIED CARD OF 'brushwoodlaw19.GraftMeters'. -/
def graftMetersCard : Claim7 := { stood := { row := graftMetersRow, standIns := [], harness := (true, "fbafcd241d9a0e79438b1fdaaf896335661906971ce5571a3c13c2597d5045f0"), looks := true }, kinds := [], alts := [], laidByText := true, laidKinds := [.data], laidTests := true, laidLooks := .later }
def GraftMetersCardSaid : Prop := Claim7.holds Tryz.pinned (.plain (OpenSpec.ofChange graftMetersSpec)) graftMetersCard

/-- THE TIED CARD OF 'brushwoodlaw17.LayoutSame'. -/
def layoutSameCard : Claim7 := { stood := { row := layoutSameRow, standIns := [], harness := (true, "fbafcd241d9a0e79438b1fdaaf896335661906971ce5571a3c13c2597d5045f0"), looks := true }, kinds := [], alts := [], laidByText := true, laidKinds := [.data], laidTests := true, laidLooks := .later }
def LayoutSameCardSaid : Prop := Claim7.holds Tryz.pinned (.plain (OpenSpec.ofChange layoutSameSpec)) layoutSameCard

/-- THE SECOND FORM's CARD OF 'brushwoodlaw19.GraftMeters'. -/
def graftMetersUptoCard : Claim7 := { stood := { row := graftMetersUptoRow, standIns := [], harness := (true, "fbafcd241d9a0e79438b1fdaaf896335661906971ce5571a3c13c2597d5045f0"), looks := true }, kinds := [], alts := [], laidByText := true, laidKinds := [.data], laidTests := true, laidLooks := .later }
def GraftMetersUptoCardSaid : Prop := Claim7.holds Tryz.pinned (.plain (OpenSpec.upto graftMetersSpec)) graftMetersUptoCard

/-- THE SECOND FORM's CARD OF 'brushwoodlaw17.LayoutSame'. -/
def layoutSameUptoCard : Claim7 := { stood := { row := layoutSameUptoRow, standIns := [], harness := (true, "fbafcd241d9a0e79438b1fdaaf896335661906971ce5571a3c13c2597d5045f0"), looks := true }, kinds := [], alts := [], laidByText := true, laidKinds := [.data], laidTests := true, laidLooks := .later }
def LayoutSameUptoCardSaid : Prop := Claim7.holds Tryz.pinned (.plain (OpenSpec.upto layoutSameSpec)) layoutSameUptoCard
end Rows
end Go.Proofs.YtehkjnmnbplcoaaGreatDoor
