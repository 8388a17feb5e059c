/-
  DERIVED. GIVEN WITH THE SEED: THE CARDS: each row of YtehkjnmnbplcoaaDoorRows.lean that lists a variable, with what it lists TIED to the program's text (the seventh form; the later family's looks); each row that meets fmt, with fmt's text TOLD by the authors' own Lean function (tested against real Go, not proved from fmt's source: count such statements apart). THE CARD IS WHAT COUNTS. Prove the row's statement (the work); the ties are given (YtehkjnmnbplcoaaDoorTie.lean); close each card by the builder's one call (the guide's Derived/Test/ToyasCard.lean, 'card_holds'). Laid BY PROGRAM, IN A SANDBOX (cutbox-door.mjs). By AI agents, Wed Nov 11 2026. No macro, syntax, notation, axiom, sorry.
-/
import Derived.Test.YtehkjnmnbplcoaaDoorRows
import GoSem.ClaimSeven
namespace Go.Proofs.YtehkjnmnbplcoaaDoor
namespace Rows

/-- THE TIED CARD OF 'brushwoodlaw19.GraftPuts'. -/
def graftPutsCard : Claim7 := { stood := { row := graftPutsRow, standIns := [], harness := (true, "413fec3837babb5d473411db71a702f23f29c998bd00833c259dea0914f16826"), looks := true }, kinds := [], alts := [], laidByText := true, laidKinds := [.data], laidTests := true, laidLooks := .later }
def GraftPutsCardSaid : Prop := Claim7.holds Tryd.pinned (.plain (OpenSpec.ofChange graftPutsSpec)) graftPutsCard

/-- THE TIED CARD OF 'brushwoodlaw19.GraftStays'. -/
def graftStaysCard : Claim7 := { stood := { row := graftStaysRow, standIns := [], harness := (true, "413fec3837babb5d473411db71a702f23f29c998bd00833c259dea0914f16826"), looks := true }, kinds := [], alts := [], laidByText := true, laidKinds := [.data], laidTests := true, laidLooks := .later }
def GraftStaysCardSaid : Prop := Claim7.holds Tryd.pinned (.plain (OpenSpec.ofChange graftStaysSpec)) graftStaysCard

/-- THE TIED CARD OF 'brushwoodlaw19.GraftOrder'. -/
def graftOrderCard : Claim7 := { stood := { row := graftOrderRow, standIns := [], harness := (true, "413fec3837babb5d473411db71a702f23f29c998bd00833c259dea0914f16826"), looks := true }, kinds := [], alts := [], laidByText := true, laidKinds := [.data], laidTests := true, laidLooks := .later }
def GraftOrderCardSaid : Prop := Claim7.holds Tryd.pinned (.plain (OpenSpec.ofChange graftOrderSpec)) graftOrderCard

/-- THE TIED CARD OF 'brushwoodlaw17.LayoutComes'. -/
def layoutComesCard : Claim7 := { stood := { row := layoutComesRow, standIns := [], harness := (true, "413fec3837babb5d473411db71a702f23f29c998bd00833c259dea0914f16826"), looks := true }, kinds := [], alts := [], laidByText := true, laidKinds := [.data], laidTests := true, laidLooks := .later }
def LayoutComesCardSaid : Prop := Claim7.holds Tryd.pinned (.plain (OpenSpec.ofChange layoutComesSpec)) layoutComesCard

/-- THE TIED CARD OF 'brushwoodlaw17.LayoutSums'. -/
def layoutSumsCard : Claim7 := { stood := { row := layoutSumsRow, standIns := [], harness := (true, "413fec3837babb5d473411db71a702f23f29c998bd00833c259dea0914f16826"), looks := true }, kinds := [], alts := [], laidByText := true, laidKinds := [.data], laidTests := true, laidLooks := .later }
def LayoutSumsCardSaid : Prop := Claim7.holds Tryd.pinned (.plain (OpenSpec.ofChange layoutSumsSpec)) layoutSumsCard

/-- THE TIED CARD OF 'brushwoodlaw17.LayoutOf'. -/
def layoutOfCard : Claim7 := { stood := { row := layoutOfRow, standIns := [], harness := (true, "413fec3837babb5d473411db71a702f23f29c998bd00833c259dea0914f16826"), looks := true }, kinds := [], alts := [], laidByText := true, laidKinds := [.data], laidTests := true, laidLooks := .later }
def LayoutOfCardSaid : Prop := Claim7.holds Tryd.pinned (.plain (OpenSpec.ofChange layoutOfSpec)) layoutOfCard

/-- THE TIED CARD OF 'brushwoodlaw17.LayoutOrder'. -/
def layoutOrderCard : Claim7 := { stood := { row := layoutOrderRow, standIns := [], harness := (true, "413fec3837babb5d473411db71a702f23f29c998bd00833c259dea0914f16826"), looks := true }, kinds := [], alts := [], laidByText := true, laidKinds := [.data], laidTests := true, laidLooks := .later }
def LayoutOrderCardSaid : Prop := Claim7.holds Tryd.pinned (.plain (OpenSpec.ofChange layoutOrderSpec)) layoutOrderCard

/-- THE TIED CARD OF 'brushwoodlaw18.FindAll'. -/
def findAllCard : Claim7 := { stood := { row := findAllRow, standIns := [], harness := (true, "413fec3837babb5d473411db71a702f23f29c998bd00833c259dea0914f16826"), looks := true }, kinds := [], alts := [], laidByText := true, laidKinds := [.data], laidTests := true, laidLooks := .later }
def FindAllCardSaid : Prop := Claim7.holds Tryd.pinned (.plain (OpenSpec.ofChange findAllSpec)) findAllCard

/-- THE TIED CARD OF 'brushwoodlaw18.FindMeters'. -/
def findMetersCard : Claim7 := { stood := { row := findMetersRow, standIns := [], harness := (true, "413fec3837babb5d473411db71a702f23f29c998bd00833c259dea0914f16826"), looks := true }, kinds := [], alts := [], laidByText := true, laidKinds := [.data], laidTests := true, laidLooks := .later }
def FindMetersCardSaid : Prop := Claim7.holds Tryd.pinned (.plain (OpenSpec.ofChange findMetersSpec)) findMetersCard

/-- THE TIED CARD OF 'brushwoodlaw18.FindGets'. -/
def findGetsCard : Claim7 := { stood := { row := findGetsRow, standIns := [], harness := (true, "413fec3837babb5d473411db71a702f23f29c998bd00833c259dea0914f16826"), looks := true }, kinds := [], alts := [], laidByText := true, laidKinds := [.data], laidTests := true, laidLooks := .later }
def FindGetsCardSaid : Prop := Claim7.holds Tryd.pinned (.plain (OpenSpec.ofChange findGetsSpec)) findGetsCard

/-- THE SECOND FORM's CARD OF 'brushwoodlaw19.GraftPuts'. -/
def graftPutsUptoCard : Claim7 := { stood := { row := graftPutsUptoRow, standIns := [], harness := (true, "413fec3837babb5d473411db71a702f23f29c998bd00833c259dea0914f16826"), looks := true }, kinds := [], alts := [], laidByText := true, laidKinds := [.data], laidTests := true, laidLooks := .later }
def GraftPutsUptoCardSaid : Prop := Claim7.holds Tryd.pinned (.plain (OpenSpec.upto graftPutsSpec)) graftPutsUptoCard

/-- THE SECOND FORM's CARD OF 'brushwoodlaw19.GraftStays'. -/
def graftStaysUptoCard : Claim7 := { stood := { row := graftStaysUptoRow, standIns := [], harness := (true, "413fec3837babb5d473411db71a702f23f29c998bd00833c259dea0914f16826"), looks := true }, kinds := [], alts := [], laidByText := true, laidKinds := [.data], laidTests := true, laidLooks := .later }
def GraftStaysUptoCardSaid : Prop := Claim7.holds Tryd.pinned (.plain (OpenSpec.upto graftStaysSpec)) graftStaysUptoCard

/-- THE SECOND FORM's CARD OF 'brushwoodlaw19.GraftOrder'. -/
def graftOrderUptoCard : Claim7 := { stood := { row := graftOrderUptoRow, standIns := [], harness := (true, "413fec3837babb5d473411db71a702f23f29c998bd00833c259dea0914f16826"), looks := true }, kinds := [], alts := [], laidByText := true, laidKinds := [.data], laidTests := true, laidLooks := .later }
def GraftOrderUptoCardSaid : Prop := Claim7.holds Tryd.pinned (.plain (OpenSpec.upto graftOrderSpec)) graftOrderUptoCard

/-- THE SECOND FORM's CARD OF 'brushwoodlaw17.LayoutComes'. -/
def layoutComesUptoCard : Claim7 := { stood := { row := layoutComesUptoRow, standIns := [], harness := (true, "413fec3837babb5d473411db71a702f23f29c998bd00833c259dea0914f16826"), looks := true }, kinds := [], alts := [], laidByText := true, laidKinds := [.data], laidTests := true, laidLooks := .later }
def LayoutComesUptoCardSaid : Prop := Claim7.holds Tryd.pinned (.plain (OpenSpec.upto layoutComesSpec)) layoutComesUptoCard

/-- THE SECOND FORM's CARD OF 'brushwoodlaw17.LayoutSums'. -/
def layoutSumsUptoCard : Claim7 := { stood := { row := layoutSumsUptoRow, standIns := [], harness := (true, "413fec3837babb5d473411db71a702f23f29c998bd00833c259dea0914f16826"), looks := true }, kinds := [], alts := [], laidByText := true, laidKinds := [.data], laidTests := true, laidLooks := .later }
def LayoutSumsUptoCardSaid : Prop := Claim7.holds Tryd.pinned (.plain (OpenSpec.upto layoutSumsSpec)) layoutSumsUptoCard

/-- THE SECOND FORM's CARD OF 'brushwoodlaw17.LayoutOf'. -/
def layoutOfUptoCard : Claim7 := { stood := { row := layoutOfUptoRow, standIns := [], harness := (true, "413fec3837babb5d473411db71a702f23f29c998bd00833c259dea0914f16826"), looks := true }, kinds := [], alts := [], laidByText := true, laidKinds := [.data], laidTests := true, laidLooks := .later }
def LayoutOfUptoCardSaid : Prop := Claim7.holds Tryd.pinned (.plain (OpenSpec.upto layoutOfSpec)) layoutOfUptoCard

/-- THE SECOND FORM's CARD OF 'brushwoodlaw17.LayoutOrder'. -/
def layoutOrderUptoCard : Claim7 := { stood := { row := layoutOrderUptoRow, standIns := [], harness := (true, "413fec3837babb5d473411db71a702f23f29c998bd00833c259dea0914f16826"), looks := true }, kinds := [], alts := [], laidByText := true, laidKinds := [.data], laidTests := true, laidLooks := .later }
def LayoutOrderUptoCardSaid : Prop := Claim7.holds Tryd.pinned (.plain (OpenSpec.upto layoutOrderSpec)) layoutOrderUptoCard

/-- THE SECOND FORM's CARD OF 'brushwoodlaw18.FindAll'. -/
def findAllUptoCard : Claim7 := { stood := { row := findAllUptoRow, standIns := [], harness := (true, "413fec3837babb5d473411db71a702f23f29c998bd00833c259dea0914f16826"), looks := true }, kinds := [], alts := [], laidByText := true, laidKinds := [.data], laidTests := true, laidLooks := .later }
def FindAllUptoCardSaid : Prop := Claim7.holds Tryd.pinned (.plain (OpenSpec.upto findAllSpec)) findAllUptoCard

/-- THE SECOND FORM's CARD OF 'brushwoodlaw18.FindMeters'. -/
def findMetersUptoCard : Claim7 := { stood := { row := findMetersUptoRow, standIns := [], harness := (true, "413fec3837babb5d473411db71a702f23f29c998bd00833c259dea0914f16826"), looks := true }, kinds := [], alts := [], laidByText := true, laidKinds := [.data], laidTests := true, laidLooks := .later }
def FindMetersUptoCardSaid : Prop := Claim7.holds Tryd.pinned (.plain (OpenSpec.upto findMetersSpec)) findMetersUptoCard

/-- THE SECOND FORM's CARD OF 'brushwoodlaw18.FindGets'. -/
def findGetsUptoCard : Claim7 := { stood := { row := findGetsUptoRow, standIns := [], harness := (true, "413fec3837babb5d473411db71a702f23f29c998bd00833c259dea0914f16826"), looks := true }, kinds := [], alts := [], laidByText := true, laidKinds := [.data], laidTests := true, laidLooks := .later }
def FindGetsUptoCardSaid : Prop := Claim7.holds Tryd.pinned (.plain (OpenSpec.upto findGetsSpec)) findGetsUptoCard
end Rows
end Go.Proofs.YtehkjnmnbplcoaaDoor
