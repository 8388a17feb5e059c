/-
  DERIVED. GIVEN WITH THE SEED: THE CARDS: each row of YtkblhilaeecdlaaDoorRows.lean that lists a variable, with what it lists TIED to the program's text (the seventh form; the later family's looks); each row that meets fmt, with fmt's text TOLD by the authors' own Lean function (tested against real Go, not proved from fmt's source: count such statements apart). THE CARD IS WHAT COUNTS. Prove the row's statement (the work); the ties are given (YtkblhilaeecdlaaDoorTie.lean); close each card by the builder's one call (the guide's Derived/Test/ToyasCard.lean, 'card_holds'). Laid BY PROGRAM, IN A SANDBOX (cutbox-door.mjs). By AI agents, Wed Nov 11 2026. No macro, syntax, notation, axiom, sorry.
-/
import Derived.Test.YtkblhilaeecdlaaDoorRows
import GoSem.ClaimSeven
namespace Go.Proofs.YtkblhilaeecdlaaDoor
namespace Rows

/-- THE TIED CARD OF 'brushwoodlaw16.NodeRight'. -/
def nodeRightCard : Claim7 := { stood := { row := nodeRightRow, standIns := [], harness := (true, "7316e2f063c0ce1a29a04bd775221e63cf1277015e8a63df496e9ae664d178e1"), looks := true }, kinds := [], alts := [], laidByText := true, laidKinds := [.data], laidTests := true, laidLooks := .later }
def NodeRightCardSaid : Prop := Claim7.holds Tryd.pinned (.plain (OpenSpec.ofChange nodeRightSpec)) nodeRightCard

/-- THE SECOND FORM's CARD OF 'brushwoodlaw16.NodeRight'. -/
def nodeRightUptoCard : Claim7 := { stood := { row := nodeRightUptoRow, standIns := [], harness := (true, "7316e2f063c0ce1a29a04bd775221e63cf1277015e8a63df496e9ae664d178e1"), looks := true }, kinds := [], alts := [], laidByText := true, laidKinds := [.data], laidTests := true, laidLooks := .later }
def NodeRightUptoCardSaid : Prop := Claim7.holds Tryd.pinned (.plain (OpenSpec.upto nodeRightSpec)) nodeRightUptoCard
end Rows
end Go.Proofs.YtkblhilaeecdlaaDoor
