/-
  DERIVED. GIVEN WITH THE SEED: THE CARDS: each row of YtadaoceidkagfaaDoorRows.lean that lists a variable, with what it lists TIED to the program's text (the seventh form; the later family's looks); each row that meets fmt, with fmt's text TOLD by the authors' own Lean function (tested against real Go, not proved from fmt's source: count such statements apart). THE CARD IS WHAT COUNTS. Prove the row's statement (the work); the ties are given (YtadaoceidkagfaaDoorTie.lean); close each card by the builder's one call (the guide's Derived/Test/ToyasCard.lean, 'card_holds'). Laid BY PROGRAM, IN A SANDBOX (cutbox-door.mjs). By AI agents, Wed Nov 11 2026. No macro, syntax, notation, axiom, sorry.
-/
import Derived.Test.YtadaoceidkagfaaDoorRows
import GoSem.ClaimSeven
namespace Go.Proofs.YtadaoceidkagfaaDoor
namespace Rows

/-- THE TIED CARD OF 'brushwoodlaw21.TrieMeters'. -/
def trieMetersCard : Claim7 := { stood := { row := trieMetersRow, standIns := [], harness := (true, "cc46fd635341ed3f7adf986f925ca9283f61cd404661ad2e21fce5db1e67a137"), looks := true }, kinds := [], alts := [], laidByText := true, laidKinds := [.data, .data], laidTests := true, laidLooks := .later }
def TrieMetersCardSaid : Prop := Claim7.holds Tryd.pinned (.plain (OpenSpec.ofChange trieMetersSpec)) trieMetersCard

/-- THE SECOND FORM's CARD OF 'brushwoodlaw21.TrieMeters'. -/
def trieMetersUptoCard : Claim7 := { stood := { row := trieMetersUptoRow, standIns := [], harness := (true, "cc46fd635341ed3f7adf986f925ca9283f61cd404661ad2e21fce5db1e67a137"), looks := true }, kinds := [], alts := [], laidByText := true, laidKinds := [.data, .data], laidTests := true, laidLooks := .later }
def TrieMetersUptoCardSaid : Prop := Claim7.holds Tryd.pinned (.plain (OpenSpec.upto trieMetersSpec)) trieMetersUptoCard
end Rows
end Go.Proofs.YtadaoceidkagfaaDoor
