/-
  DERIVED. GIVEN WITH THE SEED: THE CARDS: each row of YtadaoceidkagfaaGreatDoorRows.lean that lists a variable, with what it lists TIED to the program's text (the seventh form; the later family's looks); each row that meets fmt, with fmt's text TOLD by the authors' own Lean function (tested against real Go, not proved from fmt's source: count such statements apart). THE CARD IS WHAT COUNTS. Prove the row's statement (the work); the ties are given (YtadaoceidkagfaaGreatDoorTie.lean); close each card by the builder's one call (the guide's Derived/Test/ToyasCard.lean, 'card_holds'). Laid BY PROGRAM, IN A SANDBOX (cutbox-door.mjs). By AI agents, Wed Nov 11 2026. No macro, syntax, notation, axiom, sorry.
-/
import Derived.Test.YtadaoceidkagfaaGreatDoorRows
import GoSem.ClaimSeven
namespace Go.Proofs.YtadaoceidkagfaaGreatDoor
namespace Rows

/-- THE TIED CARD OF 'brushwoodlaw21.TrieSeeds'. -/
def trieSeedsCard : Claim7 := { stood := { row := trieSeedsRow, standIns := [], harness := (true, "f84f57c633e618ddaa267e8995ade1a83e89bc599081a922b3bd4fb88292a552"), looks := true }, kinds := [], alts := [], laidByText := true, laidKinds := [.data, .data], laidTests := true, laidLooks := .later }
def TrieSeedsCardSaid : Prop := Claim7.holds Tryz.pinned (.plain (OpenSpec.ofChange trieSeedsSpec)) trieSeedsCard

/-- THE TIED CARD OF 'brushwoodlaw21.TrieStays'. -/
def trieStaysCard : Claim7 := { stood := { row := trieStaysRow, standIns := [], harness := (true, "f84f57c633e618ddaa267e8995ade1a83e89bc599081a922b3bd4fb88292a552"), looks := true }, kinds := [], alts := [], laidByText := true, laidKinds := [.data, .data], laidTests := true, laidLooks := .later }
def TrieStaysCardSaid : Prop := Claim7.holds Tryz.pinned (.plain (OpenSpec.ofChange trieStaysSpec)) trieStaysCard

/-- THE TIED CARD OF 'brushwoodlaw21.TrieCanon'. -/
def trieCanonCard : Claim7 := { stood := { row := trieCanonRow, standIns := [], harness := (true, "f84f57c633e618ddaa267e8995ade1a83e89bc599081a922b3bd4fb88292a552"), looks := true }, kinds := [], alts := [], laidByText := true, laidKinds := [.data, .data], laidTests := true, laidLooks := .later }
def TrieCanonCardSaid : Prop := Claim7.holds Tryz.pinned (.plain (OpenSpec.ofChange trieCanonSpec)) trieCanonCard

/-- THE TIED CARD OF 'brushwoodlaw21.TriePlays'. -/
def triePlaysCard : Claim7 := { stood := { row := triePlaysRow, standIns := [], harness := (true, "f84f57c633e618ddaa267e8995ade1a83e89bc599081a922b3bd4fb88292a552"), looks := true }, kinds := [], alts := [], laidByText := true, laidKinds := [.data, .data], laidTests := true, laidLooks := .later }
def TriePlaysCardSaid : Prop := Claim7.holds Tryz.pinned (.plain (OpenSpec.ofChange triePlaysSpec)) triePlaysCard

/-- THE SECOND FORM's CARD OF 'brushwoodlaw21.TrieSeeds'. -/
def trieSeedsUptoCard : Claim7 := { stood := { row := trieSeedsUptoRow, standIns := [], harness := (true, "f84f57c633e618ddaa267e8995ade1a83e89bc599081a922b3bd4fb88292a552"), looks := true }, kinds := [], alts := [], laidByText := true, laidKinds := [.data, .data], laidTests := true, laidLooks := .later }
def TrieSeedsUptoCardSaid : Prop := Claim7.holds Tryz.pinned (.plain (OpenSpec.upto trieSeedsSpec)) trieSeedsUptoCard

/-- THE SECOND FORM's CARD OF 'brushwoodlaw21.TrieStays'. -/
def trieStaysUptoCard : Claim7 := { stood := { row := trieStaysUptoRow, standIns := [], harness := (true, "f84f57c633e618ddaa267e8995ade1a83e89bc599081a922b3bd4fb88292a552"), looks := true }, kinds := [], alts := [], laidByText := true, laidKinds := [.data, .data], laidTests := true, laidLooks := .later }
def TrieStaysUptoCardSaid : Prop := Claim7.holds Tryz.pinned (.plain (OpenSpec.upto trieStaysSpec)) trieStaysUptoCard

/-- THE SECOND FORM's CARD OF 'brushwoodlaw21.TrieCanon'. -/
def trieCanonUptoCard : Claim7 := { stood := { row := trieCanonUptoRow, standIns := [], harness := (true, "f84f57c633e618ddaa267e8995ade1a83e89bc599081a922b3bd4fb88292a552"), looks := true }, kinds := [], alts := [], laidByText := true, laidKinds := [.data, .data], laidTests := true, laidLooks := .later }
def TrieCanonUptoCardSaid : Prop := Claim7.holds Tryz.pinned (.plain (OpenSpec.upto trieCanonSpec)) trieCanonUptoCard

/-- THE SECOND FORM's CARD OF 'brushwoodlaw21.TriePlays'. -/
def triePlaysUptoCard : Claim7 := { stood := { row := triePlaysUptoRow, standIns := [], harness := (true, "f84f57c633e618ddaa267e8995ade1a83e89bc599081a922b3bd4fb88292a552"), looks := true }, kinds := [], alts := [], laidByText := true, laidKinds := [.data, .data], laidTests := true, laidLooks := .later }
def TriePlaysUptoCardSaid : Prop := Claim7.holds Tryz.pinned (.plain (OpenSpec.upto triePlaysSpec)) triePlaysUptoCard
end Rows
end Go.Proofs.YtadaoceidkagfaaGreatDoor
