/-
  DERIVED. GIVEN WITH THE SEED: THE CARDS: each row of YtleaeoncofgkjaaDoorRows.lean that lists a variable, with what it lists TIED to the program's text (the seventh form; the later family's looks); each row that meets fmt, with fmt's text TOLD by the authors' own Lean function (tested against real Go, not proved from fmt's source: count such statements apart). THE CARD IS WHAT COUNTS. Prove the row's statement (the work); the ties are given (YtleaeoncofgkjaaDoorTie.lean); close each card by the builder's one call (the guide's Derived/Test/ToyasCard.lean, 'card_holds'). Laid BY PROGRAM, IN A SANDBOX (cutbox-door.mjs). By AI agents, Wed Nov 11 2026. No macro, syntax, notation, axiom, sorry.
-/
import Derived.Test.YtleaeoncofgkjaaDoorRows
import GoSem.ClaimSeven
namespace Go.Proofs.YtleaeoncofgkjaaDoor
namespace Rows

/-- THE TIED CARD OF 'drachmlaw18.LegalTells'. -/
def legalTellsCard : Claim7 := { stood := { row := legalTellsRow, standIns := [], harness := (true, "bf197c2a1d281b6b74f47c9fd101f4da671637a52cd5e9b5dc2d28021c99a0c3"), looks := true }, kinds := [], alts := [], laidByText := true, laidKinds := [.widerDeep], laidTests := true, laidLooks := .later }
def LegalTellsCardSaid : Prop := Claim7.holds Tryd.pinned (.plain (OpenSpec.ofChange legalTellsSpec)) legalTellsCard

/-- THE TIED CARD OF 'drachmlaw18.LegalRanks'. -/
def legalRanksCard : Claim7 := { stood := { row := legalRanksRow, standIns := [], harness := (true, "bf197c2a1d281b6b74f47c9fd101f4da671637a52cd5e9b5dc2d28021c99a0c3"), looks := true }, kinds := [], alts := [], laidByText := true, laidKinds := [.widerDeep], laidTests := true, laidLooks := .later }
def LegalRanksCardSaid : Prop := Claim7.holds Tryd.pinned (.plain (OpenSpec.ofChange legalRanksSpec)) legalRanksCard

/-- THE TIED CARD OF 'drachmlaw18.LegalTries'. -/
def legalTriesCard : Claim7 := { stood := { row := legalTriesRow, standIns := [], harness := (true, "bf197c2a1d281b6b74f47c9fd101f4da671637a52cd5e9b5dc2d28021c99a0c3"), looks := true }, kinds := [], alts := [], laidByText := true, laidKinds := [.widerDeep], laidTests := true, laidLooks := .later }
def LegalTriesCardSaid : Prop := Claim7.holds Tryd.pinned (.plain (OpenSpec.ofChange legalTriesSpec)) legalTriesCard

/-- THE TIED CARD OF 'drachmlaw11.ParsePowers'. -/
def parsePowersCard : Claim7 := { stood := { row := parsePowersRow, standIns := [], harness := (true, "bf197c2a1d281b6b74f47c9fd101f4da671637a52cd5e9b5dc2d28021c99a0c3"), looks := true }, kinds := [], alts := [], laidByText := true, laidKinds := [.data, .data, .data, .sentinel, .sentinel, .widerDeep, .data], laidTests := true, laidLooks := .later }
def ParsePowersCardSaid : Prop := Claim7.holds Tryd.pinned (.plain (OpenSpec.ofChange parsePowersSpec)) parsePowersCard

/-- THE TIED CARD OF 'drachmlaw18.LegalParses'. -/
def legalParsesCard : Claim7 := { stood := { row := legalParsesRow, standIns := [], harness := (true, "bf197c2a1d281b6b74f47c9fd101f4da671637a52cd5e9b5dc2d28021c99a0c3"), looks := true }, kinds := [], alts := [], laidByText := true, laidKinds := [.data, .data, .data, .sentinel, .sentinel, .widerDeep, .data], laidTests := true, laidLooks := .later }
def LegalParsesCardSaid : Prop := Claim7.holds Tryd.pinned (.plain (OpenSpec.ofChange legalParsesSpec)) legalParsesCard

/-- THE SECOND FORM's CARD OF 'drachmlaw18.LegalTells'. -/
def legalTellsUptoCard : Claim7 := { stood := { row := legalTellsUptoRow, standIns := [], harness := (true, "bf197c2a1d281b6b74f47c9fd101f4da671637a52cd5e9b5dc2d28021c99a0c3"), looks := true }, kinds := [], alts := [], laidByText := true, laidKinds := [.widerDeep], laidTests := true, laidLooks := .later }
def LegalTellsUptoCardSaid : Prop := Claim7.holds Tryd.pinned (.plain (OpenSpec.upto legalTellsSpec)) legalTellsUptoCard

/-- THE SECOND FORM's CARD OF 'drachmlaw18.LegalRanks'. -/
def legalRanksUptoCard : Claim7 := { stood := { row := legalRanksUptoRow, standIns := [], harness := (true, "bf197c2a1d281b6b74f47c9fd101f4da671637a52cd5e9b5dc2d28021c99a0c3"), looks := true }, kinds := [], alts := [], laidByText := true, laidKinds := [.widerDeep], laidTests := true, laidLooks := .later }
def LegalRanksUptoCardSaid : Prop := Claim7.holds Tryd.pinned (.plain (OpenSpec.upto legalRanksSpec)) legalRanksUptoCard

/-- THE SECOND FORM's CARD OF 'drachmlaw18.LegalTries'. -/
def legalTriesUptoCard : Claim7 := { stood := { row := legalTriesUptoRow, standIns := [], harness := (true, "bf197c2a1d281b6b74f47c9fd101f4da671637a52cd5e9b5dc2d28021c99a0c3"), looks := true }, kinds := [], alts := [], laidByText := true, laidKinds := [.widerDeep], laidTests := true, laidLooks := .later }
def LegalTriesUptoCardSaid : Prop := Claim7.holds Tryd.pinned (.plain (OpenSpec.upto legalTriesSpec)) legalTriesUptoCard

/-- THE SECOND FORM's CARD OF 'drachmlaw11.ParsePowers'. -/
def parsePowersUptoCard : Claim7 := { stood := { row := parsePowersUptoRow, standIns := [], harness := (true, "bf197c2a1d281b6b74f47c9fd101f4da671637a52cd5e9b5dc2d28021c99a0c3"), looks := true }, kinds := [], alts := [], laidByText := true, laidKinds := [.data, .data, .data, .sentinel, .sentinel, .widerDeep, .data], laidTests := true, laidLooks := .later }
def ParsePowersUptoCardSaid : Prop := Claim7.holds Tryd.pinned (.plain (OpenSpec.upto parsePowersSpec)) parsePowersUptoCard

/-- THE SECOND FORM's CARD OF 'drachmlaw18.LegalParses'. -/
def legalParsesUptoCard : Claim7 := { stood := { row := legalParsesUptoRow, standIns := [], harness := (true, "bf197c2a1d281b6b74f47c9fd101f4da671637a52cd5e9b5dc2d28021c99a0c3"), looks := true }, kinds := [], alts := [], laidByText := true, laidKinds := [.data, .data, .data, .sentinel, .sentinel, .widerDeep, .data], laidTests := true, laidLooks := .later }
def LegalParsesUptoCardSaid : Prop := Claim7.holds Tryd.pinned (.plain (OpenSpec.upto legalParsesSpec)) legalParsesUptoCard
end Rows
end Go.Proofs.YtleaeoncofgkjaaDoor
