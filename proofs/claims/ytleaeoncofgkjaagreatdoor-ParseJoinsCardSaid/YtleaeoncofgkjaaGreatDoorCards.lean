/-
  DERIVED. GIVEN WITH THE SEED: THE CARDS: each row of YtleaeoncofgkjaaGreatDoorRows.lean that lists a variable, with what it lists TIED to the program's text (the seventh form; the later family's looks); each row that meets fmt, with fmt's text TOLD by the authors' own Lean function (tested against real Go, not proved from fmt's source: count such statements apart). THE CARD IS WHAT COUNTS. Prove the row's statement (the work); the ties are given (YtleaeoncofgkjaaGreatDoorTie.lean); close each card by the builder's one call (the guide's Derived/Test/ToyasCard.lean, 'card_holds'). Laid BY PROGRAM, IN A SANDBOX (cutbox-door.mjs). By AI agents, Wed Nov 11 2026. No macro, syntax, notation, axiom, sorry.
-/
import Derived.Test.YtleaeoncofgkjaaGreatDoorRows
import GoSem.ClaimSeven
namespace Go.Proofs.YtleaeoncofgkjaaGreatDoor
namespace Rows

/-- THE TIED CARD OF 'drachmlaw11.ParseTells'. -/
def parseTellsCard : Claim7 := { stood := { row := parseTellsRow, standIns := [], harness := (true, "3bb5ccb417ec94b1b0f20f3ea41af5c2ddf4f9b8135db79d51955d2e672dc8b7"), looks := true }, kinds := [], alts := [], laidByText := true, laidKinds := [.data, .data, .data, .sentinel, .sentinel, .widerDeep, .data], laidTests := true, laidLooks := .later }
def ParseTellsCardSaid : Prop := Claim7.holds Tryz.pinned (.plain (OpenSpec.ofChange parseTellsSpec)) parseTellsCard

/-- THE TIED CARD OF 'drachmlaw11.ParseBrackets'. -/
def parseBracketsCard : Claim7 := { stood := { row := parseBracketsRow, standIns := [], harness := (true, "3bb5ccb417ec94b1b0f20f3ea41af5c2ddf4f9b8135db79d51955d2e672dc8b7"), looks := true }, kinds := [], alts := [], laidByText := true, laidKinds := [.data, .data, .data, .sentinel, .sentinel, .widerDeep, .data], laidTests := true, laidLooks := .later }
def ParseBracketsCardSaid : Prop := Claim7.holds Tryz.pinned (.plain (OpenSpec.ofChange parseBracketsSpec)) parseBracketsCard

/-- THE TIED CARD OF 'drachmlaw11.ParseJoins'. -/
def parseJoinsCard : Claim7 := { stood := { row := parseJoinsRow, standIns := [], harness := (true, "3bb5ccb417ec94b1b0f20f3ea41af5c2ddf4f9b8135db79d51955d2e672dc8b7"), looks := true }, kinds := [], alts := [], laidByText := true, laidKinds := [.data, .data, .data, .sentinel, .sentinel, .widerDeep, .data], laidTests := true, laidLooks := .later }
def ParseJoinsCardSaid : Prop := Claim7.holds Tryz.pinned (.plain (OpenSpec.ofChange parseJoinsSpec)) parseJoinsCard

/-- THE TIED CARD OF 'drachmlaw11.ParseEnds'. -/
def parseEndsCard : Claim7 := { stood := { row := parseEndsRow, standIns := [], harness := (true, "3bb5ccb417ec94b1b0f20f3ea41af5c2ddf4f9b8135db79d51955d2e672dc8b7"), looks := true }, kinds := [], alts := [], laidByText := true, laidKinds := [.data, .data, .data, .sentinel, .sentinel, .widerDeep, .data], laidTests := true, laidLooks := .later }
def ParseEndsCardSaid : Prop := Claim7.holds Tryz.pinned (.plain (OpenSpec.ofChange parseEndsSpec)) parseEndsCard

/-- THE TIED CARD OF 'drachmlaw11.ParseNotes'. -/
def parseNotesCard : Claim7 := { stood := { row := parseNotesRow, standIns := [], harness := (true, "3bb5ccb417ec94b1b0f20f3ea41af5c2ddf4f9b8135db79d51955d2e672dc8b7"), looks := true }, kinds := [], alts := [], laidByText := true, laidKinds := [.data, .data, .data, .sentinel, .sentinel, .widerDeep, .data], laidTests := true, laidLooks := .later }
def ParseNotesCardSaid : Prop := Claim7.holds Tryz.pinned (.plain (OpenSpec.ofChange parseNotesSpec)) parseNotesCard

/-- THE TIED CARD OF 'drachmlaw11.ParseSound'. -/
def parseSoundCard : Claim7 := { stood := { row := parseSoundRow, standIns := [], harness := (true, "3bb5ccb417ec94b1b0f20f3ea41af5c2ddf4f9b8135db79d51955d2e672dc8b7"), looks := true }, kinds := [], alts := [], laidByText := true, laidKinds := [.data, .data, .data, .sentinel, .sentinel, .widerDeep, .data], laidTests := true, laidLooks := .later }
def ParseSoundCardSaid : Prop := Claim7.holds Tryz.pinned (.plain (OpenSpec.ofChange parseSoundSpec)) parseSoundCard

/-- THE SECOND FORM's CARD OF 'drachmlaw11.ParseTells'. -/
def parseTellsUptoCard : Claim7 := { stood := { row := parseTellsUptoRow, standIns := [], harness := (true, "3bb5ccb417ec94b1b0f20f3ea41af5c2ddf4f9b8135db79d51955d2e672dc8b7"), looks := true }, kinds := [], alts := [], laidByText := true, laidKinds := [.data, .data, .data, .sentinel, .sentinel, .widerDeep, .data], laidTests := true, laidLooks := .later }
def ParseTellsUptoCardSaid : Prop := Claim7.holds Tryz.pinned (.plain (OpenSpec.upto parseTellsSpec)) parseTellsUptoCard

/-- THE SECOND FORM's CARD OF 'drachmlaw11.ParseBrackets'. -/
def parseBracketsUptoCard : Claim7 := { stood := { row := parseBracketsUptoRow, standIns := [], harness := (true, "3bb5ccb417ec94b1b0f20f3ea41af5c2ddf4f9b8135db79d51955d2e672dc8b7"), looks := true }, kinds := [], alts := [], laidByText := true, laidKinds := [.data, .data, .data, .sentinel, .sentinel, .widerDeep, .data], laidTests := true, laidLooks := .later }
def ParseBracketsUptoCardSaid : Prop := Claim7.holds Tryz.pinned (.plain (OpenSpec.upto parseBracketsSpec)) parseBracketsUptoCard

/-- THE SECOND FORM's CARD OF 'drachmlaw11.ParseJoins'. -/
def parseJoinsUptoCard : Claim7 := { stood := { row := parseJoinsUptoRow, standIns := [], harness := (true, "3bb5ccb417ec94b1b0f20f3ea41af5c2ddf4f9b8135db79d51955d2e672dc8b7"), looks := true }, kinds := [], alts := [], laidByText := true, laidKinds := [.data, .data, .data, .sentinel, .sentinel, .widerDeep, .data], laidTests := true, laidLooks := .later }
def ParseJoinsUptoCardSaid : Prop := Claim7.holds Tryz.pinned (.plain (OpenSpec.upto parseJoinsSpec)) parseJoinsUptoCard

/-- THE SECOND FORM's CARD OF 'drachmlaw11.ParseEnds'. -/
def parseEndsUptoCard : Claim7 := { stood := { row := parseEndsUptoRow, standIns := [], harness := (true, "3bb5ccb417ec94b1b0f20f3ea41af5c2ddf4f9b8135db79d51955d2e672dc8b7"), looks := true }, kinds := [], alts := [], laidByText := true, laidKinds := [.data, .data, .data, .sentinel, .sentinel, .widerDeep, .data], laidTests := true, laidLooks := .later }
def ParseEndsUptoCardSaid : Prop := Claim7.holds Tryz.pinned (.plain (OpenSpec.upto parseEndsSpec)) parseEndsUptoCard

/-- THE SECOND FORM's CARD OF 'drachmlaw11.ParseNotes'. -/
def parseNotesUptoCard : Claim7 := { stood := { row := parseNotesUptoRow, standIns := [], harness := (true, "3bb5ccb417ec94b1b0f20f3ea41af5c2ddf4f9b8135db79d51955d2e672dc8b7"), looks := true }, kinds := [], alts := [], laidByText := true, laidKinds := [.data, .data, .data, .sentinel, .sentinel, .widerDeep, .data], laidTests := true, laidLooks := .later }
def ParseNotesUptoCardSaid : Prop := Claim7.holds Tryz.pinned (.plain (OpenSpec.upto parseNotesSpec)) parseNotesUptoCard

/-- THE SECOND FORM's CARD OF 'drachmlaw11.ParseSound'. -/
def parseSoundUptoCard : Claim7 := { stood := { row := parseSoundUptoRow, standIns := [], harness := (true, "3bb5ccb417ec94b1b0f20f3ea41af5c2ddf4f9b8135db79d51955d2e672dc8b7"), looks := true }, kinds := [], alts := [], laidByText := true, laidKinds := [.data, .data, .data, .sentinel, .sentinel, .widerDeep, .data], laidTests := true, laidLooks := .later }
def ParseSoundUptoCardSaid : Prop := Claim7.holds Tryz.pinned (.plain (OpenSpec.upto parseSoundSpec)) parseSoundUptoCard
end Rows
end Go.Proofs.YtleaeoncofgkjaaGreatDoor
