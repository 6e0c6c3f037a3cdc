/-
  DERIVED. GIVEN WITH THE SEED: THE CARDS: each row of YtamopjeecnhfaaaGreatDoorRows.lean that lists a variable, with what it lists TIED to the program's text (the seventh form; the later family's looks); each row that meets fmt, with fmt's text TOLD by the authors' own Lean function (tested against real Go, not proved from fmt's source: count such statements apart). THE CARD IS WHAT COUNTS. Prove the row's statement (the work); the ties are given (YtamopjeecnhfaaaGreatDoorTie.lean); close each card by the builder's one call (the guide's Derived/Test/ToyasCard.lean, 'card_holds'). Laid BY PROGRAM, IN A SANDBOX (cutbox-door.mjs). By AI agents, Wed Nov 11 2026. No macro, syntax, notation, axiom, sorry.
-/
import Derived.Test.YtamopjeecnhfaaaGreatDoorRows
import GoSem.ClaimSeven
namespace Go.Proofs.YtamopjeecnhfaaaGreatDoor
namespace Rows

/-- THE TIED CARD OF 'drachmlaw14.EvalTells'. -/
def evalTellsCard : Claim7 := { stood := { row := evalTellsRow, standIns := [], harness := (true, "cc424c9e70d1e0794904a417abef18829882a2f9a8e2ce8c6d1019801c84801b"), looks := true }, kinds := [], alts := [], laidByText := true, laidKinds := [.data, .data, .data, .sentinel, .sentinel, .data, .data, .widerDeep, .data, .data], laidTests := true, laidLooks := .later }
def EvalTellsCardSaid : Prop := Claim7.holds Tryz.pinned (.plain (OpenSpec.ofChange evalTellsSpec)) evalTellsCard

/-- THE TIED CARD OF 'drachmlaw14.EvalSymbols'. -/
def evalSymbolsCard : Claim7 := { stood := { row := evalSymbolsRow, standIns := [], harness := (true, "cc424c9e70d1e0794904a417abef18829882a2f9a8e2ce8c6d1019801c84801b"), looks := true }, kinds := [], alts := [], laidByText := true, laidKinds := [.data, .data, .data, .sentinel, .sentinel, .data, .data, .widerDeep, .data, .data], laidTests := true, laidLooks := .later }
def EvalSymbolsCardSaid : Prop := Claim7.holds Tryz.pinned (.plain (OpenSpec.ofChange evalSymbolsSpec)) evalSymbolsCard

/-- THE TIED CARD OF 'drachmlaw14.EvalWhole'. -/
def evalWholeCard : Claim7 := { stood := { row := evalWholeRow, standIns := [], harness := (true, "cc424c9e70d1e0794904a417abef18829882a2f9a8e2ce8c6d1019801c84801b"), looks := true }, kinds := [], alts := [], laidByText := true, laidKinds := [.data, .data, .data, .sentinel, .sentinel, .data, .data, .widerDeep, .data, .data], laidTests := true, laidLooks := .later }
def EvalWholeCardSaid : Prop := Claim7.holds Tryz.pinned (.plain (OpenSpec.ofChange evalWholeSpec)) evalWholeCard

/-- THE TIED CARD OF 'drachmlaw14.EvalSpecial'. -/
def evalSpecialCard : Claim7 := { stood := { row := evalSpecialRow, standIns := [], harness := (true, "cc424c9e70d1e0794904a417abef18829882a2f9a8e2ce8c6d1019801c84801b"), looks := true }, kinds := [], alts := [], laidByText := true, laidKinds := [.data, .data, .data, .sentinel, .sentinel, .data, .data, .widerDeep, .data, .data], laidTests := true, laidLooks := .later }
def EvalSpecialCardSaid : Prop := Claim7.holds Tryz.pinned (.plain (OpenSpec.ofChange evalSpecialSpec)) evalSpecialCard

/-- THE TIED CARD OF 'drachmlaw14.EvalPrefixes'. -/
def evalPrefixesCard : Claim7 := { stood := { row := evalPrefixesRow, standIns := [], harness := (true, "cc424c9e70d1e0794904a417abef18829882a2f9a8e2ce8c6d1019801c84801b"), looks := true }, kinds := [], alts := [], laidByText := true, laidKinds := [.data, .data, .data, .sentinel, .sentinel, .data, .data, .widerDeep, .data, .data], laidTests := true, laidLooks := .later }
def EvalPrefixesCardSaid : Prop := Claim7.holds Tryz.pinned (.plain (OpenSpec.ofChange evalPrefixesSpec)) evalPrefixesCard

/-- THE TIED CARD OF 'drachmlaw14.EvalBases'. -/
def evalBasesCard : Claim7 := { stood := { row := evalBasesRow, standIns := [], harness := (true, "cc424c9e70d1e0794904a417abef18829882a2f9a8e2ce8c6d1019801c84801b"), looks := true }, kinds := [], alts := [], laidByText := true, laidKinds := [.data, .data, .data, .sentinel, .sentinel, .data, .data, .widerDeep, .data, .data], laidTests := true, laidLooks := .later }
def EvalBasesCardSaid : Prop := Claim7.holds Tryz.pinned (.plain (OpenSpec.ofChange evalBasesSpec)) evalBasesCard

/-- THE TIED CARD OF 'drachmlaw14.EvalNotes'. -/
def evalNotesCard : Claim7 := { stood := { row := evalNotesRow, standIns := [], harness := (true, "cc424c9e70d1e0794904a417abef18829882a2f9a8e2ce8c6d1019801c84801b"), looks := true }, kinds := [], alts := [], laidByText := true, laidKinds := [.data, .data, .data, .sentinel, .sentinel, .data, .data, .widerDeep, .data, .data], laidTests := true, laidLooks := .later }
def EvalNotesCardSaid : Prop := Claim7.holds Tryz.pinned (.plain (OpenSpec.ofChange evalNotesSpec)) evalNotesCard

/-- THE TIED CARD OF 'drachmlaw14.EvalTurned'. -/
def evalTurnedCard : Claim7 := { stood := { row := evalTurnedRow, standIns := [], harness := (true, "cc424c9e70d1e0794904a417abef18829882a2f9a8e2ce8c6d1019801c84801b"), looks := true }, kinds := [], alts := [], laidByText := true, laidKinds := [.data, .data, .data, .sentinel, .sentinel, .data, .data, .widerDeep, .data, .data], laidTests := true, laidLooks := .later }
def EvalTurnedCardSaid : Prop := Claim7.holds Tryz.pinned (.plain (OpenSpec.ofChange evalTurnedSpec)) evalTurnedCard

/-- THE TIED CARD OF 'drachmlaw14.EvalPowers'. -/
def evalPowersCard : Claim7 := { stood := { row := evalPowersRow, standIns := [], harness := (true, "cc424c9e70d1e0794904a417abef18829882a2f9a8e2ce8c6d1019801c84801b"), looks := true }, kinds := [], alts := [], laidByText := true, laidKinds := [.data, .data, .data, .sentinel, .sentinel, .data, .data, .widerDeep, .data, .data], laidTests := true, laidLooks := .later }
def EvalPowersCardSaid : Prop := Claim7.holds Tryz.pinned (.plain (OpenSpec.ofChange evalPowersSpec)) evalPowersCard

/-- THE SECOND FORM's CARD OF 'drachmlaw14.EvalTells'. -/
def evalTellsUptoCard : Claim7 := { stood := { row := evalTellsUptoRow, standIns := [], harness := (true, "cc424c9e70d1e0794904a417abef18829882a2f9a8e2ce8c6d1019801c84801b"), looks := true }, kinds := [], alts := [], laidByText := true, laidKinds := [.data, .data, .data, .sentinel, .sentinel, .data, .data, .widerDeep, .data, .data], laidTests := true, laidLooks := .later }
def EvalTellsUptoCardSaid : Prop := Claim7.holds Tryz.pinned (.plain (OpenSpec.upto evalTellsSpec)) evalTellsUptoCard

/-- THE SECOND FORM's CARD OF 'drachmlaw14.EvalSymbols'. -/
def evalSymbolsUptoCard : Claim7 := { stood := { row := evalSymbolsUptoRow, standIns := [], harness := (true, "cc424c9e70d1e0794904a417abef18829882a2f9a8e2ce8c6d1019801c84801b"), looks := true }, kinds := [], alts := [], laidByText := true, laidKinds := [.data, .data, .data, .sentinel, .sentinel, .data, .data, .widerDeep, .data, .data], laidTests := true, laidLooks := .later }
def EvalSymbolsUptoCardSaid : Prop := Claim7.holds Tryz.pinned (.plain (OpenSpec.upto evalSymbolsSpec)) evalSymbolsUptoCard

/-- THE SECOND FORM's CARD OF 'drachmlaw14.EvalWhole'. -/
def evalWholeUptoCard : Claim7 := { stood := { row := evalWholeUptoRow, standIns := [], harness := (true, "cc424c9e70d1e0794904a417abef18829882a2f9a8e2ce8c6d1019801c84801b"), looks := true }, kinds := [], alts := [], laidByText := true, laidKinds := [.data, .data, .data, .sentinel, .sentinel, .data, .data, .widerDeep, .data, .data], laidTests := true, laidLooks := .later }
def EvalWholeUptoCardSaid : Prop := Claim7.holds Tryz.pinned (.plain (OpenSpec.upto evalWholeSpec)) evalWholeUptoCard

/-- THE SECOND FORM's CARD OF 'drachmlaw14.EvalSpecial'. -/
def evalSpecialUptoCard : Claim7 := { stood := { row := evalSpecialUptoRow, standIns := [], harness := (true, "cc424c9e70d1e0794904a417abef18829882a2f9a8e2ce8c6d1019801c84801b"), looks := true }, kinds := [], alts := [], laidByText := true, laidKinds := [.data, .data, .data, .sentinel, .sentinel, .data, .data, .widerDeep, .data, .data], laidTests := true, laidLooks := .later }
def EvalSpecialUptoCardSaid : Prop := Claim7.holds Tryz.pinned (.plain (OpenSpec.upto evalSpecialSpec)) evalSpecialUptoCard

/-- THE SECOND FORM's CARD OF 'drachmlaw14.EvalPrefixes'. -/
def evalPrefixesUptoCard : Claim7 := { stood := { row := evalPrefixesUptoRow, standIns := [], harness := (true, "cc424c9e70d1e0794904a417abef18829882a2f9a8e2ce8c6d1019801c84801b"), looks := true }, kinds := [], alts := [], laidByText := true, laidKinds := [.data, .data, .data, .sentinel, .sentinel, .data, .data, .widerDeep, .data, .data], laidTests := true, laidLooks := .later }
def EvalPrefixesUptoCardSaid : Prop := Claim7.holds Tryz.pinned (.plain (OpenSpec.upto evalPrefixesSpec)) evalPrefixesUptoCard

/-- THE SECOND FORM's CARD OF 'drachmlaw14.EvalBases'. -/
def evalBasesUptoCard : Claim7 := { stood := { row := evalBasesUptoRow, standIns := [], harness := (true, "cc424c9e70d1e0794904a417abef18829882a2f9a8e2ce8c6d1019801c84801b"), looks := true }, kinds := [], alts := [], laidByText := true, laidKinds := [.data, .data, .data, .sentinel, .sentinel, .data, .data, .widerDeep, .data, .data], laidTests := true, laidLooks := .later }
def EvalBasesUptoCardSaid : Prop := Claim7.holds Tryz.pinned (.plain (OpenSpec.upto evalBasesSpec)) evalBasesUptoCard

/-- THE SECOND FORM's CARD OF 'drachmlaw14.EvalNotes'. -/
def evalNotesUptoCard : Claim7 := { stood := { row := evalNotesUptoRow, standIns := [], harness := (true, "cc424c9e70d1e0794904a417abef18829882a2f9a8e2ce8c6d1019801c84801b"), looks := true }, kinds := [], alts := [], laidByText := true, laidKinds := [.data, .data, .data, .sentinel, .sentinel, .data, .data, .widerDeep, .data, .data], laidTests := true, laidLooks := .later }
def EvalNotesUptoCardSaid : Prop := Claim7.holds Tryz.pinned (.plain (OpenSpec.upto evalNotesSpec)) evalNotesUptoCard

/-- THE SECOND FORM's CARD OF 'drachmlaw14.EvalTurned'. -/
def evalTurnedUptoCard : Claim7 := { stood := { row := evalTurnedUptoRow, standIns := [], harness := (true, "cc424c9e70d1e0794904a417abef18829882a2f9a8e2ce8c6d1019801c84801b"), looks := true }, kinds := [], alts := [], laidByText := true, laidKinds := [.data, .data, .data, .sentinel, .sentinel, .data, .data, .widerDeep, .data, .data], laidTests := true, laidLooks := .later }
def EvalTurnedUptoCardSaid : Prop := Claim7.holds Tryz.pinned (.plain (OpenSpec.upto evalTurnedSpec)) evalTurnedUptoCard

/-- THE SECOND FORM's CARD OF 'drachmlaw14.EvalPowers'. -/
def evalPowersUptoCard : Claim7 := { stood := { row := evalPowersUptoRow, standIns := [], harness := (true, "cc424c9e70d1e0794904a417abef18829882a2f9a8e2ce8c6d1019801c84801b"), looks := true }, kinds := [], alts := [], laidByText := true, laidKinds := [.data, .data, .data, .sentinel, .sentinel, .data, .data, .widerDeep, .data, .data], laidTests := true, laidLooks := .later }
def EvalPowersUptoCardSaid : Prop := Claim7.holds Tryz.pinned (.plain (OpenSpec.upto evalPowersSpec)) evalPowersUptoCard
end Rows
end Go.Proofs.YtamopjeecnhfaaaGreatDoor
