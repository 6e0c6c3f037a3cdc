/-
  DERIVED. GIVEN WITH THE SEED: THE CARDS: each row of YteiaohbhlapklaaGreatDoorRows.lean that lists a variable, with what it lists TIED to the program's text (the seventh form; the later family's looks); each row that meets fmt, with fmt's text TOLD by the authors' own Lean function (tested against real Go, not proved from fmt's source: count such statements apart). THE CARD IS WHAT COUNTS. Prove the row's statement (the work); the ties are given (YteiaohbhlapklaaGreatDoorTie.lean); close each card by the builder's one call (the guide's Derived/Test/ToyasCard.lean, 'card_holds'). Laid BY PROGRAM, IN A SANDBOX (cutbox-door.mjs). By AI agents, Wed Nov 11 2026. No macro, syntax, notation, axiom, sorry.
-/
import Derived.Test.YteiaohbhlapklaaGreatDoorRows
import GoSem.ClaimSeven
namespace Go.Proofs.YteiaohbhlapklaaGreatDoor
namespace Rows

/-- THE TIED CARD OF 'drachmlaw12.PrintTells'. -/
def printTellsCard : Claim7 := { stood := { row := printTellsRow, standIns := [], harness := (true, "766d7e2be7c9f412d2a77aea66ef5b580f147dcc7ebb4200a1b2b1bc03018fb9"), looks := true }, kinds := [], alts := [], laidByText := true, laidKinds := [.data, .data, .data, .sentinel, .sentinel, .widerDeep, .data], laidTests := true, laidLooks := .later }
def PrintTellsCardSaid : Prop := Claim7.holds Tryz.pinned (.plain (OpenSpec.ofChange printTellsSpec)) printTellsCard

/-- THE TIED CARD OF 'drachmlaw12.PrintBack'. -/
def printBackCard : Claim7 := { stood := { row := printBackRow, standIns := [], harness := (true, "766d7e2be7c9f412d2a77aea66ef5b580f147dcc7ebb4200a1b2b1bc03018fb9"), looks := true }, kinds := [], alts := [], laidByText := true, laidKinds := [.data, .data, .data, .sentinel, .sentinel, .widerDeep, .data], laidTests := true, laidLooks := .later }
def PrintBackCardSaid : Prop := Claim7.holds Tryz.pinned (.plain (OpenSpec.ofChange printBackSpec)) printBackCard

/-- THE TIED CARD OF 'drachmlaw12.PrintShort'. -/
def printShortCard : Claim7 := { stood := { row := printShortRow, standIns := [], harness := (true, "766d7e2be7c9f412d2a77aea66ef5b580f147dcc7ebb4200a1b2b1bc03018fb9"), looks := true }, kinds := [], alts := [], laidByText := true, laidKinds := [.data, .data, .data, .sentinel, .sentinel, .widerDeep, .data], laidTests := true, laidLooks := .later }
def PrintShortCardSaid : Prop := Claim7.holds Tryz.pinned (.plain (OpenSpec.ofChange printShortSpec)) printShortCard

/-- THE TIED CARD OF 'drachmlaw12.PrintMiss'. -/
def printMissCard : Claim7 := { stood := { row := printMissRow, standIns := [], harness := (true, "766d7e2be7c9f412d2a77aea66ef5b580f147dcc7ebb4200a1b2b1bc03018fb9"), looks := true }, kinds := [], alts := [], laidByText := true, laidKinds := [.data, .data, .data, .sentinel, .sentinel, .widerDeep, .data], laidTests := true, laidLooks := .later }
def PrintMissCardSaid : Prop := Claim7.holds Tryz.pinned (.plain (OpenSpec.ofChange printMissSpec)) printMissCard

/-- THE TIED CARD OF 'drachmlaw12.PrintDeep'. -/
def printDeepCard : Claim7 := { stood := { row := printDeepRow, standIns := [], harness := (true, "766d7e2be7c9f412d2a77aea66ef5b580f147dcc7ebb4200a1b2b1bc03018fb9"), looks := true }, kinds := [], alts := [], laidByText := true, laidKinds := [.data, .data, .data, .sentinel, .sentinel, .widerDeep, .data], laidTests := true, laidLooks := .later }
def PrintDeepCardSaid : Prop := Claim7.holds Tryz.pinned (.plain (OpenSpec.ofChange printDeepSpec)) printDeepCard

/-- THE TIED CARD OF 'drachmlaw12.PrintRaised'. -/
def printRaisedCard : Claim7 := { stood := { row := printRaisedRow, standIns := [], harness := (true, "766d7e2be7c9f412d2a77aea66ef5b580f147dcc7ebb4200a1b2b1bc03018fb9"), looks := true }, kinds := [], alts := [], laidByText := true, laidKinds := [.data, .data, .data, .sentinel, .sentinel, .widerDeep, .data], laidTests := true, laidLooks := .later }
def PrintRaisedCardSaid : Prop := Claim7.holds Tryz.pinned (.plain (OpenSpec.ofChange printRaisedSpec)) printRaisedCard

/-- THE TIED CARD OF 'drachmlaw13.TellTells'. -/
def tellTellsCard : Claim7 := { stood := { row := tellTellsRow, standIns := [], harness := (true, "766d7e2be7c9f412d2a77aea66ef5b580f147dcc7ebb4200a1b2b1bc03018fb9"), looks := true }, kinds := [], alts := [], laidByText := true, laidKinds := [.data, .data, .data, .sentinel, .sentinel, .widerDeep, .data], laidTests := true, laidLooks := .later }
def TellTellsCardSaid : Prop := Claim7.holds Tryz.pinned (.plain (OpenSpec.ofChange tellTellsSpec)) tellTellsCard

/-- THE TIED CARD OF 'drachmlaw13.TellBack'. -/
def tellBackCard : Claim7 := { stood := { row := tellBackRow, standIns := [], harness := (true, "766d7e2be7c9f412d2a77aea66ef5b580f147dcc7ebb4200a1b2b1bc03018fb9"), looks := true }, kinds := [], alts := [], laidByText := true, laidKinds := [.data, .data, .data, .sentinel, .sentinel, .widerDeep, .data], laidTests := true, laidLooks := .later }
def TellBackCardSaid : Prop := Claim7.holds Tryz.pinned (.plain (OpenSpec.ofChange tellBackSpec)) tellBackCard

/-- THE TIED CARD OF 'drachmlaw13.TellWays'. -/
def tellWaysCard : Claim7 := { stood := { row := tellWaysRow, standIns := [], harness := (true, "766d7e2be7c9f412d2a77aea66ef5b580f147dcc7ebb4200a1b2b1bc03018fb9"), looks := true }, kinds := [], alts := [], laidByText := true, laidKinds := [.data, .data, .data, .sentinel, .sentinel, .widerDeep, .data], laidTests := true, laidLooks := .later }
def TellWaysCardSaid : Prop := Claim7.holds Tryz.pinned (.plain (OpenSpec.ofChange tellWaysSpec)) tellWaysCard

/-- THE TIED CARD OF 'drachmlaw13.TellNames'. -/
def tellNamesCard : Claim7 := { stood := { row := tellNamesRow, standIns := [], harness := (true, "766d7e2be7c9f412d2a77aea66ef5b580f147dcc7ebb4200a1b2b1bc03018fb9"), looks := true }, kinds := [], alts := [], laidByText := true, laidKinds := [.data, .data, .data, .sentinel, .sentinel, .widerDeep, .data], laidTests := true, laidLooks := .later }
def TellNamesCardSaid : Prop := Claim7.holds Tryz.pinned (.plain (OpenSpec.ofChange tellNamesSpec)) tellNamesCard

/-- THE TIED CARD OF 'drachmlaw13.TellCan'. -/
def tellCanCard : Claim7 := { stood := { row := tellCanRow, standIns := [], harness := (true, "766d7e2be7c9f412d2a77aea66ef5b580f147dcc7ebb4200a1b2b1bc03018fb9"), looks := true }, kinds := [], alts := [], laidByText := true, laidKinds := [.data, .data, .data, .sentinel, .sentinel, .widerDeep, .data], laidTests := true, laidLooks := .later }
def TellCanCardSaid : Prop := Claim7.holds Tryz.pinned (.plain (OpenSpec.ofChange tellCanSpec)) tellCanCard

/-- THE TIED CARD OF 'drachmlaw13.TellOwn'. -/
def tellOwnCard : Claim7 := { stood := { row := tellOwnRow, standIns := [], harness := (true, "766d7e2be7c9f412d2a77aea66ef5b580f147dcc7ebb4200a1b2b1bc03018fb9"), looks := true }, kinds := [], alts := [], laidByText := true, laidKinds := [.data, .data, .data, .sentinel, .sentinel, .widerDeep, .data], laidTests := true, laidLooks := .later }
def TellOwnCardSaid : Prop := Claim7.holds Tryz.pinned (.plain (OpenSpec.ofChange tellOwnSpec)) tellOwnCard

/-- THE SECOND FORM's CARD OF 'drachmlaw12.PrintTells'. -/
def printTellsUptoCard : Claim7 := { stood := { row := printTellsUptoRow, standIns := [], harness := (true, "766d7e2be7c9f412d2a77aea66ef5b580f147dcc7ebb4200a1b2b1bc03018fb9"), looks := true }, kinds := [], alts := [], laidByText := true, laidKinds := [.data, .data, .data, .sentinel, .sentinel, .widerDeep, .data], laidTests := true, laidLooks := .later }
def PrintTellsUptoCardSaid : Prop := Claim7.holds Tryz.pinned (.plain (OpenSpec.upto printTellsSpec)) printTellsUptoCard

/-- THE SECOND FORM's CARD OF 'drachmlaw12.PrintBack'. -/
def printBackUptoCard : Claim7 := { stood := { row := printBackUptoRow, standIns := [], harness := (true, "766d7e2be7c9f412d2a77aea66ef5b580f147dcc7ebb4200a1b2b1bc03018fb9"), looks := true }, kinds := [], alts := [], laidByText := true, laidKinds := [.data, .data, .data, .sentinel, .sentinel, .widerDeep, .data], laidTests := true, laidLooks := .later }
def PrintBackUptoCardSaid : Prop := Claim7.holds Tryz.pinned (.plain (OpenSpec.upto printBackSpec)) printBackUptoCard

/-- THE SECOND FORM's CARD OF 'drachmlaw12.PrintShort'. -/
def printShortUptoCard : Claim7 := { stood := { row := printShortUptoRow, standIns := [], harness := (true, "766d7e2be7c9f412d2a77aea66ef5b580f147dcc7ebb4200a1b2b1bc03018fb9"), looks := true }, kinds := [], alts := [], laidByText := true, laidKinds := [.data, .data, .data, .sentinel, .sentinel, .widerDeep, .data], laidTests := true, laidLooks := .later }
def PrintShortUptoCardSaid : Prop := Claim7.holds Tryz.pinned (.plain (OpenSpec.upto printShortSpec)) printShortUptoCard

/-- THE SECOND FORM's CARD OF 'drachmlaw12.PrintMiss'. -/
def printMissUptoCard : Claim7 := { stood := { row := printMissUptoRow, standIns := [], harness := (true, "766d7e2be7c9f412d2a77aea66ef5b580f147dcc7ebb4200a1b2b1bc03018fb9"), looks := true }, kinds := [], alts := [], laidByText := true, laidKinds := [.data, .data, .data, .sentinel, .sentinel, .widerDeep, .data], laidTests := true, laidLooks := .later }
def PrintMissUptoCardSaid : Prop := Claim7.holds Tryz.pinned (.plain (OpenSpec.upto printMissSpec)) printMissUptoCard

/-- THE SECOND FORM's CARD OF 'drachmlaw12.PrintDeep'. -/
def printDeepUptoCard : Claim7 := { stood := { row := printDeepUptoRow, standIns := [], harness := (true, "766d7e2be7c9f412d2a77aea66ef5b580f147dcc7ebb4200a1b2b1bc03018fb9"), looks := true }, kinds := [], alts := [], laidByText := true, laidKinds := [.data, .data, .data, .sentinel, .sentinel, .widerDeep, .data], laidTests := true, laidLooks := .later }
def PrintDeepUptoCardSaid : Prop := Claim7.holds Tryz.pinned (.plain (OpenSpec.upto printDeepSpec)) printDeepUptoCard

/-- THE SECOND FORM's CARD OF 'drachmlaw12.PrintRaised'. -/
def printRaisedUptoCard : Claim7 := { stood := { row := printRaisedUptoRow, standIns := [], harness := (true, "766d7e2be7c9f412d2a77aea66ef5b580f147dcc7ebb4200a1b2b1bc03018fb9"), looks := true }, kinds := [], alts := [], laidByText := true, laidKinds := [.data, .data, .data, .sentinel, .sentinel, .widerDeep, .data], laidTests := true, laidLooks := .later }
def PrintRaisedUptoCardSaid : Prop := Claim7.holds Tryz.pinned (.plain (OpenSpec.upto printRaisedSpec)) printRaisedUptoCard

/-- THE SECOND FORM's CARD OF 'drachmlaw13.TellTells'. -/
def tellTellsUptoCard : Claim7 := { stood := { row := tellTellsUptoRow, standIns := [], harness := (true, "766d7e2be7c9f412d2a77aea66ef5b580f147dcc7ebb4200a1b2b1bc03018fb9"), looks := true }, kinds := [], alts := [], laidByText := true, laidKinds := [.data, .data, .data, .sentinel, .sentinel, .widerDeep, .data], laidTests := true, laidLooks := .later }
def TellTellsUptoCardSaid : Prop := Claim7.holds Tryz.pinned (.plain (OpenSpec.upto tellTellsSpec)) tellTellsUptoCard

/-- THE SECOND FORM's CARD OF 'drachmlaw13.TellBack'. -/
def tellBackUptoCard : Claim7 := { stood := { row := tellBackUptoRow, standIns := [], harness := (true, "766d7e2be7c9f412d2a77aea66ef5b580f147dcc7ebb4200a1b2b1bc03018fb9"), looks := true }, kinds := [], alts := [], laidByText := true, laidKinds := [.data, .data, .data, .sentinel, .sentinel, .widerDeep, .data], laidTests := true, laidLooks := .later }
def TellBackUptoCardSaid : Prop := Claim7.holds Tryz.pinned (.plain (OpenSpec.upto tellBackSpec)) tellBackUptoCard

/-- THE SECOND FORM's CARD OF 'drachmlaw13.TellWays'. -/
def tellWaysUptoCard : Claim7 := { stood := { row := tellWaysUptoRow, standIns := [], harness := (true, "766d7e2be7c9f412d2a77aea66ef5b580f147dcc7ebb4200a1b2b1bc03018fb9"), looks := true }, kinds := [], alts := [], laidByText := true, laidKinds := [.data, .data, .data, .sentinel, .sentinel, .widerDeep, .data], laidTests := true, laidLooks := .later }
def TellWaysUptoCardSaid : Prop := Claim7.holds Tryz.pinned (.plain (OpenSpec.upto tellWaysSpec)) tellWaysUptoCard

/-- THE SECOND FORM's CARD OF 'drachmlaw13.TellNames'. -/
def tellNamesUptoCard : Claim7 := { stood := { row := tellNamesUptoRow, standIns := [], harness := (true, "766d7e2be7c9f412d2a77aea66ef5b580f147dcc7ebb4200a1b2b1bc03018fb9"), looks := true }, kinds := [], alts := [], laidByText := true, laidKinds := [.data, .data, .data, .sentinel, .sentinel, .widerDeep, .data], laidTests := true, laidLooks := .later }
def TellNamesUptoCardSaid : Prop := Claim7.holds Tryz.pinned (.plain (OpenSpec.upto tellNamesSpec)) tellNamesUptoCard

/-- THE SECOND FORM's CARD OF 'drachmlaw13.TellCan'. -/
def tellCanUptoCard : Claim7 := { stood := { row := tellCanUptoRow, standIns := [], harness := (true, "766d7e2be7c9f412d2a77aea66ef5b580f147dcc7ebb4200a1b2b1bc03018fb9"), looks := true }, kinds := [], alts := [], laidByText := true, laidKinds := [.data, .data, .data, .sentinel, .sentinel, .widerDeep, .data], laidTests := true, laidLooks := .later }
def TellCanUptoCardSaid : Prop := Claim7.holds Tryz.pinned (.plain (OpenSpec.upto tellCanSpec)) tellCanUptoCard

/-- THE SECOND FORM's CARD OF 'drachmlaw13.TellOwn'. -/
def tellOwnUptoCard : Claim7 := { stood := { row := tellOwnUptoRow, standIns := [], harness := (true, "766d7e2be7c9f412d2a77aea66ef5b580f147dcc7ebb4200a1b2b1bc03018fb9"), looks := true }, kinds := [], alts := [], laidByText := true, laidKinds := [.data, .data, .data, .sentinel, .sentinel, .widerDeep, .data], laidTests := true, laidLooks := .later }
def TellOwnUptoCardSaid : Prop := Claim7.holds Tryz.pinned (.plain (OpenSpec.upto tellOwnSpec)) tellOwnUptoCard
end Rows
end Go.Proofs.YteiaohbhlapklaaGreatDoor
