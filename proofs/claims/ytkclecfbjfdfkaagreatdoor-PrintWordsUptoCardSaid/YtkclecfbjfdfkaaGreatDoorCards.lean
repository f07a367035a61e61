/-
  DERIVED. GIVEN WITH THE SEED: THE CARDS: each row of YtkclecfbjfdfkaaGreatDoorRows.lean that lists a variable, with what it lists TIED to the program's text (the seventh form; the later family's looks); each row that meets fmt, with fmt's text TOLD by the authors' own Lean function (tested against real Go, not proved from fmt's source: count such statements apart). THE CARD IS WHAT COUNTS. Prove the row's statement (the work); the ties are given (YtkclecfbjfdfkaaGreatDoorTie.lean); close each card by the builder's one call (the guide's Derived/Test/ToyasCard.lean, 'card_holds'). Laid BY PROGRAM, IN A SANDBOX (cutbox-door.mjs). By AI agents, Wed Nov 11 2026. No macro, syntax, notation, axiom, sorry.
-/
import Derived.Test.YtkclecfbjfdfkaaGreatDoorRows
import GoSem.ClaimSeven
namespace Go.Proofs.YtkclecfbjfdfkaaGreatDoor
namespace Rows

/-- THE TIED CARD OF 'brocadelaw03.PrintBack'. -/
def printBackCard : Claim7 := { stood := { row := printBackRow, standIns := [], harness := (true, "6be1d19e4d883af49f38634c8cbe44d7385c0d6882bbcbd2bfa831027618ca82"), looks := true }, kinds := [], alts := [], laidByText := true, laidKinds := [.data, .data, .data], laidTests := true, laidLooks := .later }
def PrintBackCardSaid : Prop := Claim7.holds Tryz.pinned (.plain (OpenSpec.ofChange printBackSpec)) printBackCard

/-- THE TIED CARD OF 'brocadelaw03.PrintParsed'. -/
def printParsedCard : Claim7 := { stood := { row := printParsedRow, standIns := [], harness := (true, "6be1d19e4d883af49f38634c8cbe44d7385c0d6882bbcbd2bfa831027618ca82"), looks := true }, kinds := [], alts := [], laidByText := true, laidKinds := [.data, .data, .data], laidTests := true, laidLooks := .later }
def PrintParsedCardSaid : Prop := Claim7.holds Tryz.pinned (.plain (OpenSpec.ofChange printParsedSpec)) printParsedCard

/-- THE TIED CARD OF 'brocadelaw03.PrintParts'. -/
def printPartsCard : Claim7 := { stood := { row := printPartsRow, standIns := [], harness := (true, "6be1d19e4d883af49f38634c8cbe44d7385c0d6882bbcbd2bfa831027618ca82"), looks := true }, kinds := [], alts := [], laidByText := true, laidKinds := [.data, .data, .data], laidTests := true, laidLooks := .later }
def PrintPartsCardSaid : Prop := Claim7.holds Tryz.pinned (.plain (OpenSpec.ofChange printPartsSpec)) printPartsCard

/-- THE TIED CARD OF 'brocadelaw03.PrintWords'. -/
def printWordsCard : Claim7 := { stood := { row := printWordsRow, standIns := [], harness := (true, "6be1d19e4d883af49f38634c8cbe44d7385c0d6882bbcbd2bfa831027618ca82"), looks := true }, kinds := [], alts := [], laidByText := true, laidKinds := [.data, .data, .data], laidTests := true, laidLooks := .later }
def PrintWordsCardSaid : Prop := Claim7.holds Tryz.pinned (.plain (OpenSpec.ofChange printWordsSpec)) printWordsCard

/-- THE SECOND FORM's CARD OF 'brocadelaw03.PrintBack'. -/
def printBackUptoCard : Claim7 := { stood := { row := printBackUptoRow, standIns := [], harness := (true, "6be1d19e4d883af49f38634c8cbe44d7385c0d6882bbcbd2bfa831027618ca82"), looks := true }, kinds := [], alts := [], laidByText := true, laidKinds := [.data, .data, .data], laidTests := true, laidLooks := .later }
def PrintBackUptoCardSaid : Prop := Claim7.holds Tryz.pinned (.plain (OpenSpec.upto printBackSpec)) printBackUptoCard

/-- THE SECOND FORM's CARD OF 'brocadelaw03.PrintParsed'. -/
def printParsedUptoCard : Claim7 := { stood := { row := printParsedUptoRow, standIns := [], harness := (true, "6be1d19e4d883af49f38634c8cbe44d7385c0d6882bbcbd2bfa831027618ca82"), looks := true }, kinds := [], alts := [], laidByText := true, laidKinds := [.data, .data, .data], laidTests := true, laidLooks := .later }
def PrintParsedUptoCardSaid : Prop := Claim7.holds Tryz.pinned (.plain (OpenSpec.upto printParsedSpec)) printParsedUptoCard

/-- THE SECOND FORM's CARD OF 'brocadelaw03.PrintParts'. -/
def printPartsUptoCard : Claim7 := { stood := { row := printPartsUptoRow, standIns := [], harness := (true, "6be1d19e4d883af49f38634c8cbe44d7385c0d6882bbcbd2bfa831027618ca82"), looks := true }, kinds := [], alts := [], laidByText := true, laidKinds := [.data, .data, .data], laidTests := true, laidLooks := .later }
def PrintPartsUptoCardSaid : Prop := Claim7.holds Tryz.pinned (.plain (OpenSpec.upto printPartsSpec)) printPartsUptoCard

/-- THE SECOND FORM's CARD OF 'brocadelaw03.PrintWords'. -/
def printWordsUptoCard : Claim7 := { stood := { row := printWordsUptoRow, standIns := [], harness := (true, "6be1d19e4d883af49f38634c8cbe44d7385c0d6882bbcbd2bfa831027618ca82"), looks := true }, kinds := [], alts := [], laidByText := true, laidKinds := [.data, .data, .data], laidTests := true, laidLooks := .later }
def PrintWordsUptoCardSaid : Prop := Claim7.holds Tryz.pinned (.plain (OpenSpec.upto printWordsSpec)) printWordsUptoCard
end Rows
end Go.Proofs.YtkclecfbjfdfkaaGreatDoor
