/-
  DERIVED. GIVEN WITH THE SEED: THE CARDS: each row of YtkclecfbjfdfkaaDoorRows.lean that lists a variable, with what it lists TIED to the program's text (the seventh form; the later family's looks); each row that meets fmt, with fmt's text TOLD by the authors' own Lean function (tested against real Go, not proved from fmt's source: count such statements apart). THE CARD IS WHAT COUNTS. Prove the row's statement (the work); the ties are given (YtkclecfbjfdfkaaDoorTie.lean); close each card by the builder's one call (the guide's Derived/Test/ToyasCard.lean, 'card_holds'). Laid BY PROGRAM, IN A SANDBOX (cutbox-door.mjs). By AI agents, Wed Nov 11 2026. No macro, syntax, notation, axiom, sorry.
-/
import Derived.Test.YtkclecfbjfdfkaaDoorRows
import GoSem.ClaimSeven
namespace Go.Proofs.YtkclecfbjfdfkaaDoor
namespace Rows

/-- THE TIED CARD OF 'brocadelaw03.PrintWithin'. -/
def printWithinCard : Claim7 := { stood := { row := printWithinRow, standIns := [], harness := (true, "8bbef35a57420a84ab70d777178bd6ecd27d4977becf76cd2c71b07085a585a1"), looks := false }, kinds := [], alts := [], laidByText := true, laidKinds := [.data, .data, .data], laidTests := true, laidLooks := .later }
def PrintWithinCardSaid : Prop := Claim7.holds Tryd.pinned (.plain (OpenSpec.ofChange printWithinSpec)) printWithinCard

/-- THE TIED CARD OF 'brocadelaw03.PrintHead'. -/
def printHeadCard : Claim7 := { stood := { row := printHeadRow, standIns := [], harness := (true, "8bbef35a57420a84ab70d777178bd6ecd27d4977becf76cd2c71b07085a585a1"), looks := false }, kinds := [], alts := [], laidByText := true, laidKinds := [.data, .data, .data], laidTests := true, laidLooks := .later }
def PrintHeadCardSaid : Prop := Claim7.holds Tryd.pinned (.plain (OpenSpec.ofChange printHeadSpec)) printHeadCard

/-- THE SECOND FORM's CARD OF 'brocadelaw03.PrintWithin'. -/
def printWithinUptoCard : Claim7 := { stood := { row := printWithinUptoRow, standIns := [], harness := (true, "8bbef35a57420a84ab70d777178bd6ecd27d4977becf76cd2c71b07085a585a1"), looks := false }, kinds := [], alts := [], laidByText := true, laidKinds := [.data, .data, .data], laidTests := true, laidLooks := .later }
def PrintWithinUptoCardSaid : Prop := Claim7.holds Tryd.pinned (.plain (OpenSpec.upto printWithinSpec)) printWithinUptoCard

/-- THE SECOND FORM's CARD OF 'brocadelaw03.PrintHead'. -/
def printHeadUptoCard : Claim7 := { stood := { row := printHeadUptoRow, standIns := [], harness := (true, "8bbef35a57420a84ab70d777178bd6ecd27d4977becf76cd2c71b07085a585a1"), looks := false }, kinds := [], alts := [], laidByText := true, laidKinds := [.data, .data, .data], laidTests := true, laidLooks := .later }
def PrintHeadUptoCardSaid : Prop := Claim7.holds Tryd.pinned (.plain (OpenSpec.upto printHeadSpec)) printHeadUptoCard
end Rows
end Go.Proofs.YtkclecfbjfdfkaaDoor
