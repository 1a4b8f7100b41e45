/-
  DERIVED. GIVEN WITH THE SEED: THE CARDS: each row of YtncfbleeidjflaaGreatDoorRows.lean that lists a variable, with what it lists TIED to the program's text (the seventh form; the later family's looks); each row that meets fmt, with fmt's text TOLD by the authors' own Lean function (tested against real Go, not proved from fmt's source: count such statements apart). THE CARD IS WHAT COUNTS. Prove the row's statement (the work); the ties are given (YtncfbleeidjflaaGreatDoorTie.lean); close each card by the builder's one call (the guide's Derived/Test/ToyasCard.lean, 'card_holds'). Laid BY PROGRAM, IN A SANDBOX (cutbox-door.mjs). By AI agents, Wed Nov 11 2026. No macro, syntax, notation, axiom, sorry.
-/
import Derived.Test.YtncfbleeidjflaaGreatDoorRows
import GoSem.ClaimSeven
namespace Go.Proofs.YtncfbleeidjflaaGreatDoor
namespace Rows

/-- THE TIED CARD OF 'caliperlaw13.PrintTells'. -/
def printTellsCard : Claim7 := { stood := { row := printTellsRow, standIns := [], harness := (true, "fc67c3fd2e716ab5cd1746a619b7d9e655845291796dddc57b0bc861145bf9e5"), looks := true }, kinds := [], alts := [], laidByText := true, laidKinds := [.data, .data, .data, .data, .funcs, .mapped], laidTests := true, laidLooks := .later }
def PrintTellsCardSaid : Prop := Claim7.holds Tryz.pinned (.plain (OpenSpec.ofChange printTellsSpec)) printTellsCard

/-- THE TIED CARD OF 'caliperlaw13.PrintFulls'. -/
def printFullsCard : Claim7 := { stood := { row := printFullsRow, standIns := [], harness := (true, "fc67c3fd2e716ab5cd1746a619b7d9e655845291796dddc57b0bc861145bf9e5"), looks := true }, kinds := [], alts := [], laidByText := true, laidKinds := [.data, .data, .data, .data, .funcs, .mapped], laidTests := true, laidLooks := .later }
def PrintFullsCardSaid : Prop := Claim7.holds Tryz.pinned (.plain (OpenSpec.ofChange printFullsSpec)) printFullsCard

/-- THE TIED CARD OF 'caliperlaw10.ParseTells'. -/
def parseTellsCard : Claim7 := { stood := { row := parseTellsRow, standIns := [], harness := (true, "fc67c3fd2e716ab5cd1746a619b7d9e655845291796dddc57b0bc861145bf9e5"), looks := true }, kinds := [], alts := [], laidByText := true, laidKinds := [.data, .data, .data, .data, .sentinel, .sentinel, .data, .funcs, .pinned], laidTests := true, laidLooks := .later }
def ParseTellsCardSaid : Prop := Claim7.holds Tryz.pinned (.plain (OpenSpec.ofChange parseTellsSpec)) parseTellsCard

/-- THE TIED CARD OF 'caliperlaw16.QtextTells'. -/
def qtextTellsCard : Claim7 := { stood := { row := qtextTellsRow, standIns := [], harness := (true, "fc67c3fd2e716ab5cd1746a619b7d9e655845291796dddc57b0bc861145bf9e5"), looks := true }, kinds := [], alts := [], laidByText := true, laidKinds := [.data, .data, .data, .data, .sentinel, .sentinel, .pinned], laidTests := true, laidLooks := .later }
def QtextTellsCardSaid : Prop := Claim7.holds Tryz.pinned (.plain (OpenSpec.ofChange qtextTellsSpec)) qtextTellsCard

/-- THE TIED CARD OF 'caliperlaw16.QtextParses'. -/
def qtextParsesCard : Claim7 := { stood := { row := qtextParsesRow, standIns := [], harness := (true, "fc67c3fd2e716ab5cd1746a619b7d9e655845291796dddc57b0bc861145bf9e5"), looks := true }, kinds := [], alts := [], laidByText := true, laidKinds := [.data, .data, .data, .data, .sentinel, .sentinel, .pinned], laidTests := true, laidLooks := .later }
def QtextParsesCardSaid : Prop := Claim7.holds Tryz.pinned (.plain (OpenSpec.ofChange qtextParsesSpec)) qtextParsesCard

/-- THE SECOND FORM's CARD OF 'caliperlaw13.PrintTells'. -/
def printTellsUptoCard : Claim7 := { stood := { row := printTellsUptoRow, standIns := [], harness := (true, "fc67c3fd2e716ab5cd1746a619b7d9e655845291796dddc57b0bc861145bf9e5"), looks := true }, kinds := [], alts := [], laidByText := true, laidKinds := [.data, .data, .data, .data, .funcs, .mapped], laidTests := true, laidLooks := .later }
def PrintTellsUptoCardSaid : Prop := Claim7.holds Tryz.pinned (.plain (OpenSpec.upto printTellsSpec)) printTellsUptoCard

/-- THE SECOND FORM's CARD OF 'caliperlaw13.PrintFulls'. -/
def printFullsUptoCard : Claim7 := { stood := { row := printFullsUptoRow, standIns := [], harness := (true, "fc67c3fd2e716ab5cd1746a619b7d9e655845291796dddc57b0bc861145bf9e5"), looks := true }, kinds := [], alts := [], laidByText := true, laidKinds := [.data, .data, .data, .data, .funcs, .mapped], laidTests := true, laidLooks := .later }
def PrintFullsUptoCardSaid : Prop := Claim7.holds Tryz.pinned (.plain (OpenSpec.upto printFullsSpec)) printFullsUptoCard

/-- THE SECOND FORM's CARD OF 'caliperlaw10.ParseTells'. -/
def parseTellsUptoCard : Claim7 := { stood := { row := parseTellsUptoRow, standIns := [], harness := (true, "fc67c3fd2e716ab5cd1746a619b7d9e655845291796dddc57b0bc861145bf9e5"), looks := true }, kinds := [], alts := [], laidByText := true, laidKinds := [.data, .data, .data, .data, .sentinel, .sentinel, .data, .funcs, .pinned], laidTests := true, laidLooks := .later }
def ParseTellsUptoCardSaid : Prop := Claim7.holds Tryz.pinned (.plain (OpenSpec.upto parseTellsSpec)) parseTellsUptoCard

/-- THE SECOND FORM's CARD OF 'caliperlaw16.QtextTells'. -/
def qtextTellsUptoCard : Claim7 := { stood := { row := qtextTellsUptoRow, standIns := [], harness := (true, "fc67c3fd2e716ab5cd1746a619b7d9e655845291796dddc57b0bc861145bf9e5"), looks := true }, kinds := [], alts := [], laidByText := true, laidKinds := [.data, .data, .data, .data, .sentinel, .sentinel, .pinned], laidTests := true, laidLooks := .later }
def QtextTellsUptoCardSaid : Prop := Claim7.holds Tryz.pinned (.plain (OpenSpec.upto qtextTellsSpec)) qtextTellsUptoCard

/-- THE SECOND FORM's CARD OF 'caliperlaw16.QtextParses'. -/
def qtextParsesUptoCard : Claim7 := { stood := { row := qtextParsesUptoRow, standIns := [], harness := (true, "fc67c3fd2e716ab5cd1746a619b7d9e655845291796dddc57b0bc861145bf9e5"), looks := true }, kinds := [], alts := [], laidByText := true, laidKinds := [.data, .data, .data, .data, .sentinel, .sentinel, .pinned], laidTests := true, laidLooks := .later }
def QtextParsesUptoCardSaid : Prop := Claim7.holds Tryz.pinned (.plain (OpenSpec.upto qtextParsesSpec)) qtextParsesUptoCard
end Rows
end Go.Proofs.YtncfbleeidjflaaGreatDoor
