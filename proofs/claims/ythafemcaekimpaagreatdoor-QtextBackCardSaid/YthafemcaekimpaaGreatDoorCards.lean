/-
  DERIVED. GIVEN WITH THE SEED: THE CARDS: each row of YthafemcaekimpaaGreatDoorRows.lean that lists a variable, with what it lists TIED to the program's text (the seventh form; the later family's looks); each row that meets fmt, with fmt's text TOLD by the authors' own Lean function (tested against real Go, not proved from fmt's source: count such statements apart). THE CARD IS WHAT COUNTS. Prove the row's statement (the work); the ties are given (YthafemcaekimpaaGreatDoorTie.lean); close each card by the builder's one call (the guide's Derived/Test/ToyasCard.lean, 'card_holds'). Laid BY PROGRAM, IN A SANDBOX (cutbox-door.mjs). By AI agents, Wed Nov 11 2026. No macro, syntax, notation, axiom, sorry.
-/
import Derived.Test.YthafemcaekimpaaGreatDoorRows
import GoSem.ClaimSeven
namespace Go.Proofs.YthafemcaekimpaaGreatDoor
namespace Rows

/-- THE TIED CARD OF 'caliperlaw16.QtextTells'. -/
def qtextTellsCard : Claim7 := { stood := { row := qtextTellsRow, standIns := [], harness := (true, "2ce90ecf6bcefc5d1b7c6911f678e411cb46869ac69dcfb89e025aaab7d4e646"), looks := true }, kinds := [], alts := [], laidByText := true, laidKinds := [.data, .data, .data, .data, .sentinel, .sentinel, .pinned], laidTests := true, laidLooks := .later }
def QtextTellsCardSaid : Prop := Claim7.holds Tryz.pinned (.plain (OpenSpec.ofChange qtextTellsSpec)) qtextTellsCard

/-- THE TIED CARD OF 'caliperlaw16.QtextParses'. -/
def qtextParsesCard : Claim7 := { stood := { row := qtextParsesRow, standIns := [], harness := (true, "2ce90ecf6bcefc5d1b7c6911f678e411cb46869ac69dcfb89e025aaab7d4e646"), looks := true }, kinds := [], alts := [], laidByText := true, laidKinds := [.data, .data, .data, .data, .sentinel, .sentinel, .pinned], laidTests := true, laidLooks := .later }
def QtextParsesCardSaid : Prop := Claim7.holds Tryz.pinned (.plain (OpenSpec.ofChange qtextParsesSpec)) qtextParsesCard

/-- THE TIED CARD OF 'caliperlaw16.QtextBack'. -/
def qtextBackCard : Claim7 := { stood := { row := qtextBackRow, standIns := [], harness := (true, "2ce90ecf6bcefc5d1b7c6911f678e411cb46869ac69dcfb89e025aaab7d4e646"), looks := true }, kinds := [], alts := [], laidByText := true, laidKinds := [.data, .data, .data, .data, .sentinel, .sentinel, .pinned], laidTests := true, laidLooks := .later }
def QtextBackCardSaid : Prop := Claim7.holds Tryz.pinned (.plain (OpenSpec.ofChange qtextBackSpec)) qtextBackCard

/-- THE TIED CARD OF 'caliperlaw16.QtextArgs'. -/
def qtextArgsCard : Claim7 := { stood := { row := qtextArgsRow, standIns := [], harness := (true, "2ce90ecf6bcefc5d1b7c6911f678e411cb46869ac69dcfb89e025aaab7d4e646"), looks := true }, kinds := [], alts := [], laidByText := true, laidKinds := [.data, .data, .data, .data, .sentinel, .sentinel, .pinned], laidTests := true, laidLooks := .later }
def QtextArgsCardSaid : Prop := Claim7.holds Tryz.pinned (.plain (OpenSpec.ofChange qtextArgsSpec)) qtextArgsCard

/-- THE TIED CARD OF 'caliperlaw16.QtextMoves'. -/
def qtextMovesCard : Claim7 := { stood := { row := qtextMovesRow, standIns := [], harness := (true, "2ce90ecf6bcefc5d1b7c6911f678e411cb46869ac69dcfb89e025aaab7d4e646"), looks := true }, kinds := [], alts := [], laidByText := true, laidKinds := [.data, .data, .data, .data, .sentinel, .sentinel, .pinned], laidTests := true, laidLooks := .later }
def QtextMovesCardSaid : Prop := Claim7.holds Tryz.pinned (.plain (OpenSpec.ofChange qtextMovesSpec)) qtextMovesCard

/-- THE TIED CARD OF 'caliperlaw16.QtextForms'. -/
def qtextFormsCard : Claim7 := { stood := { row := qtextFormsRow, standIns := [], harness := (true, "2ce90ecf6bcefc5d1b7c6911f678e411cb46869ac69dcfb89e025aaab7d4e646"), looks := true }, kinds := [], alts := [], laidByText := true, laidKinds := [.data, .data, .data, .data, .sentinel, .sentinel, .pinned], laidTests := true, laidLooks := .later }
def QtextFormsCardSaid : Prop := Claim7.holds Tryz.pinned (.plain (OpenSpec.ofChange qtextFormsSpec)) qtextFormsCard

/-- THE SECOND FORM's CARD OF 'caliperlaw16.QtextTells'. -/
def qtextTellsUptoCard : Claim7 := { stood := { row := qtextTellsUptoRow, standIns := [], harness := (true, "2ce90ecf6bcefc5d1b7c6911f678e411cb46869ac69dcfb89e025aaab7d4e646"), looks := true }, kinds := [], alts := [], laidByText := true, laidKinds := [.data, .data, .data, .data, .sentinel, .sentinel, .pinned], laidTests := true, laidLooks := .later }
def QtextTellsUptoCardSaid : Prop := Claim7.holds Tryz.pinned (.plain (OpenSpec.upto qtextTellsSpec)) qtextTellsUptoCard

/-- THE SECOND FORM's CARD OF 'caliperlaw16.QtextParses'. -/
def qtextParsesUptoCard : Claim7 := { stood := { row := qtextParsesUptoRow, standIns := [], harness := (true, "2ce90ecf6bcefc5d1b7c6911f678e411cb46869ac69dcfb89e025aaab7d4e646"), looks := true }, kinds := [], alts := [], laidByText := true, laidKinds := [.data, .data, .data, .data, .sentinel, .sentinel, .pinned], laidTests := true, laidLooks := .later }
def QtextParsesUptoCardSaid : Prop := Claim7.holds Tryz.pinned (.plain (OpenSpec.upto qtextParsesSpec)) qtextParsesUptoCard

/-- THE SECOND FORM's CARD OF 'caliperlaw16.QtextBack'. -/
def qtextBackUptoCard : Claim7 := { stood := { row := qtextBackUptoRow, standIns := [], harness := (true, "2ce90ecf6bcefc5d1b7c6911f678e411cb46869ac69dcfb89e025aaab7d4e646"), looks := true }, kinds := [], alts := [], laidByText := true, laidKinds := [.data, .data, .data, .data, .sentinel, .sentinel, .pinned], laidTests := true, laidLooks := .later }
def QtextBackUptoCardSaid : Prop := Claim7.holds Tryz.pinned (.plain (OpenSpec.upto qtextBackSpec)) qtextBackUptoCard

/-- THE SECOND FORM's CARD OF 'caliperlaw16.QtextArgs'. -/
def qtextArgsUptoCard : Claim7 := { stood := { row := qtextArgsUptoRow, standIns := [], harness := (true, "2ce90ecf6bcefc5d1b7c6911f678e411cb46869ac69dcfb89e025aaab7d4e646"), looks := true }, kinds := [], alts := [], laidByText := true, laidKinds := [.data, .data, .data, .data, .sentinel, .sentinel, .pinned], laidTests := true, laidLooks := .later }
def QtextArgsUptoCardSaid : Prop := Claim7.holds Tryz.pinned (.plain (OpenSpec.upto qtextArgsSpec)) qtextArgsUptoCard

/-- THE SECOND FORM's CARD OF 'caliperlaw16.QtextMoves'. -/
def qtextMovesUptoCard : Claim7 := { stood := { row := qtextMovesUptoRow, standIns := [], harness := (true, "2ce90ecf6bcefc5d1b7c6911f678e411cb46869ac69dcfb89e025aaab7d4e646"), looks := true }, kinds := [], alts := [], laidByText := true, laidKinds := [.data, .data, .data, .data, .sentinel, .sentinel, .pinned], laidTests := true, laidLooks := .later }
def QtextMovesUptoCardSaid : Prop := Claim7.holds Tryz.pinned (.plain (OpenSpec.upto qtextMovesSpec)) qtextMovesUptoCard

/-- THE SECOND FORM's CARD OF 'caliperlaw16.QtextForms'. -/
def qtextFormsUptoCard : Claim7 := { stood := { row := qtextFormsUptoRow, standIns := [], harness := (true, "2ce90ecf6bcefc5d1b7c6911f678e411cb46869ac69dcfb89e025aaab7d4e646"), looks := true }, kinds := [], alts := [], laidByText := true, laidKinds := [.data, .data, .data, .data, .sentinel, .sentinel, .pinned], laidTests := true, laidLooks := .later }
def QtextFormsUptoCardSaid : Prop := Claim7.holds Tryz.pinned (.plain (OpenSpec.upto qtextFormsSpec)) qtextFormsUptoCard
end Rows
end Go.Proofs.YthafemcaekimpaaGreatDoor
