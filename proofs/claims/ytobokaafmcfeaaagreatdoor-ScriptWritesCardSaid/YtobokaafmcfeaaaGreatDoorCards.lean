/-
  DERIVED. GIVEN WITH THE SEED: THE CARDS: each row of YtobokaafmcfeaaaGreatDoorRows.lean that lists a variable, with what it lists TIED to the program's text (the seventh form; the later family's looks); each row that meets fmt, with fmt's text TOLD by the authors' own Lean function (tested against real Go, not proved from fmt's source: count such statements apart). THE CARD IS WHAT COUNTS. Prove the row's statement (the work); the ties are given (YtobokaafmcfeaaaGreatDoorTie.lean); close each card by the builder's one call (the guide's Derived/Test/ToyasCard.lean, 'card_holds'). Laid BY PROGRAM, IN A SANDBOX (cutbox-door.mjs). By AI agents, Wed Nov 11 2026. No macro, syntax, notation, axiom, sorry.
-/
import Derived.Test.YtobokaafmcfeaaaGreatDoorRows
import GoSem.ClaimSeven
namespace Go.Proofs.YtobokaafmcfeaaaGreatDoor
namespace Rows

/-- THE TIED CARD OF 'caliperlaw13.PrintTells'. -/
def printTellsCard : Claim7 := { stood := { row := printTellsRow, standIns := [], harness := (true, "3c487d7c176647a1e5f6a8ea907398ac091e0149448892d684624c9f03ec7262"), looks := true }, kinds := [], alts := [], laidByText := true, laidKinds := [.data, .data, .data, .data, .funcs, .mapped], laidTests := true, laidLooks := .later }
def PrintTellsCardSaid : Prop := Claim7.holds Tryz.pinned (.plain (OpenSpec.ofChange printTellsSpec)) printTellsCard

/-- THE TIED CARD OF 'caliperlaw13.PrintFulls'. -/
def printFullsCard : Claim7 := { stood := { row := printFullsRow, standIns := [], harness := (true, "3c487d7c176647a1e5f6a8ea907398ac091e0149448892d684624c9f03ec7262"), looks := true }, kinds := [], alts := [], laidByText := true, laidKinds := [.data, .data, .data, .data, .funcs, .mapped], laidTests := true, laidLooks := .later }
def PrintFullsCardSaid : Prop := Claim7.holds Tryz.pinned (.plain (OpenSpec.ofChange printFullsSpec)) printFullsCard

/-- THE TIED CARD OF 'caliperlaw10.ParseTells'. -/
def parseTellsCard : Claim7 := { stood := { row := parseTellsRow, standIns := [], harness := (true, "3c487d7c176647a1e5f6a8ea907398ac091e0149448892d684624c9f03ec7262"), looks := true }, kinds := [], alts := [], laidByText := true, laidKinds := [.data, .data, .data, .data, .sentinel, .sentinel, .data, .funcs, .pinned], laidTests := true, laidLooks := .later }
def ParseTellsCardSaid : Prop := Claim7.holds Tryz.pinned (.plain (OpenSpec.ofChange parseTellsSpec)) parseTellsCard

/-- THE TIED CARD OF 'caliperlaw16.QtextTells'. -/
def qtextTellsCard : Claim7 := { stood := { row := qtextTellsRow, standIns := [], harness := (true, "3c487d7c176647a1e5f6a8ea907398ac091e0149448892d684624c9f03ec7262"), looks := true }, kinds := [], alts := [], laidByText := true, laidKinds := [.data, .data, .data, .data, .sentinel, .sentinel, .pinned], laidTests := true, laidLooks := .later }
def QtextTellsCardSaid : Prop := Claim7.holds Tryz.pinned (.plain (OpenSpec.ofChange qtextTellsSpec)) qtextTellsCard

/-- THE TIED CARD OF 'caliperlaw16.QtextParses'. -/
def qtextParsesCard : Claim7 := { stood := { row := qtextParsesRow, standIns := [], harness := (true, "3c487d7c176647a1e5f6a8ea907398ac091e0149448892d684624c9f03ec7262"), looks := true }, kinds := [], alts := [], laidByText := true, laidKinds := [.data, .data, .data, .data, .sentinel, .sentinel, .pinned], laidTests := true, laidLooks := .later }
def QtextParsesCardSaid : Prop := Claim7.holds Tryz.pinned (.plain (OpenSpec.ofChange qtextParsesSpec)) qtextParsesCard

/-- THE TIED CARD OF 'caliperlaw19.ScriptWrites'. -/
def scriptWritesCard : Claim7 := { stood := { row := scriptWritesRow, standIns := [], harness := (true, "3c487d7c176647a1e5f6a8ea907398ac091e0149448892d684624c9f03ec7262"), looks := true }, kinds := [], alts := [], laidByText := true, laidKinds := [.data, .data, .data, .data, .sentinel, .sentinel, .data, .funcs, .pinned], laidTests := true, laidLooks := .later }
def ScriptWritesCardSaid : Prop := Claim7.holds Tryz.pinned (.plain (OpenSpec.ofChange scriptWritesSpec)) scriptWritesCard

/-- THE TIED CARD OF 'caliperlaw19.ScriptPlays'. -/
def scriptPlaysCard : Claim7 := { stood := { row := scriptPlaysRow, standIns := [], harness := (true, "3c487d7c176647a1e5f6a8ea907398ac091e0149448892d684624c9f03ec7262"), looks := true }, kinds := [], alts := [], laidByText := true, laidKinds := [.data, .data, .data, .data, .sentinel, .sentinel, .data, .funcs, .pinned], laidTests := true, laidLooks := .later }
def ScriptPlaysCardSaid : Prop := Claim7.holds Tryz.pinned (.plain (OpenSpec.ofChange scriptPlaysSpec)) scriptPlaysCard

/-- THE TIED CARD OF 'caliperlaw19.ScriptJoins'. -/
def scriptJoinsCard : Claim7 := { stood := { row := scriptJoinsRow, standIns := [], harness := (true, "3c487d7c176647a1e5f6a8ea907398ac091e0149448892d684624c9f03ec7262"), looks := true }, kinds := [], alts := [], laidByText := true, laidKinds := [.data, .data, .data, .data, .sentinel, .sentinel, .data, .funcs, .pinned], laidTests := true, laidLooks := .later }
def ScriptJoinsCardSaid : Prop := Claim7.holds Tryz.pinned (.plain (OpenSpec.ofChange scriptJoinsSpec)) scriptJoinsCard

/-- THE TIED CARD OF 'caliperlaw19.ScriptCuts'. -/
def scriptCutsCard : Claim7 := { stood := { row := scriptCutsRow, standIns := [], harness := (true, "3c487d7c176647a1e5f6a8ea907398ac091e0149448892d684624c9f03ec7262"), looks := true }, kinds := [], alts := [], laidByText := true, laidKinds := [.data, .data, .data, .data, .sentinel, .sentinel, .data, .funcs, .pinned], laidTests := true, laidLooks := .later }
def ScriptCutsCardSaid : Prop := Claim7.holds Tryz.pinned (.plain (OpenSpec.ofChange scriptCutsSpec)) scriptCutsCard

/-- THE TIED CARD OF 'caliperlaw19.ScriptLong'. -/
def scriptLongCard : Claim7 := { stood := { row := scriptLongRow, standIns := [], harness := (true, "3c487d7c176647a1e5f6a8ea907398ac091e0149448892d684624c9f03ec7262"), looks := true }, kinds := [], alts := [], laidByText := true, laidKinds := [.data, .data, .data, .data, .sentinel, .sentinel, .data, .funcs, .pinned], laidTests := true, laidLooks := .later }
def ScriptLongCardSaid : Prop := Claim7.holds Tryz.pinned (.plain (OpenSpec.ofChange scriptLongSpec)) scriptLongCard

/-- THE TIED CARD OF 'caliperlaw20.SuiteLines'. -/
def suiteLinesCard : Claim7 := { stood := { row := suiteLinesRow, standIns := [], harness := (true, "3c487d7c176647a1e5f6a8ea907398ac091e0149448892d684624c9f03ec7262"), looks := true }, kinds := [], alts := [], laidByText := true, laidKinds := [.data, .data, .data, .data, .sentinel, .sentinel, .data, .funcs, .mapped, .widerDeep, .funcs, .pinned], laidTests := true, laidLooks := .later }
def SuiteLinesCardSaid : Prop := Claim7.holds Tryz.pinned (.plain (OpenSpec.ofChange suiteLinesSpec)) suiteLinesCard

/-- THE SECOND FORM's CARD OF 'caliperlaw13.PrintTells'. -/
def printTellsUptoCard : Claim7 := { stood := { row := printTellsUptoRow, standIns := [], harness := (true, "3c487d7c176647a1e5f6a8ea907398ac091e0149448892d684624c9f03ec7262"), looks := true }, kinds := [], alts := [], laidByText := true, laidKinds := [.data, .data, .data, .data, .funcs, .mapped], laidTests := true, laidLooks := .later }
def PrintTellsUptoCardSaid : Prop := Claim7.holds Tryz.pinned (.plain (OpenSpec.upto printTellsSpec)) printTellsUptoCard

/-- THE SECOND FORM's CARD OF 'caliperlaw13.PrintFulls'. -/
def printFullsUptoCard : Claim7 := { stood := { row := printFullsUptoRow, standIns := [], harness := (true, "3c487d7c176647a1e5f6a8ea907398ac091e0149448892d684624c9f03ec7262"), looks := true }, kinds := [], alts := [], laidByText := true, laidKinds := [.data, .data, .data, .data, .funcs, .mapped], laidTests := true, laidLooks := .later }
def PrintFullsUptoCardSaid : Prop := Claim7.holds Tryz.pinned (.plain (OpenSpec.upto printFullsSpec)) printFullsUptoCard

/-- THE SECOND FORM's CARD OF 'caliperlaw10.ParseTells'. -/
def parseTellsUptoCard : Claim7 := { stood := { row := parseTellsUptoRow, standIns := [], harness := (true, "3c487d7c176647a1e5f6a8ea907398ac091e0149448892d684624c9f03ec7262"), looks := true }, kinds := [], alts := [], laidByText := true, laidKinds := [.data, .data, .data, .data, .sentinel, .sentinel, .data, .funcs, .pinned], laidTests := true, laidLooks := .later }
def ParseTellsUptoCardSaid : Prop := Claim7.holds Tryz.pinned (.plain (OpenSpec.upto parseTellsSpec)) parseTellsUptoCard

/-- THE SECOND FORM's CARD OF 'caliperlaw16.QtextTells'. -/
def qtextTellsUptoCard : Claim7 := { stood := { row := qtextTellsUptoRow, standIns := [], harness := (true, "3c487d7c176647a1e5f6a8ea907398ac091e0149448892d684624c9f03ec7262"), looks := true }, kinds := [], alts := [], laidByText := true, laidKinds := [.data, .data, .data, .data, .sentinel, .sentinel, .pinned], laidTests := true, laidLooks := .later }
def QtextTellsUptoCardSaid : Prop := Claim7.holds Tryz.pinned (.plain (OpenSpec.upto qtextTellsSpec)) qtextTellsUptoCard

/-- THE SECOND FORM's CARD OF 'caliperlaw16.QtextParses'. -/
def qtextParsesUptoCard : Claim7 := { stood := { row := qtextParsesUptoRow, standIns := [], harness := (true, "3c487d7c176647a1e5f6a8ea907398ac091e0149448892d684624c9f03ec7262"), looks := true }, kinds := [], alts := [], laidByText := true, laidKinds := [.data, .data, .data, .data, .sentinel, .sentinel, .pinned], laidTests := true, laidLooks := .later }
def QtextParsesUptoCardSaid : Prop := Claim7.holds Tryz.pinned (.plain (OpenSpec.upto qtextParsesSpec)) qtextParsesUptoCard

/-- THE SECOND FORM's CARD OF 'caliperlaw19.ScriptWrites'. -/
def scriptWritesUptoCard : Claim7 := { stood := { row := scriptWritesUptoRow, standIns := [], harness := (true, "3c487d7c176647a1e5f6a8ea907398ac091e0149448892d684624c9f03ec7262"), looks := true }, kinds := [], alts := [], laidByText := true, laidKinds := [.data, .data, .data, .data, .sentinel, .sentinel, .data, .funcs, .pinned], laidTests := true, laidLooks := .later }
def ScriptWritesUptoCardSaid : Prop := Claim7.holds Tryz.pinned (.plain (OpenSpec.upto scriptWritesSpec)) scriptWritesUptoCard

/-- THE SECOND FORM's CARD OF 'caliperlaw19.ScriptPlays'. -/
def scriptPlaysUptoCard : Claim7 := { stood := { row := scriptPlaysUptoRow, standIns := [], harness := (true, "3c487d7c176647a1e5f6a8ea907398ac091e0149448892d684624c9f03ec7262"), looks := true }, kinds := [], alts := [], laidByText := true, laidKinds := [.data, .data, .data, .data, .sentinel, .sentinel, .data, .funcs, .pinned], laidTests := true, laidLooks := .later }
def ScriptPlaysUptoCardSaid : Prop := Claim7.holds Tryz.pinned (.plain (OpenSpec.upto scriptPlaysSpec)) scriptPlaysUptoCard

/-- THE SECOND FORM's CARD OF 'caliperlaw19.ScriptJoins'. -/
def scriptJoinsUptoCard : Claim7 := { stood := { row := scriptJoinsUptoRow, standIns := [], harness := (true, "3c487d7c176647a1e5f6a8ea907398ac091e0149448892d684624c9f03ec7262"), looks := true }, kinds := [], alts := [], laidByText := true, laidKinds := [.data, .data, .data, .data, .sentinel, .sentinel, .data, .funcs, .pinned], laidTests := true, laidLooks := .later }
def ScriptJoinsUptoCardSaid : Prop := Claim7.holds Tryz.pinned (.plain (OpenSpec.upto scriptJoinsSpec)) scriptJoinsUptoCard

/-- THE SECOND FORM's CARD OF 'caliperlaw19.ScriptCuts'. -/
def scriptCutsUptoCard : Claim7 := { stood := { row := scriptCutsUptoRow, standIns := [], harness := (true, "3c487d7c176647a1e5f6a8ea907398ac091e0149448892d684624c9f03ec7262"), looks := true }, kinds := [], alts := [], laidByText := true, laidKinds := [.data, .data, .data, .data, .sentinel, .sentinel, .data, .funcs, .pinned], laidTests := true, laidLooks := .later }
def ScriptCutsUptoCardSaid : Prop := Claim7.holds Tryz.pinned (.plain (OpenSpec.upto scriptCutsSpec)) scriptCutsUptoCard

/-- THE SECOND FORM's CARD OF 'caliperlaw19.ScriptLong'. -/
def scriptLongUptoCard : Claim7 := { stood := { row := scriptLongUptoRow, standIns := [], harness := (true, "3c487d7c176647a1e5f6a8ea907398ac091e0149448892d684624c9f03ec7262"), looks := true }, kinds := [], alts := [], laidByText := true, laidKinds := [.data, .data, .data, .data, .sentinel, .sentinel, .data, .funcs, .pinned], laidTests := true, laidLooks := .later }
def ScriptLongUptoCardSaid : Prop := Claim7.holds Tryz.pinned (.plain (OpenSpec.upto scriptLongSpec)) scriptLongUptoCard

/-- THE SECOND FORM's CARD OF 'caliperlaw20.SuiteLines'. -/
def suiteLinesUptoCard : Claim7 := { stood := { row := suiteLinesUptoRow, standIns := [], harness := (true, "3c487d7c176647a1e5f6a8ea907398ac091e0149448892d684624c9f03ec7262"), looks := true }, kinds := [], alts := [], laidByText := true, laidKinds := [.data, .data, .data, .data, .sentinel, .sentinel, .data, .funcs, .mapped, .widerDeep, .funcs, .pinned], laidTests := true, laidLooks := .later }
def SuiteLinesUptoCardSaid : Prop := Claim7.holds Tryz.pinned (.plain (OpenSpec.upto suiteLinesSpec)) suiteLinesUptoCard
end Rows
end Go.Proofs.YtobokaafmcfeaaaGreatDoor
