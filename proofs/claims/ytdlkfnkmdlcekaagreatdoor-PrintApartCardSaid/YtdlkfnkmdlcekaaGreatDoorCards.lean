/-
  DERIVED. GIVEN WITH THE SEED: THE CARDS: each row of YtdlkfnkmdlcekaaGreatDoorRows.lean that lists a variable, with what it lists TIED to the program's text (the seventh form; the later family's looks); each row that meets fmt, with fmt's text TOLD by the authors' own Lean function (tested against real Go, not proved from fmt's source: count such statements apart). THE CARD IS WHAT COUNTS. Prove the row's statement (the work); the ties are given (YtdlkfnkmdlcekaaGreatDoorTie.lean); close each card by the builder's one call (the guide's Derived/Test/ToyasCard.lean, 'card_holds'). Laid BY PROGRAM, IN A SANDBOX (cutbox-door.mjs). By AI agents, Wed Nov 11 2026. No macro, syntax, notation, axiom, sorry.
-/
import Derived.Test.YtdlkfnkmdlcekaaGreatDoorRows
import GoSem.ClaimSeven
namespace Go.Proofs.YtdlkfnkmdlcekaaGreatDoor
namespace Rows

/-- THE TIED CARD OF 'caliperlaw13.PrintApart'. -/
def printApartCard : Claim7 := { stood := { row := printApartRow, standIns := [], harness := (true, "7debeaad71ca787bec2ecbca9edfb7e633f3b7d3a19aff1c36d4fa75f6a882f1"), looks := true }, kinds := [], alts := [], laidByText := true, laidKinds := [.data, .data, .data, .data, .funcs, .mapped], laidTests := true, laidLooks := .later }
def PrintApartCardSaid : Prop := Claim7.holds Tryz.pinned (.plain (OpenSpec.ofChange printApartSpec)) printApartCard

/-- THE TIED CARD OF 'caliperlaw13.PrintSigns'. -/
def printSignsCard : Claim7 := { stood := { row := printSignsRow, standIns := [], harness := (true, "7debeaad71ca787bec2ecbca9edfb7e633f3b7d3a19aff1c36d4fa75f6a882f1"), looks := true }, kinds := [], alts := [], laidByText := true, laidKinds := [.data, .data, .data, .data, .funcs, .mapped], laidTests := true, laidLooks := .later }
def PrintSignsCardSaid : Prop := Claim7.holds Tryz.pinned (.plain (OpenSpec.ofChange printSignsSpec)) printSignsCard

/-- THE TIED CARD OF 'caliperlaw10.ParseSigns'. -/
def parseSignsCard : Claim7 := { stood := { row := parseSignsRow, standIns := [], harness := (true, "7debeaad71ca787bec2ecbca9edfb7e633f3b7d3a19aff1c36d4fa75f6a882f1"), looks := true }, kinds := [], alts := [], laidByText := true, laidKinds := [.data, .data, .data, .data, .sentinel, .sentinel, .data, .funcs, .pinned], laidTests := true, laidLooks := .later }
def ParseSignsCardSaid : Prop := Claim7.holds Tryz.pinned (.plain (OpenSpec.ofChange parseSignsSpec)) parseSignsCard

/-- THE TIED CARD OF 'caliperlaw10.ParseWords'. -/
def parseWordsCard : Claim7 := { stood := { row := parseWordsRow, standIns := [], harness := (true, "7debeaad71ca787bec2ecbca9edfb7e633f3b7d3a19aff1c36d4fa75f6a882f1"), looks := true }, kinds := [], alts := [], laidByText := true, laidKinds := [.data, .data, .data, .data, .sentinel, .sentinel, .data, .funcs, .pinned], laidTests := true, laidLooks := .later }
def ParseWordsCardSaid : Prop := Claim7.holds Tryz.pinned (.plain (OpenSpec.ofChange parseWordsSpec)) parseWordsCard

/-- THE TIED CARD OF 'caliperlaw10.ParseFits'. -/
def parseFitsCard : Claim7 := { stood := { row := parseFitsRow, standIns := [], harness := (true, "7debeaad71ca787bec2ecbca9edfb7e633f3b7d3a19aff1c36d4fa75f6a882f1"), looks := true }, kinds := [], alts := [], laidByText := true, laidKinds := [.data, .data, .data, .data, .sentinel, .sentinel, .data, .funcs, .pinned], laidTests := true, laidLooks := .later }
def ParseFitsCardSaid : Prop := Claim7.holds Tryz.pinned (.plain (OpenSpec.ofChange parseFitsSpec)) parseFitsCard

/-- THE TIED CARD OF 'caliperlaw10.ParseModes'. -/
def parseModesCard : Claim7 := { stood := { row := parseModesRow, standIns := [], harness := (true, "7debeaad71ca787bec2ecbca9edfb7e633f3b7d3a19aff1c36d4fa75f6a882f1"), looks := true }, kinds := [], alts := [], laidByText := true, laidKinds := [.data, .data, .data, .data, .sentinel, .sentinel, .data, .funcs, .pinned], laidTests := true, laidLooks := .later }
def ParseModesCardSaid : Prop := Claim7.holds Tryz.pinned (.plain (OpenSpec.ofChange parseModesSpec)) parseModesCard

/-- THE TIED CARD OF 'caliperlaw10.ParseRounds'. -/
def parseRoundsCard : Claim7 := { stood := { row := parseRoundsRow, standIns := [], harness := (true, "7debeaad71ca787bec2ecbca9edfb7e633f3b7d3a19aff1c36d4fa75f6a882f1"), looks := true }, kinds := [], alts := [], laidByText := true, laidKinds := [.data, .data, .data, .data, .sentinel, .sentinel, .data, .funcs, .pinned], laidTests := true, laidLooks := .later }
def ParseRoundsCardSaid : Prop := Claim7.holds Tryz.pinned (.plain (OpenSpec.ofChange parseRoundsSpec)) parseRoundsCard

/-- THE TIED CARD OF 'caliperlaw10.ParseHas'. -/
def parseHasCard : Claim7 := { stood := { row := parseHasRow, standIns := [], harness := (true, "7debeaad71ca787bec2ecbca9edfb7e633f3b7d3a19aff1c36d4fa75f6a882f1"), looks := true }, kinds := [], alts := [], laidByText := true, laidKinds := [.data, .data, .data, .data, .sentinel, .sentinel, .data, .funcs, .pinned], laidTests := true, laidLooks := .later }
def ParseHasCardSaid : Prop := Claim7.holds Tryz.pinned (.plain (OpenSpec.ofChange parseHasSpec)) parseHasCard

/-- THE TIED CARD OF 'caliperlaw13.PrintDigits'. -/
def printDigitsCard : Claim7 := { stood := { row := printDigitsRow, standIns := [], harness := (true, "7debeaad71ca787bec2ecbca9edfb7e633f3b7d3a19aff1c36d4fa75f6a882f1"), looks := true }, kinds := [], alts := [], laidByText := true, laidKinds := [.data, .data, .data, .data, .sentinel, .sentinel, .data, .funcs, .mapped, .pinned], laidTests := true, laidLooks := .later }
def PrintDigitsCardSaid : Prop := Claim7.holds Tryz.pinned (.plain (OpenSpec.ofChange printDigitsSpec)) printDigitsCard

/-- THE TIED CARD OF 'caliperlaw13.PrintParsed'. -/
def printParsedCard : Claim7 := { stood := { row := printParsedRow, standIns := [], harness := (true, "7debeaad71ca787bec2ecbca9edfb7e633f3b7d3a19aff1c36d4fa75f6a882f1"), looks := true }, kinds := [], alts := [], laidByText := true, laidKinds := [.data, .data, .data, .data, .sentinel, .sentinel, .data, .funcs, .mapped, .pinned], laidTests := true, laidLooks := .later }
def PrintParsedCardSaid : Prop := Claim7.holds Tryz.pinned (.plain (OpenSpec.ofChange printParsedSpec)) printParsedCard

/-- THE SECOND FORM's CARD OF 'caliperlaw13.PrintApart'. -/
def printApartUptoCard : Claim7 := { stood := { row := printApartUptoRow, standIns := [], harness := (true, "7debeaad71ca787bec2ecbca9edfb7e633f3b7d3a19aff1c36d4fa75f6a882f1"), looks := true }, kinds := [], alts := [], laidByText := true, laidKinds := [.data, .data, .data, .data, .funcs, .mapped], laidTests := true, laidLooks := .later }
def PrintApartUptoCardSaid : Prop := Claim7.holds Tryz.pinned (.plain (OpenSpec.upto printApartSpec)) printApartUptoCard

/-- THE SECOND FORM's CARD OF 'caliperlaw13.PrintSigns'. -/
def printSignsUptoCard : Claim7 := { stood := { row := printSignsUptoRow, standIns := [], harness := (true, "7debeaad71ca787bec2ecbca9edfb7e633f3b7d3a19aff1c36d4fa75f6a882f1"), looks := true }, kinds := [], alts := [], laidByText := true, laidKinds := [.data, .data, .data, .data, .funcs, .mapped], laidTests := true, laidLooks := .later }
def PrintSignsUptoCardSaid : Prop := Claim7.holds Tryz.pinned (.plain (OpenSpec.upto printSignsSpec)) printSignsUptoCard

/-- THE SECOND FORM's CARD OF 'caliperlaw10.ParseSigns'. -/
def parseSignsUptoCard : Claim7 := { stood := { row := parseSignsUptoRow, standIns := [], harness := (true, "7debeaad71ca787bec2ecbca9edfb7e633f3b7d3a19aff1c36d4fa75f6a882f1"), looks := true }, kinds := [], alts := [], laidByText := true, laidKinds := [.data, .data, .data, .data, .sentinel, .sentinel, .data, .funcs, .pinned], laidTests := true, laidLooks := .later }
def ParseSignsUptoCardSaid : Prop := Claim7.holds Tryz.pinned (.plain (OpenSpec.upto parseSignsSpec)) parseSignsUptoCard

/-- THE SECOND FORM's CARD OF 'caliperlaw10.ParseWords'. -/
def parseWordsUptoCard : Claim7 := { stood := { row := parseWordsUptoRow, standIns := [], harness := (true, "7debeaad71ca787bec2ecbca9edfb7e633f3b7d3a19aff1c36d4fa75f6a882f1"), looks := true }, kinds := [], alts := [], laidByText := true, laidKinds := [.data, .data, .data, .data, .sentinel, .sentinel, .data, .funcs, .pinned], laidTests := true, laidLooks := .later }
def ParseWordsUptoCardSaid : Prop := Claim7.holds Tryz.pinned (.plain (OpenSpec.upto parseWordsSpec)) parseWordsUptoCard

/-- THE SECOND FORM's CARD OF 'caliperlaw10.ParseFits'. -/
def parseFitsUptoCard : Claim7 := { stood := { row := parseFitsUptoRow, standIns := [], harness := (true, "7debeaad71ca787bec2ecbca9edfb7e633f3b7d3a19aff1c36d4fa75f6a882f1"), looks := true }, kinds := [], alts := [], laidByText := true, laidKinds := [.data, .data, .data, .data, .sentinel, .sentinel, .data, .funcs, .pinned], laidTests := true, laidLooks := .later }
def ParseFitsUptoCardSaid : Prop := Claim7.holds Tryz.pinned (.plain (OpenSpec.upto parseFitsSpec)) parseFitsUptoCard

/-- THE SECOND FORM's CARD OF 'caliperlaw10.ParseModes'. -/
def parseModesUptoCard : Claim7 := { stood := { row := parseModesUptoRow, standIns := [], harness := (true, "7debeaad71ca787bec2ecbca9edfb7e633f3b7d3a19aff1c36d4fa75f6a882f1"), looks := true }, kinds := [], alts := [], laidByText := true, laidKinds := [.data, .data, .data, .data, .sentinel, .sentinel, .data, .funcs, .pinned], laidTests := true, laidLooks := .later }
def ParseModesUptoCardSaid : Prop := Claim7.holds Tryz.pinned (.plain (OpenSpec.upto parseModesSpec)) parseModesUptoCard

/-- THE SECOND FORM's CARD OF 'caliperlaw10.ParseRounds'. -/
def parseRoundsUptoCard : Claim7 := { stood := { row := parseRoundsUptoRow, standIns := [], harness := (true, "7debeaad71ca787bec2ecbca9edfb7e633f3b7d3a19aff1c36d4fa75f6a882f1"), looks := true }, kinds := [], alts := [], laidByText := true, laidKinds := [.data, .data, .data, .data, .sentinel, .sentinel, .data, .funcs, .pinned], laidTests := true, laidLooks := .later }
def ParseRoundsUptoCardSaid : Prop := Claim7.holds Tryz.pinned (.plain (OpenSpec.upto parseRoundsSpec)) parseRoundsUptoCard

/-- THE SECOND FORM's CARD OF 'caliperlaw10.ParseHas'. -/
def parseHasUptoCard : Claim7 := { stood := { row := parseHasUptoRow, standIns := [], harness := (true, "7debeaad71ca787bec2ecbca9edfb7e633f3b7d3a19aff1c36d4fa75f6a882f1"), looks := true }, kinds := [], alts := [], laidByText := true, laidKinds := [.data, .data, .data, .data, .sentinel, .sentinel, .data, .funcs, .pinned], laidTests := true, laidLooks := .later }
def ParseHasUptoCardSaid : Prop := Claim7.holds Tryz.pinned (.plain (OpenSpec.upto parseHasSpec)) parseHasUptoCard

/-- THE SECOND FORM's CARD OF 'caliperlaw13.PrintDigits'. -/
def printDigitsUptoCard : Claim7 := { stood := { row := printDigitsUptoRow, standIns := [], harness := (true, "7debeaad71ca787bec2ecbca9edfb7e633f3b7d3a19aff1c36d4fa75f6a882f1"), looks := true }, kinds := [], alts := [], laidByText := true, laidKinds := [.data, .data, .data, .data, .sentinel, .sentinel, .data, .funcs, .mapped, .pinned], laidTests := true, laidLooks := .later }
def PrintDigitsUptoCardSaid : Prop := Claim7.holds Tryz.pinned (.plain (OpenSpec.upto printDigitsSpec)) printDigitsUptoCard

/-- THE SECOND FORM's CARD OF 'caliperlaw13.PrintParsed'. -/
def printParsedUptoCard : Claim7 := { stood := { row := printParsedUptoRow, standIns := [], harness := (true, "7debeaad71ca787bec2ecbca9edfb7e633f3b7d3a19aff1c36d4fa75f6a882f1"), looks := true }, kinds := [], alts := [], laidByText := true, laidKinds := [.data, .data, .data, .data, .sentinel, .sentinel, .data, .funcs, .mapped, .pinned], laidTests := true, laidLooks := .later }
def PrintParsedUptoCardSaid : Prop := Claim7.holds Tryz.pinned (.plain (OpenSpec.upto printParsedSpec)) printParsedUptoCard
end Rows
end Go.Proofs.YtdlkfnkmdlcekaaGreatDoor
