/-
  DERIVED. GIVEN WITH THE SEED: THE CARDS: each row of YtniffclplmgcfaaGreatDoorRows.lean that lists a variable, with what it lists TIED to the program's text (the seventh form; the later family's looks); each row that meets fmt, with fmt's text TOLD by the authors' own Lean function (tested against real Go, not proved from fmt's source: count such statements apart). THE CARD IS WHAT COUNTS. Prove the row's statement (the work); the ties are given (YtniffclplmgcfaaGreatDoorTie.lean); close each card by the builder's one call (the guide's Derived/Test/ToyasCard.lean, 'card_holds'). Laid BY PROGRAM, IN A SANDBOX (cutbox-door.mjs). By AI agents, Wed Nov 11 2026. No macro, syntax, notation, axiom, sorry.
-/
import Derived.Test.YtniffclplmgcfaaGreatDoorRows
import GoSem.ClaimSeven
namespace Go.Proofs.YtniffclplmgcfaaGreatDoor
namespace Rows

/-- THE TIED CARD OF 'caliperlaw01.NatReckons'. -/
def natReckonsCard : Claim7 := { stood := { row := natReckonsRow, standIns := [], harness := (true, "0265a9f6f2813875e913d9078a0a0b9e6f43ce180ac8072359737275c546159c"), looks := true }, kinds := [], alts := [], laidByText := true, laidKinds := [.data, .data, .data, .data, .sentinel, .sentinel, .pinned], laidTests := true, laidLooks := .later }
def NatReckonsCardSaid : Prop := Claim7.holds Tryz.pinned (.plain (OpenSpec.ofChange natReckonsSpec)) natReckonsCard

/-- THE TIED CARD OF 'caliperlaw01.NatShifts'. -/
def natShiftsCard : Claim7 := { stood := { row := natShiftsRow, standIns := [], harness := (true, "0265a9f6f2813875e913d9078a0a0b9e6f43ce180ac8072359737275c546159c"), looks := true }, kinds := [], alts := [], laidByText := true, laidKinds := [.data, .data, .data, .data, .sentinel, .sentinel, .pinned], laidTests := true, laidLooks := .later }
def NatShiftsCardSaid : Prop := Claim7.holds Tryz.pinned (.plain (OpenSpec.ofChange natShiftsSpec)) natShiftsCard

/-- THE TIED CARD OF 'caliperlaw01.NatTexts'. -/
def natTextsCard : Claim7 := { stood := { row := natTextsRow, standIns := [], harness := (true, "0265a9f6f2813875e913d9078a0a0b9e6f43ce180ac8072359737275c546159c"), looks := true }, kinds := [], alts := [], laidByText := true, laidKinds := [.data, .data, .data, .data, .sentinel, .sentinel, .pinned], laidTests := true, laidLooks := .later }
def NatTextsCardSaid : Prop := Claim7.holds Tryz.pinned (.plain (OpenSpec.ofChange natTextsSpec)) natTextsCard

/-- THE TIED CARD OF 'caliperlaw01.NatPowers'. -/
def natPowersCard : Claim7 := { stood := { row := natPowersRow, standIns := [], harness := (true, "0265a9f6f2813875e913d9078a0a0b9e6f43ce180ac8072359737275c546159c"), looks := true }, kinds := [], alts := [], laidByText := true, laidKinds := [.data, .data, .data, .data, .sentinel, .sentinel, .pinned], laidTests := true, laidLooks := .later }
def NatPowersCardSaid : Prop := Claim7.holds Tryz.pinned (.plain (OpenSpec.ofChange natPowersSpec)) natPowersCard

/-- THE SECOND FORM's CARD OF 'caliperlaw01.NatReckons'. -/
def natReckonsUptoCard : Claim7 := { stood := { row := natReckonsUptoRow, standIns := [], harness := (true, "0265a9f6f2813875e913d9078a0a0b9e6f43ce180ac8072359737275c546159c"), looks := true }, kinds := [], alts := [], laidByText := true, laidKinds := [.data, .data, .data, .data, .sentinel, .sentinel, .pinned], laidTests := true, laidLooks := .later }
def NatReckonsUptoCardSaid : Prop := Claim7.holds Tryz.pinned (.plain (OpenSpec.upto natReckonsSpec)) natReckonsUptoCard

/-- THE SECOND FORM's CARD OF 'caliperlaw01.NatShifts'. -/
def natShiftsUptoCard : Claim7 := { stood := { row := natShiftsUptoRow, standIns := [], harness := (true, "0265a9f6f2813875e913d9078a0a0b9e6f43ce180ac8072359737275c546159c"), looks := true }, kinds := [], alts := [], laidByText := true, laidKinds := [.data, .data, .data, .data, .sentinel, .sentinel, .pinned], laidTests := true, laidLooks := .later }
def NatShiftsUptoCardSaid : Prop := Claim7.holds Tryz.pinned (.plain (OpenSpec.upto natShiftsSpec)) natShiftsUptoCard

/-- THE SECOND FORM's CARD OF 'caliperlaw01.NatTexts'. -/
def natTextsUptoCard : Claim7 := { stood := { row := natTextsUptoRow, standIns := [], harness := (true, "0265a9f6f2813875e913d9078a0a0b9e6f43ce180ac8072359737275c546159c"), looks := true }, kinds := [], alts := [], laidByText := true, laidKinds := [.data, .data, .data, .data, .sentinel, .sentinel, .pinned], laidTests := true, laidLooks := .later }
def NatTextsUptoCardSaid : Prop := Claim7.holds Tryz.pinned (.plain (OpenSpec.upto natTextsSpec)) natTextsUptoCard

/-- THE SECOND FORM's CARD OF 'caliperlaw01.NatPowers'. -/
def natPowersUptoCard : Claim7 := { stood := { row := natPowersUptoRow, standIns := [], harness := (true, "0265a9f6f2813875e913d9078a0a0b9e6f43ce180ac8072359737275c546159c"), looks := true }, kinds := [], alts := [], laidByText := true, laidKinds := [.data, .data, .data, .data, .sentinel, .sentinel, .pinned], laidTests := true, laidLooks := .later }
def NatPowersUptoCardSaid : Prop := Claim7.holds Tryz.pinned (.plain (OpenSpec.upto natPowersSpec)) natPowersUptoCard
end Rows
end Go.Proofs.YtniffclplmgcfaaGreatDoor
