/-
  DERIVED. GIVEN WITH THE SEED: THE CARDS: each row of YtehpneojiinmdaaGreatDoorRows.lean that lists a variable, with what it lists TIED to the program's text (the seventh form; the later family's looks); each row that meets fmt, with fmt's text TOLD by the authors' own Lean function (tested against real Go, not proved from fmt's source: count such statements apart). THE CARD IS WHAT COUNTS. Prove the row's statement (the work); the ties are given (YtehpneojiinmdaaGreatDoorTie.lean); close each card by the builder's one call (the guide's Derived/Test/ToyasCard.lean, 'card_holds'). Laid BY PROGRAM, IN A SANDBOX (cutbox-door.mjs). By AI agents, Wed Nov 11 2026. No macro, syntax, notation, axiom, sorry.
-/
import Derived.Test.YtehpneojiinmdaaGreatDoorRows
import GoSem.ClaimSeven
namespace Go.Proofs.YtehpneojiinmdaaGreatDoor
namespace Rows

/-- THE TIED CARD OF 'calipertop.TopPosits'. -/
def topPositsCard : Claim7 := { stood := { row := topPositsRow, standIns := [], harness := (true, "8392f7b7d9c17e647df580f34f9f6240dc8bd9c62c3eca23946adddd5aa42a64"), looks := true }, kinds := [], alts := [], laidByText := true, laidKinds := [.data, .data, .data, .data, .sentinel, .sentinel, .data, .funcs, .mapped, .pinned], laidTests := true, laidLooks := .later }
def TopPositsCardSaid : Prop := Claim7.holds Tryz.pinned (.plain (OpenSpec.ofChange topPositsSpec)) topPositsCard

/-- THE TIED CARD OF 'calipertop.TopQuire'. -/
def topQuireCard : Claim7 := { stood := { row := topQuireRow, standIns := [], harness := (true, "8392f7b7d9c17e647df580f34f9f6240dc8bd9c62c3eca23946adddd5aa42a64"), looks := true }, kinds := [], alts := [], laidByText := true, laidKinds := [.data, .data, .data, .data, .sentinel, .sentinel, .data, .funcs, .mapped, .pinned], laidTests := true, laidLooks := .later }
def TopQuireCardSaid : Prop := Claim7.holds Tryz.pinned (.plain (OpenSpec.ofChange topQuireSpec)) topQuireCard

/-- THE TIED CARD OF 'caliperlaw19.ScriptPlays'. -/
def scriptPlaysCard : Claim7 := { stood := { row := scriptPlaysRow, standIns := [], harness := (true, "8392f7b7d9c17e647df580f34f9f6240dc8bd9c62c3eca23946adddd5aa42a64"), looks := true }, kinds := [], alts := [], laidByText := true, laidKinds := [.data, .data, .data, .data, .sentinel, .sentinel, .data, .funcs, .pinned], laidTests := true, laidLooks := .later }
def ScriptPlaysCardSaid : Prop := Claim7.holds Tryz.pinned (.plain (OpenSpec.ofChange scriptPlaysSpec)) scriptPlaysCard

/-- THE TIED CARD OF 'caliperlaw19.ScriptJoins'. -/
def scriptJoinsCard : Claim7 := { stood := { row := scriptJoinsRow, standIns := [], harness := (true, "8392f7b7d9c17e647df580f34f9f6240dc8bd9c62c3eca23946adddd5aa42a64"), looks := true }, kinds := [], alts := [], laidByText := true, laidKinds := [.data, .data, .data, .data, .sentinel, .sentinel, .data, .funcs, .pinned], laidTests := true, laidLooks := .later }
def ScriptJoinsCardSaid : Prop := Claim7.holds Tryz.pinned (.plain (OpenSpec.ofChange scriptJoinsSpec)) scriptJoinsCard

/-- THE TIED CARD OF 'caliperlaw19.ScriptCuts'. -/
def scriptCutsCard : Claim7 := { stood := { row := scriptCutsRow, standIns := [], harness := (true, "8392f7b7d9c17e647df580f34f9f6240dc8bd9c62c3eca23946adddd5aa42a64"), looks := true }, kinds := [], alts := [], laidByText := true, laidKinds := [.data, .data, .data, .data, .sentinel, .sentinel, .data, .funcs, .pinned], laidTests := true, laidLooks := .later }
def ScriptCutsCardSaid : Prop := Claim7.holds Tryz.pinned (.plain (OpenSpec.ofChange scriptCutsSpec)) scriptCutsCard

/-- THE TIED CARD OF 'caliperlaw19.ScriptLong'. -/
def scriptLongCard : Claim7 := { stood := { row := scriptLongRow, standIns := [], harness := (true, "8392f7b7d9c17e647df580f34f9f6240dc8bd9c62c3eca23946adddd5aa42a64"), looks := true }, kinds := [], alts := [], laidByText := true, laidKinds := [.data, .data, .data, .data, .sentinel, .sentinel, .data, .funcs, .pinned], laidTests := true, laidLooks := .later }
def ScriptLongCardSaid : Prop := Claim7.holds Tryz.pinned (.plain (OpenSpec.ofChange scriptLongSpec)) scriptLongCard

/-- THE TIED CARD OF 'caliperlaw20.SuiteLines'. -/
def suiteLinesCard : Claim7 := { stood := { row := suiteLinesRow, standIns := [], harness := (true, "8392f7b7d9c17e647df580f34f9f6240dc8bd9c62c3eca23946adddd5aa42a64"), looks := true }, kinds := [], alts := [], laidByText := true, laidKinds := [.data, .data, .data, .data, .sentinel, .sentinel, .data, .funcs, .mapped, .widerDeep, .funcs, .pinned], laidTests := true, laidLooks := .later }
def SuiteLinesCardSaid : Prop := Claim7.holds Tryz.pinned (.plain (OpenSpec.ofChange suiteLinesSpec)) suiteLinesCard

/-- THE SECOND FORM's CARD OF 'calipertop.TopPosits'. -/
def topPositsUptoCard : Claim7 := { stood := { row := topPositsUptoRow, standIns := [], harness := (true, "8392f7b7d9c17e647df580f34f9f6240dc8bd9c62c3eca23946adddd5aa42a64"), looks := true }, kinds := [], alts := [], laidByText := true, laidKinds := [.data, .data, .data, .data, .sentinel, .sentinel, .data, .funcs, .mapped, .pinned], laidTests := true, laidLooks := .later }
def TopPositsUptoCardSaid : Prop := Claim7.holds Tryz.pinned (.plain (OpenSpec.upto topPositsSpec)) topPositsUptoCard

/-- THE SECOND FORM's CARD OF 'calipertop.TopQuire'. -/
def topQuireUptoCard : Claim7 := { stood := { row := topQuireUptoRow, standIns := [], harness := (true, "8392f7b7d9c17e647df580f34f9f6240dc8bd9c62c3eca23946adddd5aa42a64"), looks := true }, kinds := [], alts := [], laidByText := true, laidKinds := [.data, .data, .data, .data, .sentinel, .sentinel, .data, .funcs, .mapped, .pinned], laidTests := true, laidLooks := .later }
def TopQuireUptoCardSaid : Prop := Claim7.holds Tryz.pinned (.plain (OpenSpec.upto topQuireSpec)) topQuireUptoCard

/-- THE SECOND FORM's CARD OF 'caliperlaw19.ScriptPlays'. -/
def scriptPlaysUptoCard : Claim7 := { stood := { row := scriptPlaysUptoRow, standIns := [], harness := (true, "8392f7b7d9c17e647df580f34f9f6240dc8bd9c62c3eca23946adddd5aa42a64"), looks := true }, kinds := [], alts := [], laidByText := true, laidKinds := [.data, .data, .data, .data, .sentinel, .sentinel, .data, .funcs, .pinned], laidTests := true, laidLooks := .later }
def ScriptPlaysUptoCardSaid : Prop := Claim7.holds Tryz.pinned (.plain (OpenSpec.upto scriptPlaysSpec)) scriptPlaysUptoCard

/-- THE SECOND FORM's CARD OF 'caliperlaw19.ScriptJoins'. -/
def scriptJoinsUptoCard : Claim7 := { stood := { row := scriptJoinsUptoRow, standIns := [], harness := (true, "8392f7b7d9c17e647df580f34f9f6240dc8bd9c62c3eca23946adddd5aa42a64"), looks := true }, kinds := [], alts := [], laidByText := true, laidKinds := [.data, .data, .data, .data, .sentinel, .sentinel, .data, .funcs, .pinned], laidTests := true, laidLooks := .later }
def ScriptJoinsUptoCardSaid : Prop := Claim7.holds Tryz.pinned (.plain (OpenSpec.upto scriptJoinsSpec)) scriptJoinsUptoCard

/-- THE SECOND FORM's CARD OF 'caliperlaw19.ScriptCuts'. -/
def scriptCutsUptoCard : Claim7 := { stood := { row := scriptCutsUptoRow, standIns := [], harness := (true, "8392f7b7d9c17e647df580f34f9f6240dc8bd9c62c3eca23946adddd5aa42a64"), looks := true }, kinds := [], alts := [], laidByText := true, laidKinds := [.data, .data, .data, .data, .sentinel, .sentinel, .data, .funcs, .pinned], laidTests := true, laidLooks := .later }
def ScriptCutsUptoCardSaid : Prop := Claim7.holds Tryz.pinned (.plain (OpenSpec.upto scriptCutsSpec)) scriptCutsUptoCard

/-- THE SECOND FORM's CARD OF 'caliperlaw19.ScriptLong'. -/
def scriptLongUptoCard : Claim7 := { stood := { row := scriptLongUptoRow, standIns := [], harness := (true, "8392f7b7d9c17e647df580f34f9f6240dc8bd9c62c3eca23946adddd5aa42a64"), looks := true }, kinds := [], alts := [], laidByText := true, laidKinds := [.data, .data, .data, .data, .sentinel, .sentinel, .data, .funcs, .pinned], laidTests := true, laidLooks := .later }
def ScriptLongUptoCardSaid : Prop := Claim7.holds Tryz.pinned (.plain (OpenSpec.upto scriptLongSpec)) scriptLongUptoCard

/-- THE SECOND FORM's CARD OF 'caliperlaw20.SuiteLines'. -/
def suiteLinesUptoCard : Claim7 := { stood := { row := suiteLinesUptoRow, standIns := [], harness := (true, "8392f7b7d9c17e647df580f34f9f6240dc8bd9c62c3eca23946adddd5aa42a64"), looks := true }, kinds := [], alts := [], laidByText := true, laidKinds := [.data, .data, .data, .data, .sentinel, .sentinel, .data, .funcs, .mapped, .widerDeep, .funcs, .pinned], laidTests := true, laidLooks := .later }
def SuiteLinesUptoCardSaid : Prop := Claim7.holds Tryz.pinned (.plain (OpenSpec.upto suiteLinesSpec)) suiteLinesUptoCard
end Rows
end Go.Proofs.YtehpneojiinmdaaGreatDoor
