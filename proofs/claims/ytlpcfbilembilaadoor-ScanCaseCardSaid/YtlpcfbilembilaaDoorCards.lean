/-
  DERIVED. GIVEN WITH THE SEED: THE CARDS: each row of YtlpcfbilembilaaDoorRows.lean that lists a variable, with what it lists TIED to the program's text (the seventh form; the later family's looks); each row that meets fmt, with fmt's text TOLD by the authors' own Lean function (tested against real Go, not proved from fmt's source: count such statements apart). THE CARD IS WHAT COUNTS. Prove the row's statement (the work); the ties are given (YtlpcfbilembilaaDoorTie.lean); close each card by the builder's one call (the guide's Derived/Test/ToyasCard.lean, 'card_holds'). Laid BY PROGRAM, IN A SANDBOX (cutbox-door.mjs). By AI agents, Wed Nov 11 2026. No macro, syntax, notation, axiom, sorry.
-/
import Derived.Test.YtlpcfbilembilaaDoorRows
import GoSem.ClaimSeven
namespace Go.Proofs.YtlpcfbilembilaaDoor
namespace Rows

/-- THE TIED CARD OF 'caliperlaw09.ScanPlace'. -/
def scanPlaceCard : Claim7 := { stood := { row := scanPlaceRow, standIns := [], harness := (true, "f9dd06d7bd548006b4c06afc079754fd69e51312e47d82183c116aafa9f05655"), looks := true }, kinds := [], alts := [], laidByText := true, laidKinds := [.data, .data, .data, .data, .sentinel, .sentinel, .pinned], laidTests := true, laidLooks := .later }
def ScanPlaceCardSaid : Prop := Claim7.holds Tryd.pinned (.plain (OpenSpec.ofChange scanPlaceSpec)) scanPlaceCard

/-- THE TIED CARD OF 'caliperlaw09.ScanFar'. -/
def scanFarCard : Claim7 := { stood := { row := scanFarRow, standIns := [], harness := (true, "f9dd06d7bd548006b4c06afc079754fd69e51312e47d82183c116aafa9f05655"), looks := true }, kinds := [], alts := [], laidByText := true, laidKinds := [.data, .data, .data, .data, .sentinel, .sentinel, .pinned], laidTests := true, laidLooks := .later }
def ScanFarCardSaid : Prop := Claim7.holds Tryd.pinned (.plain (OpenSpec.ofChange scanFarSpec)) scanFarCard

/-- THE TIED CARD OF 'caliperlaw09.ScanWords'. -/
def scanWordsCard : Claim7 := { stood := { row := scanWordsRow, standIns := [], harness := (true, "f9dd06d7bd548006b4c06afc079754fd69e51312e47d82183c116aafa9f05655"), looks := true }, kinds := [], alts := [], laidByText := true, laidKinds := [.data, .data, .data, .data, .sentinel, .sentinel, .pinned], laidTests := true, laidLooks := .later }
def ScanWordsCardSaid : Prop := Claim7.holds Tryd.pinned (.plain (OpenSpec.ofChange scanWordsSpec)) scanWordsCard

/-- THE TIED CARD OF 'caliperlaw09.ScanSame'. -/
def scanSameCard : Claim7 := { stood := { row := scanSameRow, standIns := [], harness := (true, "f9dd06d7bd548006b4c06afc079754fd69e51312e47d82183c116aafa9f05655"), looks := true }, kinds := [], alts := [], laidByText := true, laidKinds := [.data, .data, .data, .data, .sentinel, .sentinel, .pinned], laidTests := true, laidLooks := .later }
def ScanSameCardSaid : Prop := Claim7.holds Tryd.pinned (.plain (OpenSpec.ofChange scanSameSpec)) scanSameCard

/-- THE TIED CARD OF 'caliperlaw09.ScanBounds'. -/
def scanBoundsCard : Claim7 := { stood := { row := scanBoundsRow, standIns := [], harness := (true, "f9dd06d7bd548006b4c06afc079754fd69e51312e47d82183c116aafa9f05655"), looks := true }, kinds := [], alts := [], laidByText := true, laidKinds := [.data, .data, .data, .data, .sentinel, .sentinel, .pinned], laidTests := true, laidLooks := .later }
def ScanBoundsCardSaid : Prop := Claim7.holds Tryd.pinned (.plain (OpenSpec.ofChange scanBoundsSpec)) scanBoundsCard

/-- THE TIED CARD OF 'caliperlaw09.ScanSigns'. -/
def scanSignsCard : Claim7 := { stood := { row := scanSignsRow, standIns := [], harness := (true, "f9dd06d7bd548006b4c06afc079754fd69e51312e47d82183c116aafa9f05655"), looks := true }, kinds := [], alts := [], laidByText := true, laidKinds := [.data, .data, .data, .data, .sentinel, .sentinel, .pinned], laidTests := true, laidLooks := .later }
def ScanSignsCardSaid : Prop := Claim7.holds Tryd.pinned (.plain (OpenSpec.ofChange scanSignsSpec)) scanSignsCard

/-- THE TIED CARD OF 'caliperlaw09.ScanCase'. -/
def scanCaseCard : Claim7 := { stood := { row := scanCaseRow, standIns := [], harness := (true, "f9dd06d7bd548006b4c06afc079754fd69e51312e47d82183c116aafa9f05655"), looks := true }, kinds := [], alts := [], laidByText := true, laidKinds := [.data, .data, .data, .data, .sentinel, .sentinel, .pinned], laidTests := true, laidLooks := .later }
def ScanCaseCardSaid : Prop := Claim7.holds Tryd.pinned (.plain (OpenSpec.ofChange scanCaseSpec)) scanCaseCard

/-- THE SECOND FORM's CARD OF 'caliperlaw09.ScanPlace'. -/
def scanPlaceUptoCard : Claim7 := { stood := { row := scanPlaceUptoRow, standIns := [], harness := (true, "f9dd06d7bd548006b4c06afc079754fd69e51312e47d82183c116aafa9f05655"), looks := true }, kinds := [], alts := [], laidByText := true, laidKinds := [.data, .data, .data, .data, .sentinel, .sentinel, .pinned], laidTests := true, laidLooks := .later }
def ScanPlaceUptoCardSaid : Prop := Claim7.holds Tryd.pinned (.plain (OpenSpec.upto scanPlaceSpec)) scanPlaceUptoCard

/-- THE SECOND FORM's CARD OF 'caliperlaw09.ScanFar'. -/
def scanFarUptoCard : Claim7 := { stood := { row := scanFarUptoRow, standIns := [], harness := (true, "f9dd06d7bd548006b4c06afc079754fd69e51312e47d82183c116aafa9f05655"), looks := true }, kinds := [], alts := [], laidByText := true, laidKinds := [.data, .data, .data, .data, .sentinel, .sentinel, .pinned], laidTests := true, laidLooks := .later }
def ScanFarUptoCardSaid : Prop := Claim7.holds Tryd.pinned (.plain (OpenSpec.upto scanFarSpec)) scanFarUptoCard

/-- THE SECOND FORM's CARD OF 'caliperlaw09.ScanWords'. -/
def scanWordsUptoCard : Claim7 := { stood := { row := scanWordsUptoRow, standIns := [], harness := (true, "f9dd06d7bd548006b4c06afc079754fd69e51312e47d82183c116aafa9f05655"), looks := true }, kinds := [], alts := [], laidByText := true, laidKinds := [.data, .data, .data, .data, .sentinel, .sentinel, .pinned], laidTests := true, laidLooks := .later }
def ScanWordsUptoCardSaid : Prop := Claim7.holds Tryd.pinned (.plain (OpenSpec.upto scanWordsSpec)) scanWordsUptoCard

/-- THE SECOND FORM's CARD OF 'caliperlaw09.ScanSame'. -/
def scanSameUptoCard : Claim7 := { stood := { row := scanSameUptoRow, standIns := [], harness := (true, "f9dd06d7bd548006b4c06afc079754fd69e51312e47d82183c116aafa9f05655"), looks := true }, kinds := [], alts := [], laidByText := true, laidKinds := [.data, .data, .data, .data, .sentinel, .sentinel, .pinned], laidTests := true, laidLooks := .later }
def ScanSameUptoCardSaid : Prop := Claim7.holds Tryd.pinned (.plain (OpenSpec.upto scanSameSpec)) scanSameUptoCard

/-- THE SECOND FORM's CARD OF 'caliperlaw09.ScanBounds'. -/
def scanBoundsUptoCard : Claim7 := { stood := { row := scanBoundsUptoRow, standIns := [], harness := (true, "f9dd06d7bd548006b4c06afc079754fd69e51312e47d82183c116aafa9f05655"), looks := true }, kinds := [], alts := [], laidByText := true, laidKinds := [.data, .data, .data, .data, .sentinel, .sentinel, .pinned], laidTests := true, laidLooks := .later }
def ScanBoundsUptoCardSaid : Prop := Claim7.holds Tryd.pinned (.plain (OpenSpec.upto scanBoundsSpec)) scanBoundsUptoCard

/-- THE SECOND FORM's CARD OF 'caliperlaw09.ScanSigns'. -/
def scanSignsUptoCard : Claim7 := { stood := { row := scanSignsUptoRow, standIns := [], harness := (true, "f9dd06d7bd548006b4c06afc079754fd69e51312e47d82183c116aafa9f05655"), looks := true }, kinds := [], alts := [], laidByText := true, laidKinds := [.data, .data, .data, .data, .sentinel, .sentinel, .pinned], laidTests := true, laidLooks := .later }
def ScanSignsUptoCardSaid : Prop := Claim7.holds Tryd.pinned (.plain (OpenSpec.upto scanSignsSpec)) scanSignsUptoCard

/-- THE SECOND FORM's CARD OF 'caliperlaw09.ScanCase'. -/
def scanCaseUptoCard : Claim7 := { stood := { row := scanCaseUptoRow, standIns := [], harness := (true, "f9dd06d7bd548006b4c06afc079754fd69e51312e47d82183c116aafa9f05655"), looks := true }, kinds := [], alts := [], laidByText := true, laidKinds := [.data, .data, .data, .data, .sentinel, .sentinel, .pinned], laidTests := true, laidLooks := .later }
def ScanCaseUptoCardSaid : Prop := Claim7.holds Tryd.pinned (.plain (OpenSpec.upto scanCaseSpec)) scanCaseUptoCard
end Rows
end Go.Proofs.YtlpcfbilembilaaDoor
