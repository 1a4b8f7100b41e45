/-
  DERIVED. GIVEN WITH THE SEED: THE CARDS: each row of YtjhdkdfiadlmcaaGreatDoorRows.lean that lists a variable, with what it lists TIED to the program's text (the seventh form; the later family's looks); each row that meets fmt, with fmt's text TOLD by the authors' own Lean function (tested against real Go, not proved from fmt's source: count such statements apart). THE CARD IS WHAT COUNTS. Prove the row's statement (the work); the ties are given (YtjhdkdfiadlmcaaGreatDoorTie.lean); close each card by the builder's one call (the guide's Derived/Test/ToyasCard.lean, 'card_holds'). Laid BY PROGRAM, IN A SANDBOX (cutbox-door.mjs). By AI agents, Wed Nov 11 2026. No macro, syntax, notation, axiom, sorry.
-/
import Derived.Test.YtjhdkdfiadlmcaaGreatDoorRows
import GoSem.ClaimSeven
namespace Go.Proofs.YtjhdkdfiadlmcaaGreatDoor
namespace Rows

/-- THE TIED CARD OF 'caliperlaw12.LayoutTells'. -/
def layoutTellsCard : Claim7 := { stood := { row := layoutTellsRow, standIns := [], harness := (true, "fd2e6eb5c8ae2ca6c41c8bdaa67632c55ff6aab2f037a243d762e9a8d0a6b06f"), looks := true }, kinds := [], alts := [], laidByText := true, laidKinds := [.data, .data, .data, .data, .sentinel, .sentinel, .pinned], laidTests := true, laidLooks := .later }
def LayoutTellsCardSaid : Prop := Claim7.holds Tryz.pinned (.plain (OpenSpec.ofChange layoutTellsSpec)) layoutTellsCard

/-- THE TIED CARD OF 'caliperlaw12.LayoutSigns'. -/
def layoutSignsCard : Claim7 := { stood := { row := layoutSignsRow, standIns := [], harness := (true, "fd2e6eb5c8ae2ca6c41c8bdaa67632c55ff6aab2f037a243d762e9a8d0a6b06f"), looks := true }, kinds := [], alts := [], laidByText := true, laidKinds := [.data, .data, .data, .data, .sentinel, .sentinel, .pinned], laidTests := true, laidLooks := .later }
def LayoutSignsCardSaid : Prop := Claim7.holds Tryz.pinned (.plain (OpenSpec.ofChange layoutSignsSpec)) layoutSignsCard

/-- THE TIED CARD OF 'caliperlaw12.LayoutBack'. -/
def layoutBackCard : Claim7 := { stood := { row := layoutBackRow, standIns := [], harness := (true, "fd2e6eb5c8ae2ca6c41c8bdaa67632c55ff6aab2f037a243d762e9a8d0a6b06f"), looks := true }, kinds := [], alts := [], laidByText := true, laidKinds := [.data, .data, .data, .data, .sentinel, .sentinel, .pinned], laidTests := true, laidLooks := .later }
def LayoutBackCardSaid : Prop := Claim7.holds Tryz.pinned (.plain (OpenSpec.ofChange layoutBackSpec)) layoutBackCard

/-- THE TIED CARD OF 'caliperlaw12.LayoutApart'. -/
def layoutApartCard : Claim7 := { stood := { row := layoutApartRow, standIns := [], harness := (true, "fd2e6eb5c8ae2ca6c41c8bdaa67632c55ff6aab2f037a243d762e9a8d0a6b06f"), looks := true }, kinds := [], alts := [], laidByText := true, laidKinds := [.data, .data, .data, .data, .sentinel, .sentinel, .pinned], laidTests := true, laidLooks := .later }
def LayoutApartCardSaid : Prop := Claim7.holds Tryz.pinned (.plain (OpenSpec.ofChange layoutApartSpec)) layoutApartCard

/-- THE TIED CARD OF 'caliperlaw12.LayoutWholes'. -/
def layoutWholesCard : Claim7 := { stood := { row := layoutWholesRow, standIns := [], harness := (true, "fd2e6eb5c8ae2ca6c41c8bdaa67632c55ff6aab2f037a243d762e9a8d0a6b06f"), looks := true }, kinds := [], alts := [], laidByText := true, laidKinds := [.data, .data, .data, .data, .sentinel, .sentinel, .pinned], laidTests := true, laidLooks := .later }
def LayoutWholesCardSaid : Prop := Claim7.holds Tryz.pinned (.plain (OpenSpec.ofChange layoutWholesSpec)) layoutWholesCard

/-- THE TIED CARD OF 'caliperlaw12.LayoutScanned'. -/
def layoutScannedCard : Claim7 := { stood := { row := layoutScannedRow, standIns := [], harness := (true, "fd2e6eb5c8ae2ca6c41c8bdaa67632c55ff6aab2f037a243d762e9a8d0a6b06f"), looks := true }, kinds := [], alts := [], laidByText := true, laidKinds := [.data, .data, .data, .data, .sentinel, .sentinel, .pinned], laidTests := true, laidLooks := .later }
def LayoutScannedCardSaid : Prop := Claim7.holds Tryz.pinned (.plain (OpenSpec.ofChange layoutScannedSpec)) layoutScannedCard

/-- THE SECOND FORM's CARD OF 'caliperlaw12.LayoutTells'. -/
def layoutTellsUptoCard : Claim7 := { stood := { row := layoutTellsUptoRow, standIns := [], harness := (true, "fd2e6eb5c8ae2ca6c41c8bdaa67632c55ff6aab2f037a243d762e9a8d0a6b06f"), looks := true }, kinds := [], alts := [], laidByText := true, laidKinds := [.data, .data, .data, .data, .sentinel, .sentinel, .pinned], laidTests := true, laidLooks := .later }
def LayoutTellsUptoCardSaid : Prop := Claim7.holds Tryz.pinned (.plain (OpenSpec.upto layoutTellsSpec)) layoutTellsUptoCard

/-- THE SECOND FORM's CARD OF 'caliperlaw12.LayoutSigns'. -/
def layoutSignsUptoCard : Claim7 := { stood := { row := layoutSignsUptoRow, standIns := [], harness := (true, "fd2e6eb5c8ae2ca6c41c8bdaa67632c55ff6aab2f037a243d762e9a8d0a6b06f"), looks := true }, kinds := [], alts := [], laidByText := true, laidKinds := [.data, .data, .data, .data, .sentinel, .sentinel, .pinned], laidTests := true, laidLooks := .later }
def LayoutSignsUptoCardSaid : Prop := Claim7.holds Tryz.pinned (.plain (OpenSpec.upto layoutSignsSpec)) layoutSignsUptoCard

/-- THE SECOND FORM's CARD OF 'caliperlaw12.LayoutBack'. -/
def layoutBackUptoCard : Claim7 := { stood := { row := layoutBackUptoRow, standIns := [], harness := (true, "fd2e6eb5c8ae2ca6c41c8bdaa67632c55ff6aab2f037a243d762e9a8d0a6b06f"), looks := true }, kinds := [], alts := [], laidByText := true, laidKinds := [.data, .data, .data, .data, .sentinel, .sentinel, .pinned], laidTests := true, laidLooks := .later }
def LayoutBackUptoCardSaid : Prop := Claim7.holds Tryz.pinned (.plain (OpenSpec.upto layoutBackSpec)) layoutBackUptoCard

/-- THE SECOND FORM's CARD OF 'caliperlaw12.LayoutApart'. -/
def layoutApartUptoCard : Claim7 := { stood := { row := layoutApartUptoRow, standIns := [], harness := (true, "fd2e6eb5c8ae2ca6c41c8bdaa67632c55ff6aab2f037a243d762e9a8d0a6b06f"), looks := true }, kinds := [], alts := [], laidByText := true, laidKinds := [.data, .data, .data, .data, .sentinel, .sentinel, .pinned], laidTests := true, laidLooks := .later }
def LayoutApartUptoCardSaid : Prop := Claim7.holds Tryz.pinned (.plain (OpenSpec.upto layoutApartSpec)) layoutApartUptoCard

/-- THE SECOND FORM's CARD OF 'caliperlaw12.LayoutWholes'. -/
def layoutWholesUptoCard : Claim7 := { stood := { row := layoutWholesUptoRow, standIns := [], harness := (true, "fd2e6eb5c8ae2ca6c41c8bdaa67632c55ff6aab2f037a243d762e9a8d0a6b06f"), looks := true }, kinds := [], alts := [], laidByText := true, laidKinds := [.data, .data, .data, .data, .sentinel, .sentinel, .pinned], laidTests := true, laidLooks := .later }
def LayoutWholesUptoCardSaid : Prop := Claim7.holds Tryz.pinned (.plain (OpenSpec.upto layoutWholesSpec)) layoutWholesUptoCard

/-- THE SECOND FORM's CARD OF 'caliperlaw12.LayoutScanned'. -/
def layoutScannedUptoCard : Claim7 := { stood := { row := layoutScannedUptoRow, standIns := [], harness := (true, "fd2e6eb5c8ae2ca6c41c8bdaa67632c55ff6aab2f037a243d762e9a8d0a6b06f"), looks := true }, kinds := [], alts := [], laidByText := true, laidKinds := [.data, .data, .data, .data, .sentinel, .sentinel, .pinned], laidTests := true, laidLooks := .later }
def LayoutScannedUptoCardSaid : Prop := Claim7.holds Tryz.pinned (.plain (OpenSpec.upto layoutScannedSpec)) layoutScannedUptoCard
end Rows
end Go.Proofs.YtjhdkdfiadlmcaaGreatDoor
