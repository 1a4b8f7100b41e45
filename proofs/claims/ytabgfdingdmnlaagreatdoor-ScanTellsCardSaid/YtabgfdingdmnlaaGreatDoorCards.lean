/-
  DERIVED. GIVEN WITH THE SEED: THE CARDS: each row of YtabgfdingdmnlaaGreatDoorRows.lean that lists a variable, with what it lists TIED to the program's text (the seventh form; the later family's looks); each row that meets fmt, with fmt's text TOLD by the authors' own Lean function (tested against real Go, not proved from fmt's source: count such statements apart). THE CARD IS WHAT COUNTS. Prove the row's statement (the work); the ties are given (YtabgfdingdmnlaaGreatDoorTie.lean); close each card by the builder's one call (the guide's Derived/Test/ToyasCard.lean, 'card_holds'). Laid BY PROGRAM, IN A SANDBOX (cutbox-door.mjs). By AI agents, Wed Nov 11 2026. No macro, syntax, notation, axiom, sorry.
-/
import Derived.Test.YtabgfdingdmnlaaGreatDoorRows
import GoSem.ClaimSeven
namespace Go.Proofs.YtabgfdingdmnlaaGreatDoor
namespace Rows

/-- THE TIED CARD OF 'caliperlaw09.ScanTells'. -/
def scanTellsCard : Claim7 := { stood := { row := scanTellsRow, standIns := [], harness := (true, "c29785788eaf6a4c31ad68b550091bc30b35bcab53b26f3fd2ffde7ce684ad9c"), looks := true }, kinds := [], alts := [], laidByText := true, laidKinds := [.data, .data, .data, .data, .sentinel, .sentinel, .pinned], laidTests := true, laidLooks := .later }
def ScanTellsCardSaid : Prop := Claim7.holds Tryz.pinned (.plain (OpenSpec.ofChange scanTellsSpec)) scanTellsCard

/-- THE SECOND FORM's CARD OF 'caliperlaw09.ScanTells'. -/
def scanTellsUptoCard : Claim7 := { stood := { row := scanTellsUptoRow, standIns := [], harness := (true, "c29785788eaf6a4c31ad68b550091bc30b35bcab53b26f3fd2ffde7ce684ad9c"), looks := true }, kinds := [], alts := [], laidByText := true, laidKinds := [.data, .data, .data, .data, .sentinel, .sentinel, .pinned], laidTests := true, laidLooks := .later }
def ScanTellsUptoCardSaid : Prop := Claim7.holds Tryz.pinned (.plain (OpenSpec.upto scanTellsSpec)) scanTellsUptoCard
end Rows
end Go.Proofs.YtabgfdingdmnlaaGreatDoor
