/-
  DERIVED. GIVEN WITH THE SEED: THE CARDS: each row of YtmkhmmdomnhacaaDoorRows.lean that lists a variable, with what it lists TIED to the program's text (the seventh form; the later family's looks); each row that meets fmt, with fmt's text TOLD by the authors' own Lean function (tested against real Go, not proved from fmt's source: count such statements apart). THE CARD IS WHAT COUNTS. Prove the row's statement (the work); the ties are given (YtmkhmmdomnhacaaDoorTie.lean); close each card by the builder's one call (the guide's Derived/Test/ToyasCard.lean, 'card_holds'). Laid BY PROGRAM, IN A SANDBOX (cutbox-door.mjs). By AI agents, Wed Nov 11 2026. No macro, syntax, notation, axiom, sorry.
-/
import Derived.Test.YtmkhmmdomnhacaaDoorRows
import GoSem.ClaimSeven
namespace Go.Proofs.YtmkhmmdomnhacaaDoor
namespace Rows

/-- THE TIED CARD OF 'caliperlaw04.FormTells'. -/
def formTellsCard : Claim7 := { stood := { row := formTellsRow, standIns := [], harness := (true, "99b8fc36f11dc28f10044613c339486e8c9cf3db92c9506285c7360976fbc935"), looks := false }, kinds := [], alts := [], laidByText := true, laidKinds := [.data], laidTests := true, laidLooks := .later }
def FormTellsCardSaid : Prop := Claim7.holds Tryd.pinned (.plain (OpenSpec.ofChange formTellsSpec)) formTellsCard

/-- THE TIED CARD OF 'caliperlaw04.FormCanon'. -/
def formCanonCard : Claim7 := { stood := { row := formCanonRow, standIns := [], harness := (true, "99b8fc36f11dc28f10044613c339486e8c9cf3db92c9506285c7360976fbc935"), looks := false }, kinds := [], alts := [], laidByText := true, laidKinds := [.data], laidTests := true, laidLooks := .later }
def FormCanonCardSaid : Prop := Claim7.holds Tryd.pinned (.plain (OpenSpec.ofChange formCanonSpec)) formCanonCard

/-- THE TIED CARD OF 'caliperlaw04.FormTwice'. -/
def formTwiceCard : Claim7 := { stood := { row := formTwiceRow, standIns := [], harness := (true, "99b8fc36f11dc28f10044613c339486e8c9cf3db92c9506285c7360976fbc935"), looks := false }, kinds := [], alts := [], laidByText := true, laidKinds := [.data], laidTests := true, laidLooks := .later }
def FormTwiceCardSaid : Prop := Claim7.holds Tryd.pinned (.plain (OpenSpec.ofChange formTwiceSpec)) formTwiceCard

/-- THE TIED CARD OF 'caliperlaw04.FormShapes'. -/
def formShapesCard : Claim7 := { stood := { row := formShapesRow, standIns := [], harness := (true, "99b8fc36f11dc28f10044613c339486e8c9cf3db92c9506285c7360976fbc935"), looks := false }, kinds := [], alts := [], laidByText := true, laidKinds := [.data], laidTests := true, laidLooks := .later }
def FormShapesCardSaid : Prop := Claim7.holds Tryd.pinned (.plain (OpenSpec.ofChange formShapesSpec)) formShapesCard

/-- THE TIED CARD OF 'caliperlaw04.FormAll'. -/
def formAllCard : Claim7 := { stood := { row := formAllRow, standIns := [], harness := (true, "99b8fc36f11dc28f10044613c339486e8c9cf3db92c9506285c7360976fbc935"), looks := false }, kinds := [], alts := [], laidByText := true, laidKinds := [.data], laidTests := true, laidLooks := .later }
def FormAllCardSaid : Prop := Claim7.holds Tryd.pinned (.plain (OpenSpec.ofChange formAllSpec)) formAllCard

/-- THE SECOND FORM's CARD OF 'caliperlaw04.FormTells'. -/
def formTellsUptoCard : Claim7 := { stood := { row := formTellsUptoRow, standIns := [], harness := (true, "99b8fc36f11dc28f10044613c339486e8c9cf3db92c9506285c7360976fbc935"), looks := false }, kinds := [], alts := [], laidByText := true, laidKinds := [.data], laidTests := true, laidLooks := .later }
def FormTellsUptoCardSaid : Prop := Claim7.holds Tryd.pinned (.plain (OpenSpec.upto formTellsSpec)) formTellsUptoCard

/-- THE SECOND FORM's CARD OF 'caliperlaw04.FormCanon'. -/
def formCanonUptoCard : Claim7 := { stood := { row := formCanonUptoRow, standIns := [], harness := (true, "99b8fc36f11dc28f10044613c339486e8c9cf3db92c9506285c7360976fbc935"), looks := false }, kinds := [], alts := [], laidByText := true, laidKinds := [.data], laidTests := true, laidLooks := .later }
def FormCanonUptoCardSaid : Prop := Claim7.holds Tryd.pinned (.plain (OpenSpec.upto formCanonSpec)) formCanonUptoCard

/-- THE SECOND FORM's CARD OF 'caliperlaw04.FormTwice'. -/
def formTwiceUptoCard : Claim7 := { stood := { row := formTwiceUptoRow, standIns := [], harness := (true, "99b8fc36f11dc28f10044613c339486e8c9cf3db92c9506285c7360976fbc935"), looks := false }, kinds := [], alts := [], laidByText := true, laidKinds := [.data], laidTests := true, laidLooks := .later }
def FormTwiceUptoCardSaid : Prop := Claim7.holds Tryd.pinned (.plain (OpenSpec.upto formTwiceSpec)) formTwiceUptoCard

/-- THE SECOND FORM's CARD OF 'caliperlaw04.FormShapes'. -/
def formShapesUptoCard : Claim7 := { stood := { row := formShapesUptoRow, standIns := [], harness := (true, "99b8fc36f11dc28f10044613c339486e8c9cf3db92c9506285c7360976fbc935"), looks := false }, kinds := [], alts := [], laidByText := true, laidKinds := [.data], laidTests := true, laidLooks := .later }
def FormShapesUptoCardSaid : Prop := Claim7.holds Tryd.pinned (.plain (OpenSpec.upto formShapesSpec)) formShapesUptoCard

/-- THE SECOND FORM's CARD OF 'caliperlaw04.FormAll'. -/
def formAllUptoCard : Claim7 := { stood := { row := formAllUptoRow, standIns := [], harness := (true, "99b8fc36f11dc28f10044613c339486e8c9cf3db92c9506285c7360976fbc935"), looks := false }, kinds := [], alts := [], laidByText := true, laidKinds := [.data], laidTests := true, laidLooks := .later }
def FormAllUptoCardSaid : Prop := Claim7.holds Tryd.pinned (.plain (OpenSpec.upto formAllSpec)) formAllUptoCard
end Rows
end Go.Proofs.YtmkhmmdomnhacaaDoor
