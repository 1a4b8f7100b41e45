/-
  DERIVED. GIVEN WITH THE SEED: THE CARDS: each row of YtdclphnakdmgjaaDoorRows.lean that lists a variable, with what it lists TIED to the program's text (the seventh form; the later family's looks); each row that meets fmt, with fmt's text TOLD by the authors' own Lean function (tested against real Go, not proved from fmt's source: count such statements apart). THE CARD IS WHAT COUNTS. Prove the row's statement (the work); the ties are given (YtdclphnakdmgjaaDoorTie.lean); close each card by the builder's one call (the guide's Derived/Test/ToyasCard.lean, 'card_holds'). Laid BY PROGRAM, IN A SANDBOX (cutbox-door.mjs). By AI agents, Wed Nov 11 2026. No macro, syntax, notation, axiom, sorry.
-/
import Derived.Test.YtdclphnakdmgjaaDoorRows
import GoSem.ClaimSeven
namespace Go.Proofs.YtdclphnakdmgjaaDoor
namespace Rows

/-- THE TIED CARD OF 'caliperlaw01.NatRing'. -/
def natRingCard : Claim7 := { stood := { row := natRingRow, standIns := [], harness := (true, "9ff7fcd344e32438be88bfdf9ea78492c2842dfcde4aee5f96431906debc9b8b"), looks := true }, kinds := [], alts := [], laidByText := true, laidKinds := [.data, .data, .data, .data, .sentinel, .sentinel, .pinned], laidTests := true, laidLooks := .later }
def NatRingCardSaid : Prop := Claim7.holds Tryd.pinned (.plain (OpenSpec.ofChange natRingSpec)) natRingCard

/-- THE TIED CARD OF 'caliperlaw01.NatParts'. -/
def natPartsCard : Claim7 := { stood := { row := natPartsRow, standIns := [], harness := (true, "9ff7fcd344e32438be88bfdf9ea78492c2842dfcde4aee5f96431906debc9b8b"), looks := true }, kinds := [], alts := [], laidByText := true, laidKinds := [.data, .data, .data, .data, .sentinel, .sentinel, .pinned], laidTests := true, laidLooks := .later }
def NatPartsCardSaid : Prop := Claim7.holds Tryd.pinned (.plain (OpenSpec.ofChange natPartsSpec)) natPartsCard

/-- THE TIED CARD OF 'caliperlaw01.NatOrder'. -/
def natOrderCard : Claim7 := { stood := { row := natOrderRow, standIns := [], harness := (true, "9ff7fcd344e32438be88bfdf9ea78492c2842dfcde4aee5f96431906debc9b8b"), looks := true }, kinds := [], alts := [], laidByText := true, laidKinds := [.data, .data, .data, .data, .sentinel, .sentinel, .pinned], laidTests := true, laidLooks := .later }
def NatOrderCardSaid : Prop := Claim7.holds Tryd.pinned (.plain (OpenSpec.ofChange natOrderSpec)) natOrderCard

/-- THE TIED CARD OF 'caliperlaw01.NatBits'. -/
def natBitsCard : Claim7 := { stood := { row := natBitsRow, standIns := [], harness := (true, "9ff7fcd344e32438be88bfdf9ea78492c2842dfcde4aee5f96431906debc9b8b"), looks := true }, kinds := [], alts := [], laidByText := true, laidKinds := [.data, .data, .data, .data, .sentinel, .sentinel, .pinned], laidTests := true, laidLooks := .later }
def NatBitsCardSaid : Prop := Claim7.holds Tryd.pinned (.plain (OpenSpec.ofChange natBitsSpec)) natBitsCard

/-- THE TIED CARD OF 'caliperlaw01.NatOwn'. -/
def natOwnCard : Claim7 := { stood := { row := natOwnRow, standIns := [], harness := (true, "9ff7fcd344e32438be88bfdf9ea78492c2842dfcde4aee5f96431906debc9b8b"), looks := true }, kinds := [], alts := [], laidByText := true, laidKinds := [.data, .data, .data, .data, .sentinel, .sentinel, .pinned], laidTests := true, laidLooks := .later }
def NatOwnCardSaid : Prop := Claim7.holds Tryd.pinned (.plain (OpenSpec.ofChange natOwnSpec)) natOwnCard

/-- THE TIED CARD OF 'caliperlaw01.NatTens'. -/
def natTensCard : Claim7 := { stood := { row := natTensRow, standIns := [], harness := (true, "9ff7fcd344e32438be88bfdf9ea78492c2842dfcde4aee5f96431906debc9b8b"), looks := true }, kinds := [], alts := [], laidByText := true, laidKinds := [.data, .data, .data, .data, .sentinel, .sentinel, .pinned], laidTests := true, laidLooks := .later }
def NatTensCardSaid : Prop := Claim7.holds Tryd.pinned (.plain (OpenSpec.ofChange natTensSpec)) natTensCard

/-- THE SECOND FORM's CARD OF 'caliperlaw01.NatRing'. -/
def natRingUptoCard : Claim7 := { stood := { row := natRingUptoRow, standIns := [], harness := (true, "9ff7fcd344e32438be88bfdf9ea78492c2842dfcde4aee5f96431906debc9b8b"), looks := true }, kinds := [], alts := [], laidByText := true, laidKinds := [.data, .data, .data, .data, .sentinel, .sentinel, .pinned], laidTests := true, laidLooks := .later }
def NatRingUptoCardSaid : Prop := Claim7.holds Tryd.pinned (.plain (OpenSpec.upto natRingSpec)) natRingUptoCard

/-- THE SECOND FORM's CARD OF 'caliperlaw01.NatParts'. -/
def natPartsUptoCard : Claim7 := { stood := { row := natPartsUptoRow, standIns := [], harness := (true, "9ff7fcd344e32438be88bfdf9ea78492c2842dfcde4aee5f96431906debc9b8b"), looks := true }, kinds := [], alts := [], laidByText := true, laidKinds := [.data, .data, .data, .data, .sentinel, .sentinel, .pinned], laidTests := true, laidLooks := .later }
def NatPartsUptoCardSaid : Prop := Claim7.holds Tryd.pinned (.plain (OpenSpec.upto natPartsSpec)) natPartsUptoCard

/-- THE SECOND FORM's CARD OF 'caliperlaw01.NatOrder'. -/
def natOrderUptoCard : Claim7 := { stood := { row := natOrderUptoRow, standIns := [], harness := (true, "9ff7fcd344e32438be88bfdf9ea78492c2842dfcde4aee5f96431906debc9b8b"), looks := true }, kinds := [], alts := [], laidByText := true, laidKinds := [.data, .data, .data, .data, .sentinel, .sentinel, .pinned], laidTests := true, laidLooks := .later }
def NatOrderUptoCardSaid : Prop := Claim7.holds Tryd.pinned (.plain (OpenSpec.upto natOrderSpec)) natOrderUptoCard

/-- THE SECOND FORM's CARD OF 'caliperlaw01.NatBits'. -/
def natBitsUptoCard : Claim7 := { stood := { row := natBitsUptoRow, standIns := [], harness := (true, "9ff7fcd344e32438be88bfdf9ea78492c2842dfcde4aee5f96431906debc9b8b"), looks := true }, kinds := [], alts := [], laidByText := true, laidKinds := [.data, .data, .data, .data, .sentinel, .sentinel, .pinned], laidTests := true, laidLooks := .later }
def NatBitsUptoCardSaid : Prop := Claim7.holds Tryd.pinned (.plain (OpenSpec.upto natBitsSpec)) natBitsUptoCard

/-- THE SECOND FORM's CARD OF 'caliperlaw01.NatOwn'. -/
def natOwnUptoCard : Claim7 := { stood := { row := natOwnUptoRow, standIns := [], harness := (true, "9ff7fcd344e32438be88bfdf9ea78492c2842dfcde4aee5f96431906debc9b8b"), looks := true }, kinds := [], alts := [], laidByText := true, laidKinds := [.data, .data, .data, .data, .sentinel, .sentinel, .pinned], laidTests := true, laidLooks := .later }
def NatOwnUptoCardSaid : Prop := Claim7.holds Tryd.pinned (.plain (OpenSpec.upto natOwnSpec)) natOwnUptoCard

/-- THE SECOND FORM's CARD OF 'caliperlaw01.NatTens'. -/
def natTensUptoCard : Claim7 := { stood := { row := natTensUptoRow, standIns := [], harness := (true, "9ff7fcd344e32438be88bfdf9ea78492c2842dfcde4aee5f96431906debc9b8b"), looks := true }, kinds := [], alts := [], laidByText := true, laidKinds := [.data, .data, .data, .data, .sentinel, .sentinel, .pinned], laidTests := true, laidLooks := .later }
def NatTensUptoCardSaid : Prop := Claim7.holds Tryd.pinned (.plain (OpenSpec.upto natTensSpec)) natTensUptoCard
end Rows
end Go.Proofs.YtdclphnakdmgjaaDoor
