/- Rows over print: a start that meets the condition of PrintTells, PrintFulls. Conditions: none. -/
import Derived.Test.YtncfbleeidjflaaGreatDoorPz20
import Derived.Test.YtncfbleeidjflaaGreatDoorPz23
namespace Go.Proofs.YtncfbleeidjflaaGreatDoor
open Go.ChangeShapes Go.WideShapes Go.ChangeAt Go.RowKit Go.Cal
theorem start_metS (os : Os) (args : Array Value) : laidMetH Tryz.prog Rows.printTellsRow.laid ((startW os).forCall (fun _ _ => 0) ⟨#[], args, []⟩).memory :=
  laidMetH_of_parts3 (fuel := 8) (laidMet_of_bits 8 512 (by kernel_rfl) (by kernel_rfl)) (by kernel_rfl) (by kernel_rfl)
end Go.Proofs.YtncfbleeidjflaaGreatDoor
