/- Rows over the values: the start meets the condition of ParseTells. Conditions: none. -/
import Derived.Test.YtncfbleeidjflaaGreatDoorSu20
namespace Go.Proofs.YtncfbleeidjflaaGreatDoor
open Go.ChangeShapes Go.WideShapes Go.ChangeAt Go.RowKit Go.Cal
theorem start_met (os : Os) (args : Array Value) : laidMetH Tryz.prog Rows.parseTellsRow.laid ((startW os).forCall (fun _ _ => 0) ⟨#[], args, []⟩).memory :=
  laidMetH_of_parts3 (fuel := 8) (laidMet_of_bits 8 512 (by kernel_rfl) (by kernel_rfl)) (by kernel_rfl) (by kernel_rfl)
end Go.Proofs.YtncfbleeidjflaaGreatDoor
