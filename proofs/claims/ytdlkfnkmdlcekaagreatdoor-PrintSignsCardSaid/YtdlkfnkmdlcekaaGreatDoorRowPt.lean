/- Rows over print: a start that meets the condition of PrintSigns, PrintApart. Conditions: none. -/
import Derived.Test.YtdlkfnkmdlcekaaGreatDoorFo26
namespace Go.Proofs.YtdlkfnkmdlcekaaGreatDoor
open Go.ChangeShapes Go.WideShapes Go.ChangeAt Go.RowKit Go.Cal
theorem start_metS (os : Os) (args : Array Value) : laidMetH Tryz.prog Rows.printSignsRow.laid ((startW os).forCall (fun _ _ => 0) ⟨#[], args, []⟩).memory :=
  laidMetH_of_parts3 (fuel := 8) (laidMet_of_run' 8 (by kernel_rfl) (by kernel_rfl)) (by kernel_rfl) (by kernel_rfl)
end Go.Proofs.YtdlkfnkmdlcekaaGreatDoor
