/- Rows over the whole: a start that meets the condition of TopPosits. Conditions: none. -/
import Derived.Test.YtehpneojiinmdaaGreatDoorTu15
namespace Go.Proofs.YtehpneojiinmdaaGreatDoor
open Go.ChangeShapes Go.WideShapes Go.ChangeAt Go.RowKit Go.Cal
theorem start_metT (os : Os) (args : Array Value) : laidMetH Tryz.prog Rows.topPositsRow.laid ((startW os).forCall (fun _ _ => 0) ⟨#[], args, []⟩).memory :=
  laidMetH_of_parts3 (fuel := 8) (laidMet_of_run' 8 (by kernel_rfl) (by kernel_rfl)) (by kernel_rfl) (by kernel_rfl)
end Go.Proofs.YtehpneojiinmdaaGreatDoor
