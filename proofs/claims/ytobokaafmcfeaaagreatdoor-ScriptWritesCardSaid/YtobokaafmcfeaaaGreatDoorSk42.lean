/- Rows over a script: closed facts of the program, each by itself (the kernel's memory). Conditions: none. -/
import Derived.Test.YtobokaafmcfeaaaGreatDoorSk21
namespace Go.Proofs.YtobokaafmcfeaaaGreatDoor
open Go.ChangeShapes Go.WideShapes Go.ChangeAt Go.RowKit Go.Cal
theorem prg_laidOut : laidOutB Tryz.pinned.checked.prog = true := by kernel_rfl
theorem prg_mapsRowed : mapsRowed Tryz.pinned.checked.prog = true := by kernel_rfl
theorem prg_stops : (Tryz.pinned.checked.prog.stops == []) = true := by kernel_rfl
theorem prg_knobs : (Tryz.pinned.checked.prog.stopKnobs == []) = true := by kernel_rfl
theorem prg_keys : (Rows.scriptLongRow.plainKeys == Tryz.pinned.checked.prog.plainKeys) = true := by kernel_rfl
theorem prg_heard : Tryz.pinned.checked.prog.stopsHeard = true := by kernel_rfl
theorem prg_enter : Tryz.pinned.checked.prog.mayEnter = true := by kernel_rfl
theorem prg_lifted : (Rows.scriptLongRow.lifted == Tryz.pinned.checked.prog.liftsFinal) = true := by kernel_rfl
theorem prg_make : (Tryz.pinned.checked.prog.make == some Rows.scriptLongRow.make) = true := by kernel_rfl
theorem prg_pinned : (Rows.scriptLongRow.pinned == Rows.scriptLongRow.pinnedBy) = true := by kernel_rfl
end Go.Proofs.YtobokaafmcfeaaaGreatDoor
