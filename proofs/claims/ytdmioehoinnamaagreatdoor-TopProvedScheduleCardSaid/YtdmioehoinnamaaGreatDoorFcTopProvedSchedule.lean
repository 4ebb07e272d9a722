/- What the program says of itself. No condition. -/
import Derived.Test.YtdmioehoinnamaaGreatDoorRows
import Derived.WalkKit
import Derived.ProofKit
import Derived.OpenShut
namespace Go.Proofs.YtdmioehoinnamaaGreatDoor.TopProvedScheduleRow
open Go.ChangeShapes Go.WideShapes Go.ChangeAt Go.RowKit
set_option maxRecDepth 100000
theorem cf4 : mapsRowed Tryz.checked.prog = true := by kernel_rfl
theorem cf5 : (Tryz.checked.prog.stops == []) = true := by kernel_rfl
theorem cf6 : (Tryz.checked.prog.stopKnobs == []) = true := by kernel_rfl
theorem cf7 : (Rows.topProvedScheduleRow.plainKeys == Tryz.checked.prog.plainKeys) = true := by kernel_rfl
theorem cf8 : (Tryz.checked.prog.stopsHeard) = true := by kernel_rfl
theorem cf9 : (Tryz.checked.prog.mayEnter) = true := by kernel_rfl
theorem cfa : (Rows.topProvedScheduleRow.lifted == Tryz.checked.prog.liftsFinal) = true := by kernel_rfl
end Go.Proofs.YtdmioehoinnamaaGreatDoor.TopProvedScheduleRow
