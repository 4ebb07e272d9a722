/- What the program says of itself. No condition. -/
import Derived.Test.YtdmioehoinnamaaGreatDoorRows
import Derived.WalkKit
import Derived.ProofKit
import Derived.OpenShut
namespace Go.Proofs.YtdmioehoinnamaaGreatDoor.TopProvedScheduleRow
open Go.ChangeShapes Go.WideShapes Go.ChangeAt Go.RowKit
set_option maxRecDepth 100000
theorem cf2 : (Rows.topProvedScheduleRow.recurses == Tryz.checked.prog.recurses 3) = true := by kernel_rfl
theorem cf3 : (Rows.topProvedScheduleRow.named == Tryz.checked.prog.varsNamed 3) = true := by kernel_rfl
end Go.Proofs.YtdmioehoinnamaaGreatDoor.TopProvedScheduleRow
