/- What the program says of itself. No condition. -/
import Derived.Test.YtdmioehoinnamaaGreatDoorRows
import Derived.WalkKit
import Derived.ProofKit
import Derived.OpenShut
namespace Go.Proofs.YtdmioehoinnamaaGreatDoor.TopProvedScheduleRow
open Go.ChangeShapes Go.WideShapes Go.ChangeAt Go.RowKit
set_option maxRecDepth 100000
theorem cf0 : (Rows.topProvedScheduleRow.inPlace == Tryz.checked.prog.inPlace 3) = true := by kernel_rfl
theorem cf1 : (Rows.topProvedScheduleRow.unfollowed == Tryz.checked.prog.unfollowed 3) = true := by kernel_rfl
theorem cfb : (laidOutB Tryz.checked.prog) = true := by kernel_rfl
end Go.Proofs.YtdmioehoinnamaaGreatDoor.TopProvedScheduleRow
