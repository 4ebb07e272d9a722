/- What the program says of itself. No condition. -/
import Derived.Test.YtkflmfhgpjpepaaGreatDoorRows
import Derived.WalkKit
import Derived.ProofKit
import Derived.OpenShut
namespace Go.Proofs.YtkflmfhgpjpepaaGreatDoor.TopCrashedBookRow
open Go.ChangeShapes Go.WideShapes Go.ChangeAt Go.RowKit
set_option maxRecDepth 100000
theorem cf0 : (Rows.topCrashedBookRow.inPlace == Tryz.checked.prog.inPlace 3) = true := by kernel_rfl
theorem cf1 : (Rows.topCrashedBookRow.unfollowed == Tryz.checked.prog.unfollowed 3) = true := by kernel_rfl
theorem cfb : (laidOutB Tryz.checked.prog) = true := by kernel_rfl
end Go.Proofs.YtkflmfhgpjpepaaGreatDoor.TopCrashedBookRow
