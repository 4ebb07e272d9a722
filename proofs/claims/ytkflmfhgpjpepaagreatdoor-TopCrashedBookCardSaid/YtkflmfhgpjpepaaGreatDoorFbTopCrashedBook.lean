/- What the program says of itself. No condition. -/
import Derived.Test.YtkflmfhgpjpepaaGreatDoorRows
import Derived.WalkKit
import Derived.ProofKit
import Derived.OpenShut
namespace Go.Proofs.YtkflmfhgpjpepaaGreatDoor.TopCrashedBookRow
open Go.ChangeShapes Go.WideShapes Go.ChangeAt Go.RowKit
set_option maxRecDepth 100000
theorem cf2 : (Rows.topCrashedBookRow.recurses == Tryz.checked.prog.recurses 3) = true := by kernel_rfl
theorem cf3 : (Rows.topCrashedBookRow.named == Tryz.checked.prog.varsNamed 3) = true := by kernel_rfl
end Go.Proofs.YtkflmfhgpjpepaaGreatDoor.TopCrashedBookRow
