/- What the program says of itself. No condition. -/
import Derived.Test.YtoiefhkiipolmaaGreatRows
import Derived.WalkKit
import Derived.ProofKit
import Derived.OpenShut
namespace Go.Proofs.YtoiefhkiipolmaaGreat.HullSupportsRow
open Go.ChangeShapes Go.WideShapes Go.ChangeAt Go.RowKit
set_option maxRecDepth 100000
theorem cf0 : (Rows.hullSupportsRow.inPlace == Tryz.checked.prog.inPlace 4) = true := by kernel_rfl
theorem cf1 : (Rows.hullSupportsRow.unfollowed == Tryz.checked.prog.unfollowed 4) = true := by kernel_rfl
theorem cfb : (laidOutB Tryz.checked.prog) = true := by kernel_rfl
end Go.Proofs.YtoiefhkiipolmaaGreat.HullSupportsRow
