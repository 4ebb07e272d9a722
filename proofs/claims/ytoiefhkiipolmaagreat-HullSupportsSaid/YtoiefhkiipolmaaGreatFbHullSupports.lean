/- What the program says of itself. No condition. -/
import Derived.Test.YtoiefhkiipolmaaGreatRows
import Derived.WalkKit
import Derived.ProofKit
import Derived.OpenShut
namespace Go.Proofs.YtoiefhkiipolmaaGreat.HullSupportsRow
open Go.ChangeShapes Go.WideShapes Go.ChangeAt Go.RowKit
set_option maxRecDepth 100000
theorem cf2 : (Rows.hullSupportsRow.recurses == Tryz.checked.prog.recurses 4) = true := by kernel_rfl
theorem cf3 : (Rows.hullSupportsRow.named == Tryz.checked.prog.varsNamed 4) = true := by kernel_rfl
end Go.Proofs.YtoiefhkiipolmaaGreat.HullSupportsRow
