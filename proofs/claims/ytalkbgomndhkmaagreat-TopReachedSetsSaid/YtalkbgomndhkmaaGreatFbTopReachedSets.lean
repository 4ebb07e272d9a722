/- What the program says of itself. No condition. -/
import Derived.Test.YtalkbgomndhkmaaGreatRows
import Derived.WalkKit
import Derived.ProofKit
import Derived.OpenShut
namespace Go.Proofs.YtalkbgomndhkmaaGreat.TopReachedSetsRow
open Go.ChangeShapes Go.WideShapes Go.ChangeAt Go.RowKit
set_option maxRecDepth 100000
theorem cf2 : (Rows.topReachedSetsRow.recurses == Tryz.checked.prog.recurses 8) = true := by kernel_rfl
theorem cf3 : (Rows.topReachedSetsRow.named == Tryz.checked.prog.varsNamed 8) = true := by kernel_rfl
end Go.Proofs.YtalkbgomndhkmaaGreat.TopReachedSetsRow
