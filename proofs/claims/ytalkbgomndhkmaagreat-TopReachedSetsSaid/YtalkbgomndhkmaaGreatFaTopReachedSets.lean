/- What the program says of itself. No condition. -/
import Derived.Test.YtalkbgomndhkmaaGreatRows
import Derived.WalkKit
import Derived.ProofKit
import Derived.OpenShut
namespace Go.Proofs.YtalkbgomndhkmaaGreat.TopReachedSetsRow
open Go.ChangeShapes Go.WideShapes Go.ChangeAt Go.RowKit
set_option maxRecDepth 100000
theorem cf0 : (Rows.topReachedSetsRow.inPlace == Tryz.checked.prog.inPlace 8) = true := by kernel_rfl
theorem cf1 : (Rows.topReachedSetsRow.unfollowed == Tryz.checked.prog.unfollowed 8) = true := by kernel_rfl
theorem cfb : (laidOutB Tryz.checked.prog) = true := by kernel_rfl
end Go.Proofs.YtalkbgomndhkmaaGreat.TopReachedSetsRow
