/- What the program says of itself. No condition. -/
import Derived.Test.YtalkbgomndhkmaaGreatRows
import Derived.WalkKit
import Derived.ProofKit
import Derived.OpenShut
namespace Go.Proofs.YtalkbgomndhkmaaGreat.PermitMaximalRow
open Go.ChangeShapes Go.WideShapes Go.ChangeAt Go.RowKit
set_option maxRecDepth 100000
theorem cf0 : (Rows.permitMaximalRow.inPlace == Tryz.checked.prog.inPlace 7) = true := by kernel_rfl
theorem cf1 : (Rows.permitMaximalRow.unfollowed == Tryz.checked.prog.unfollowed 7) = true := by kernel_rfl
theorem cfb : (laidOutB Tryz.checked.prog) = true := by kernel_rfl
end Go.Proofs.YtalkbgomndhkmaaGreat.PermitMaximalRow
