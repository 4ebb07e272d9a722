/- What the program says of itself. No condition. -/
import Derived.Test.YtalkbgomndhkmaaGreatRows
import Derived.WalkKit
import Derived.ProofKit
import Derived.OpenShut
namespace Go.Proofs.YtalkbgomndhkmaaGreat.PermitSetsRow
open Go.ChangeShapes Go.WideShapes Go.ChangeAt Go.RowKit
set_option maxRecDepth 100000
theorem cf2 : (Rows.permitSetsRow.recurses == Tryz.checked.prog.recurses 5) = true := by kernel_rfl
theorem cf3 : (Rows.permitSetsRow.named == Tryz.checked.prog.varsNamed 5) = true := by kernel_rfl
end Go.Proofs.YtalkbgomndhkmaaGreat.PermitSetsRow
