/- What the program says of itself. No condition. -/
import Derived.Test.YtalkbgomndhkmaaGreatRows
import Derived.WalkKit
import Derived.ProofKit
import Derived.OpenShut
namespace Go.Proofs.YtalkbgomndhkmaaGreat.PermitMaximalRow
open Go.ChangeShapes Go.WideShapes Go.ChangeAt Go.RowKit
set_option maxRecDepth 100000
theorem cf2 : (Rows.permitMaximalRow.recurses == Tryz.checked.prog.recurses 7) = true := by kernel_rfl
theorem cf3 : (Rows.permitMaximalRow.named == Tryz.checked.prog.varsNamed 7) = true := by kernel_rfl
end Go.Proofs.YtalkbgomndhkmaaGreat.PermitMaximalRow
