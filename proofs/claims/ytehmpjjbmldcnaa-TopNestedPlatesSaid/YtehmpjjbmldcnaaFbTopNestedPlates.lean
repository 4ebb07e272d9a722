/- What the program says of itself. No condition. -/
import Derived.Test.YtehmpjjbmldcnaaRows
import Derived.WalkKit
import Derived.ProofKit
import Derived.OpenShut
namespace Go.Proofs.Ytehmpjjbmldcnaa.TopNestedPlatesRow
open Go.ChangeShapes Go.WideShapes Go.ChangeAt Go.RowKit
set_option maxRecDepth 100000
theorem cf2 : (Rows.topNestedPlatesRow.recurses == Try.checked.prog.recurses 3) = true := by kernel_rfl
theorem cf3 : (Rows.topNestedPlatesRow.named == Try.checked.prog.varsNamed 3) = true := by kernel_rfl
end Go.Proofs.Ytehmpjjbmldcnaa.TopNestedPlatesRow
