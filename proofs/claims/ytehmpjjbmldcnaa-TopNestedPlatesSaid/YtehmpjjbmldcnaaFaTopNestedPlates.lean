/- What the program says of itself. No condition. -/
import Derived.Test.YtehmpjjbmldcnaaRows
import Derived.WalkKit
import Derived.ProofKit
import Derived.OpenShut
namespace Go.Proofs.Ytehmpjjbmldcnaa.TopNestedPlatesRow
open Go.ChangeShapes Go.WideShapes Go.ChangeAt Go.RowKit
set_option maxRecDepth 100000
theorem cf0 : (Rows.topNestedPlatesRow.inPlace == Try.checked.prog.inPlace 3) = true := by kernel_rfl
theorem cf1 : (Rows.topNestedPlatesRow.unfollowed == Try.checked.prog.unfollowed 3) = true := by kernel_rfl
theorem cfb : (laidOutB Try.checked.prog) = true := by kernel_rfl
end Go.Proofs.Ytehmpjjbmldcnaa.TopNestedPlatesRow
