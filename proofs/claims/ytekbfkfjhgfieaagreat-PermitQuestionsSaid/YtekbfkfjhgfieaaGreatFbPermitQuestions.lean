/- What the program says of itself. No condition. -/
import Derived.Test.YtekbfkfjhgfieaaGreatRows
import Derived.WalkKit
import Derived.ProofKit
import Derived.OpenShut
namespace Go.Proofs.YtekbfkfjhgfieaaGreat.PermitQuestionsRow
open Go.ChangeShapes Go.WideShapes Go.ChangeAt Go.RowKit
set_option maxRecDepth 100000
theorem cf2 : (Rows.permitQuestionsRow.recurses == Tryz.checked.prog.recurses 12) = true := by kernel_rfl
theorem cf3 : (Rows.permitQuestionsRow.named == Tryz.checked.prog.varsNamed 12) = true := by kernel_rfl
end Go.Proofs.YtekbfkfjhgfieaaGreat.PermitQuestionsRow
