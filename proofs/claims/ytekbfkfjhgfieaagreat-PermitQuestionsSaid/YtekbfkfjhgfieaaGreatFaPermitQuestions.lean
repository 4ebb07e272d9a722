/- What the program says of itself. No condition. -/
import Derived.Test.YtekbfkfjhgfieaaGreatRows
import Derived.WalkKit
import Derived.ProofKit
import Derived.OpenShut
namespace Go.Proofs.YtekbfkfjhgfieaaGreat.PermitQuestionsRow
open Go.ChangeShapes Go.WideShapes Go.ChangeAt Go.RowKit
set_option maxRecDepth 100000
theorem cf0 : (Rows.permitQuestionsRow.inPlace == Tryz.checked.prog.inPlace 12) = true := by kernel_rfl
theorem cf1 : (Rows.permitQuestionsRow.unfollowed == Tryz.checked.prog.unfollowed 12) = true := by kernel_rfl
theorem cfb : (laidOutB Tryz.checked.prog) = true := by kernel_rfl
end Go.Proofs.YtekbfkfjhgfieaaGreat.PermitQuestionsRow
