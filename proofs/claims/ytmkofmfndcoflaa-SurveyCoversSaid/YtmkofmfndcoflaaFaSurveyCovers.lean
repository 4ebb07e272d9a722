/- What the program says of itself. No condition. -/
import Derived.Test.YtmkofmfndcoflaaRows
import Derived.WalkKit
import Derived.ProofKit
import Derived.OpenShut
namespace Go.Proofs.Ytmkofmfndcoflaa.SurveyCoversRow
open Go.ChangeShapes Go.WideShapes Go.ChangeAt Go.RowKit
set_option maxRecDepth 100000
theorem cf0 : (Rows.surveyCoversRow.inPlace == Try.checked.prog.inPlace 5) = true := by kernel_rfl
theorem cf1 : (Rows.surveyCoversRow.unfollowed == Try.checked.prog.unfollowed 5) = true := by kernel_rfl
theorem cfb : (laidOutB Try.checked.prog) = true := by kernel_rfl
end Go.Proofs.Ytmkofmfndcoflaa.SurveyCoversRow
