/- What the program says of itself. No condition. -/
import Derived.Test.YtmkofmfndcoflaaRows
import Derived.WalkKit
import Derived.ProofKit
import Derived.OpenShut
namespace Go.Proofs.Ytmkofmfndcoflaa.SurveyCoversRow
open Go.ChangeShapes Go.WideShapes Go.ChangeAt Go.RowKit
set_option maxRecDepth 100000
theorem cf2 : (Rows.surveyCoversRow.recurses == Try.checked.prog.recurses 5) = true := by kernel_rfl
theorem cf3 : (Rows.surveyCoversRow.named == Try.checked.prog.varsNamed 5) = true := by kernel_rfl
end Go.Proofs.Ytmkofmfndcoflaa.SurveyCoversRow
