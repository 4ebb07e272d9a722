/- What the program says of itself. No condition. -/
import Derived.Test.YtmkofmfndcoflaaRows
import Derived.WalkKit
import Derived.ProofKit
import Derived.OpenShut
namespace Go.Proofs.Ytmkofmfndcoflaa.SurveyRenewalsRow
open Go.ChangeShapes Go.WideShapes Go.ChangeAt Go.RowKit
set_option maxRecDepth 100000
theorem cf2 : (Rows.surveyRenewalsRow.recurses == Try.checked.prog.recurses 4) = true := by kernel_rfl
theorem cf3 : (Rows.surveyRenewalsRow.named == Try.checked.prog.varsNamed 4) = true := by kernel_rfl
end Go.Proofs.Ytmkofmfndcoflaa.SurveyRenewalsRow
