/- What the program says of itself. No condition. -/
import Derived.Test.YtmhjgjflmemjmaaRows
import Derived.WalkKit
import Derived.ProofKit
import Derived.OpenShut
namespace Go.Proofs.Ytmhjgjflmemjmaa.SurveyCutsRow
open Go.ChangeShapes Go.WideShapes Go.ChangeAt Go.RowKit
set_option maxRecDepth 100000
theorem cf0 : (Rows.surveyCutsRow.inPlace == Try.checked.prog.inPlace 3) = true := by kernel_rfl
theorem cf1 : (Rows.surveyCutsRow.unfollowed == Try.checked.prog.unfollowed 3) = true := by kernel_rfl
theorem cfb : (laidOutB Try.checked.prog) = true := by kernel_rfl
end Go.Proofs.Ytmhjgjflmemjmaa.SurveyCutsRow
