/- What the program says of itself. No condition. -/
import Derived.Test.YtblfmjackdhajaaRows
import Derived.WalkKit
import Derived.ProofKit
import Derived.OpenShut
namespace Go.Proofs.Ytblfmjackdhajaa.TopBothEditsRow
open Go.ChangeShapes Go.WideShapes Go.ChangeAt Go.RowKit
set_option maxRecDepth 100000
theorem cf0 : (Rows.topBothEditsRow.inPlace == Try.checked.prog.inPlace 3) = true := by kernel_rfl
theorem cf1 : (Rows.topBothEditsRow.unfollowed == Try.checked.prog.unfollowed 3) = true := by kernel_rfl
theorem cfb : (laidOutB Try.checked.prog) = true := by kernel_rfl
end Go.Proofs.Ytblfmjackdhajaa.TopBothEditsRow
