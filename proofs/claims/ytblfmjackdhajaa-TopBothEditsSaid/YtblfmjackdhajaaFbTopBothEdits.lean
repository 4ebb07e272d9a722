/- What the program says of itself. No condition. -/
import Derived.Test.YtblfmjackdhajaaRows
import Derived.WalkKit
import Derived.ProofKit
import Derived.OpenShut
namespace Go.Proofs.Ytblfmjackdhajaa.TopBothEditsRow
open Go.ChangeShapes Go.WideShapes Go.ChangeAt Go.RowKit
set_option maxRecDepth 100000
theorem cf2 : (Rows.topBothEditsRow.recurses == Try.checked.prog.recurses 3) = true := by kernel_rfl
theorem cf3 : (Rows.topBothEditsRow.named == Try.checked.prog.varsNamed 3) = true := by kernel_rfl
end Go.Proofs.Ytblfmjackdhajaa.TopBothEditsRow
