/- What the program says of itself. No condition. -/
import Derived.Test.YtblfmjackdhajaaRows
import Derived.WalkKit
import Derived.ProofKit
import Derived.OpenShut
namespace Go.Proofs.Ytblfmjackdhajaa.TopBothEditsRow
open Go.ChangeShapes Go.WideShapes Go.ChangeAt Go.RowKit
set_option maxRecDepth 100000
theorem cf4 : mapsRowed Try.checked.prog = true := by kernel_rfl
theorem cf5 : (Try.checked.prog.stops == []) = true := by kernel_rfl
theorem cf6 : (Try.checked.prog.stopKnobs == []) = true := by kernel_rfl
theorem cf7 : (Rows.topBothEditsRow.plainKeys == Try.checked.prog.plainKeys) = true := by kernel_rfl
theorem cf8 : (Try.checked.prog.stopsHeard) = true := by kernel_rfl
theorem cf9 : (Try.checked.prog.mayEnter) = true := by kernel_rfl
theorem cfa : (Rows.topBothEditsRow.lifted == Try.checked.prog.liftsFinal) = true := by kernel_rfl
end Go.Proofs.Ytblfmjackdhajaa.TopBothEditsRow
