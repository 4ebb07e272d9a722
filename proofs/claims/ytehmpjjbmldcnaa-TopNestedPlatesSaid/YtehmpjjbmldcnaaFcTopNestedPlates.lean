/- What the program says of itself. No condition. -/
import Derived.Test.YtehmpjjbmldcnaaRows
import Derived.WalkKit
import Derived.ProofKit
import Derived.OpenShut
namespace Go.Proofs.Ytehmpjjbmldcnaa.TopNestedPlatesRow
open Go.ChangeShapes Go.WideShapes Go.ChangeAt Go.RowKit
set_option maxRecDepth 100000
theorem cf4 : mapsRowed Try.checked.prog = true := by kernel_rfl
theorem cf5 : (Try.checked.prog.stops == []) = true := by kernel_rfl
theorem cf6 : (Try.checked.prog.stopKnobs == []) = true := by kernel_rfl
theorem cf7 : (Rows.topNestedPlatesRow.plainKeys == Try.checked.prog.plainKeys) = true := by kernel_rfl
theorem cf8 : (Try.checked.prog.stopsHeard) = true := by kernel_rfl
theorem cf9 : (Try.checked.prog.mayEnter) = true := by kernel_rfl
theorem cfa : (Rows.topNestedPlatesRow.lifted == Try.checked.prog.liftsFinal) = true := by kernel_rfl
end Go.Proofs.Ytehmpjjbmldcnaa.TopNestedPlatesRow
