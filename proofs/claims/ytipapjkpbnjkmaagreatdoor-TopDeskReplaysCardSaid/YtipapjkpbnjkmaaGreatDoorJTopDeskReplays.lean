/- What is read of the arguments; all functions. Printed by a program. No condition. -/
import Derived.Test.YtipapjkpbnjkmaaGreatDoorGProof4
import Derived.Test.YtipapjkpbnjkmaaGreatDoorKJoin
namespace Go.KB
open Go.Proofs
set_option maxRecDepth 100000
theorem op9 : Opens Tryz.prog 9 Rep.str gS := Opens.str un9
theorem op22 : Opens Tryz.prog 22 (Rep.slice Rep.str) (gL gS) := Opens.slice jFc (by kernel_rfl) (by decide) op9
end Go.KB
