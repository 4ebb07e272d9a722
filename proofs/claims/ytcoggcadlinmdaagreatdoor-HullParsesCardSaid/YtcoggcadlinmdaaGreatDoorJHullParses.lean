/- What is read of the arguments; all functions. Printed by a program. No condition. -/
import Derived.Test.YtcoggcadlinmdaaGreatDoorGProof4
import Derived.Test.YtcoggcadlinmdaaGreatDoorKJoin
namespace Go.KB
open Go.Proofs
set_option maxRecDepth 100000
theorem op9 : Opens Tryz.prog 9 Rep.str gS := Opens.str un9
end Go.KB
