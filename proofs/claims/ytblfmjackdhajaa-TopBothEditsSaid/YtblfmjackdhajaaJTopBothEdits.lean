/- What is read of the arguments; all functions. Printed by a program. No condition. -/
import Derived.Test.YtblfmjackdhajaaGProof3
import Derived.Test.YtblfmjackdhajaaKJoin
namespace Go.KB
open Go.Proofs
set_option maxRecDepth 100000
theorem op9 : Opens Try.prog 9 Rep.str gS := Opens.str un9
theorem op41 : Opens Try.prog 41 GSetting.rep GSetting.ok := Opens.struct (l := [(9, 0), (9, 1)]) (by kernel_rfl) (by kernel_rfl) (.cons (by kernel_rfl) op9 (.cons (by kernel_rfl) op9 .nil))
theorem op22 : Opens Try.prog 22 (Rep.slice GSetting.rep) (gL GSetting.ok) := Opens.slice jB6 (by kernel_rfl) (by decide) op41
end Go.KB
