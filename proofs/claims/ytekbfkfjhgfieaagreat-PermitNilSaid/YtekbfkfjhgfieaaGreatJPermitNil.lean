/- What is read of the arguments; all functions. Printed by a program. No condition. -/
import Derived.Test.YtekbfkfjhgfieaaGreatGProof3
import Derived.Test.YtekbfkfjhgfieaaGreatKJoin
namespace Go.KB
open Go.Proofs
set_option maxRecDepth 100000
theorem op9 : Opens Tryz.prog 9 Rep.str gS := Opens.str un9
theorem op3 : Opens Tryz.prog 3 r_i64 (gI .i64) := Opens.int un3
theorem op45 : Opens Tryz.prog 45 GEvent.rep GEvent.ok := Opens.struct (l := [(3, 0), (3, 1), (9, 2), (9, 3), (9, 4), (3, 5), (3, 6), (3, 7)]) (by kernel_rfl) (by kernel_rfl) (.cons (by kernel_rfl) op3 (.cons (by kernel_rfl) op3 (.cons (by kernel_rfl) op9 (.cons (by kernel_rfl) op9 (.cons (by kernel_rfl) op9 (.cons (by kernel_rfl) op3 (.cons (by kernel_rfl) op3 (.cons (by kernel_rfl) op3 .nil))))))))
end Go.KB
