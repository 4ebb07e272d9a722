/- What is read of the arguments; all functions. Printed by a program. No condition. -/
import Derived.Test.YtbedbjphickpaaaGreatGProof4
import Derived.Test.YtbedbjphickpaaaGreatKJoin
namespace Go.KB
open Go.Proofs
set_option maxRecDepth 100000
theorem op3 : Opens Tryz.prog 3 r_i64 (gI .i64) := Opens.int un3
theorem op89 : Opens Tryz.prog 89 (Rep.arr r_i64 3) (gA 3 (gI .i64)) := Opens.arr un89 (by kernel_rfl) (by kernel_rfl) op3
theorem op91 : Opens Tryz.prog 91 GMarks.rep GMarks.ok := Opens.struct (l := [(89, 0), (89, 3), (89, 6)]) (by kernel_rfl) (by kernel_rfl) (.cons (by kernel_rfl) op89 (.cons (by kernel_rfl) op89 (.cons (by kernel_rfl) op89 .nil)))
end Go.KB
