/- What is read of the arguments; all functions. Printed by a program. No condition. -/
import Derived.Test.YtoiefhkiipolmaaGreatGProof5
import Derived.Test.YtoiefhkiipolmaaGreatKJoin
namespace Go.KB
open Go.Proofs
set_option maxRecDepth 100000
theorem op3 : Opens Tryz.prog 3 r_i64 (gI .i64) := Opens.int un3
theorem op157 : Opens Tryz.prog 157 jJb (gI .u16) := Opens.int jWx
theorem op28 : Opens Tryz.prog 28 (Rep.slice jJb) (gL (gI .u16)) := Opens.slice jVy (by kernel_rfl) (by decide) op157
theorem op4 : Opens Tryz.prog 4 Rep.bool (fun _ => True) := Opens.bool un4
theorem op30 : Opens Tryz.prog 30 jQn.rep jQn.ok := Opens.struct (l := [(4, 0), (28, 1)]) (by kernel_rfl) (by kernel_rfl) (.cons (by kernel_rfl) op4 (.cons (by kernel_rfl) op28 .nil))
theorem op32 : Opens Tryz.prog 32 jQv.rep jQv.ok := Opens.struct (l := [(30, 0), (30, 2)]) (by kernel_rfl) (by kernel_rfl) (.cons (by kernel_rfl) op30 (.cons (by kernel_rfl) op30 .nil))
theorem op34 : Opens Tryz.prog 34 GAttitude.rep GAttitude.ok := Opens.struct (l := [(32, 0), (32, 4)]) (by kernel_rfl) (by kernel_rfl) (.cons (by kernel_rfl) op32 (.cons (by kernel_rfl) op32 .nil))
theorem op9 : Opens Tryz.prog 9 Rep.str gS := Opens.str un9
theorem op24 : Opens Tryz.prog 24 jQ2.rep jQ2.ok := Opens.struct (l := [(9, 0), (3, 1), (3, 2), (3, 3), (3, 4)]) (by kernel_rfl) (by kernel_rfl) (.cons (by kernel_rfl) op9 (.cons (by kernel_rfl) op3 (.cons (by kernel_rfl) op3 (.cons (by kernel_rfl) op3 (.cons (by kernel_rfl) op3 .nil)))))
theorem op25 : Opens Tryz.prog 25 (Rep.slice jQ2.rep) (gL jQ2.ok) := Opens.slice jFk (by kernel_rfl) (by decide) op24
theorem op69 : Opens Tryz.prog 69 (Rep.slice r_i64) (gL (gI .i64)) := Opens.slice jG4 (by kernel_rfl) (by decide) op3
theorem op88 : Opens Tryz.prog 88 jJu.rep jJu.ok := Opens.struct (l := [(3, 0), (3, 1), (69, 2), (69, 3)]) (by kernel_rfl) (by kernel_rfl) (.cons (by kernel_rfl) op3 (.cons (by kernel_rfl) op3 (.cons (by kernel_rfl) op69 (.cons (by kernel_rfl) op69 .nil))))
theorem op22 : Opens Tryz.prog 22 (Rep.slice jJu.rep) (gL jJu.ok) := Opens.slice jNs (by kernel_rfl) (by decide) op88
theorem op27 : Opens Tryz.prog 27 GShip.rep GShip.ok := Opens.struct (l := [(9, 0), (3, 1), (22, 2), (24, 3), (25, 8)]) (by kernel_rfl) (by kernel_rfl) (.cons (by kernel_rfl) op9 (.cons (by kernel_rfl) op3 (.cons (by kernel_rfl) op22 (.cons (by kernel_rfl) op24 (.cons (by kernel_rfl) op25 .nil)))))
end Go.KB
