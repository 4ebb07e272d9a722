/- What is read of the arguments; all functions. Printed by a program. No condition. -/
import Derived.Test.YtbedbjphickpaaaGreatGProof5
import Derived.Test.YtbedbjphickpaaaGreatKJoin
namespace Go.KB
open Go.Proofs
set_option maxRecDepth 100000
theorem op3 : Opens Tryz.prog 3 r_i64 (gI .i64) := Opens.int un3
theorem op106 : Opens Tryz.prog 106 GShift.rep GShift.ok := Opens.struct (l := [(3, 0), (3, 1), (3, 2)]) (by kernel_rfl) (by kernel_rfl) (.cons (by kernel_rfl) op3 (.cons (by kernel_rfl) op3 (.cons (by kernel_rfl) op3 .nil)))
theorem op100 : Opens Tryz.prog 100 (Rep.slice GShift.rep) (gL GShift.ok) := Opens.slice un100 (by kernel_rfl) (by decide) op106
theorem op191 : Opens Tryz.prog 191 r_u16 (gI .u16) := Opens.int un191
theorem op28 : Opens Tryz.prog 28 (Rep.slice r_u16) (gL (gI .u16)) := Opens.slice un28 (by kernel_rfl) (by decide) op191
theorem op4 : Opens Tryz.prog 4 Rep.bool (fun _ => True) := Opens.bool un4
theorem op30 : Opens Tryz.prog 30 GInt.rep GInt.ok := Opens.struct (l := [(4, 0), (28, 1)]) (by kernel_rfl) (by kernel_rfl) (.cons (by kernel_rfl) op4 (.cons (by kernel_rfl) op28 .nil))
theorem op32 : Opens Tryz.prog 32 GRat.rep GRat.ok := Opens.struct (l := [(30, 0), (30, 2)]) (by kernel_rfl) (by kernel_rfl) (.cons (by kernel_rfl) op30 (.cons (by kernel_rfl) op30 .nil))
theorem op34 : Opens Tryz.prog 34 GAttitude.rep GAttitude.ok := Opens.struct (l := [(32, 0), (32, 4)]) (by kernel_rfl) (by kernel_rfl) (.cons (by kernel_rfl) op32 (.cons (by kernel_rfl) op32 .nil))
theorem op9 : Opens Tryz.prog 9 Rep.str gS := Opens.str un9
theorem op24 : Opens Tryz.prog 24 GLoad.rep GLoad.ok := Opens.struct (l := [(9, 0), (3, 1), (3, 2), (3, 3), (3, 4)]) (by kernel_rfl) (by kernel_rfl) (.cons (by kernel_rfl) op9 (.cons (by kernel_rfl) op3 (.cons (by kernel_rfl) op3 (.cons (by kernel_rfl) op3 (.cons (by kernel_rfl) op3 .nil)))))
theorem op25 : Opens Tryz.prog 25 (Rep.slice GLoad.rep) (gL GLoad.ok) := Opens.slice un25 (by kernel_rfl) (by decide) op24
theorem op73 : Opens Tryz.prog 73 (Rep.slice r_i64) (gL (gI .i64)) := Opens.slice un73 (by kernel_rfl) (by decide) op3
theorem op75 : Opens Tryz.prog 75 GStation.rep GStation.ok := Opens.struct (l := [(3, 0), (3, 1), (73, 2), (73, 3)]) (by kernel_rfl) (by kernel_rfl) (.cons (by kernel_rfl) op3 (.cons (by kernel_rfl) op3 (.cons (by kernel_rfl) op73 (.cons (by kernel_rfl) op73 .nil))))
theorem op22 : Opens Tryz.prog 22 (Rep.slice GStation.rep) (gL GStation.ok) := Opens.slice un22 (by kernel_rfl) (by decide) op75
theorem op27 : Opens Tryz.prog 27 GShip.rep GShip.ok := Opens.struct (l := [(9, 0), (3, 1), (22, 2), (24, 3), (25, 8)]) (by kernel_rfl) (by kernel_rfl) (.cons (by kernel_rfl) op9 (.cons (by kernel_rfl) op3 (.cons (by kernel_rfl) op22 (.cons (by kernel_rfl) op24 (.cons (by kernel_rfl) op25 .nil)))))
theorem op102 : Opens Tryz.prog 102 GIncline.rep GIncline.ok := Opens.struct (l := [(27, 0), (34, 9), (3, 17), (3, 18), (100, 19)]) (by kernel_rfl) (by kernel_rfl) (.cons (by kernel_rfl) op27 (.cons (by kernel_rfl) op34 (.cons (by kernel_rfl) op3 (.cons (by kernel_rfl) op3 (.cons (by kernel_rfl) op100 .nil)))))
end Go.KB
