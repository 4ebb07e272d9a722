/- What is read of the arguments; all functions. Printed by a program. No condition. -/
import Derived.Test.YtbedbjphickpaaaGreatGProof3
import Derived.Test.YtbedbjphickpaaaGreatKJoin
namespace Go.KB
open Go.Proofs
set_option maxRecDepth 100000
theorem op3 : Opens Tryz.prog 3 r_i64 (gI .i64) := Opens.int un3
theorem op9 : Opens Tryz.prog 9 Rep.str gS := Opens.str un9
theorem op24 : Opens Tryz.prog 24 GLoad.rep GLoad.ok := Opens.struct (l := [(9, 0), (3, 1), (3, 2), (3, 3), (3, 4)]) (by kernel_rfl) (by kernel_rfl) (.cons (by kernel_rfl) op9 (.cons (by kernel_rfl) op3 (.cons (by kernel_rfl) op3 (.cons (by kernel_rfl) op3 (.cons (by kernel_rfl) op3 .nil)))))
theorem op25 : Opens Tryz.prog 25 (Rep.slice GLoad.rep) (gL GLoad.ok) := Opens.slice un25 (by kernel_rfl) (by decide) op24
theorem op73 : Opens Tryz.prog 73 (Rep.slice r_i64) (gL (gI .i64)) := Opens.slice un73 (by kernel_rfl) (by decide) op3
theorem op75 : Opens Tryz.prog 75 GStation.rep GStation.ok := Opens.struct (l := [(3, 0), (3, 1), (73, 2), (73, 3)]) (by kernel_rfl) (by kernel_rfl) (.cons (by kernel_rfl) op3 (.cons (by kernel_rfl) op3 (.cons (by kernel_rfl) op73 (.cons (by kernel_rfl) op73 .nil))))
theorem op22 : Opens Tryz.prog 22 (Rep.slice GStation.rep) (gL GStation.ok) := Opens.slice un22 (by kernel_rfl) (by decide) op75
theorem op27 : Opens Tryz.prog 27 GShip.rep GShip.ok := Opens.struct (l := [(9, 0), (3, 1), (22, 2), (24, 3), (25, 8)]) (by kernel_rfl) (by kernel_rfl) (.cons (by kernel_rfl) op9 (.cons (by kernel_rfl) op3 (.cons (by kernel_rfl) op22 (.cons (by kernel_rfl) op24 (.cons (by kernel_rfl) op25 .nil)))))
theorem op146 : Opens Tryz.prog 146 Glaw02_Moving.rep Glaw02_Moving.ok := Opens.struct (l := [(27, 0), (24, 9), (3, 14), (3, 15)]) (by kernel_rfl) (by kernel_rfl) (.cons (by kernel_rfl) op27 (.cons (by kernel_rfl) op24 (.cons (by kernel_rfl) op3 (.cons (by kernel_rfl) op3 .nil))))
end Go.KB
