/- What is read of the arguments; all functions. Printed by a program. No condition. -/
import Derived.Test.YtibkeigeifabmaaGreatDoorGProof5
import Derived.Test.YtibkeigeifabmaaGreatDoorKJoin
namespace Go.KB
open Go.Proofs
set_option maxRecDepth 100000
theorem op3 : Opens Tryz.prog 3 jJl (gI .i64) := Opens.int un3
theorem op9 : Opens Tryz.prog 9 Rep.str gS := Opens.str un9
theorem op24 : Opens Tryz.prog 24 jJc.rep jJc.ok := Opens.struct (l := [(9, 0), (3, 1), (3, 2), (3, 3), (3, 4)]) (by kernel_rfl) (by kernel_rfl) (.cons (by kernel_rfl) op9 (.cons (by kernel_rfl) op3 (.cons (by kernel_rfl) op3 (.cons (by kernel_rfl) op3 (.cons (by kernel_rfl) op3 .nil)))))
theorem op25 : Opens Tryz.prog 25 (Rep.slice jJc.rep) (gL jJc.ok) := Opens.slice jHg (by kernel_rfl) (by decide) op24
theorem op63 : Opens Tryz.prog 63 (Rep.slice jJl) (gL (gI .i64)) := Opens.slice jW4 (by kernel_rfl) (by decide) op3
theorem op65 : Opens Tryz.prog 65 jJv.rep jJv.ok := Opens.struct (l := [(3, 0), (3, 1), (63, 2), (63, 3)]) (by kernel_rfl) (by kernel_rfl) (.cons (by kernel_rfl) op3 (.cons (by kernel_rfl) op3 (.cons (by kernel_rfl) op63 (.cons (by kernel_rfl) op63 .nil))))
theorem op22 : Opens Tryz.prog 22 (Rep.slice jJv.rep) (gL jJv.ok) := Opens.slice jLx (by kernel_rfl) (by decide) op65
theorem op27 : Opens Tryz.prog 27 GShip.rep GShip.ok := Opens.struct (l := [(9, 0), (3, 1), (22, 2), (24, 3), (25, 8)]) (by kernel_rfl) (by kernel_rfl) (.cons (by kernel_rfl) op9 (.cons (by kernel_rfl) op3 (.cons (by kernel_rfl) op22 (.cons (by kernel_rfl) op24 (.cons (by kernel_rfl) op25 .nil)))))
end Go.KB
