/- What is read of the arguments; all functions. Printed by a program. No condition. -/
import Derived.Test.YthoopaegiclfaaaGreatGme
import Derived.Test.YthoopaegiclfaaaGreatKJoin
namespace Go.KB
open Go.Proofs
set_option maxRecDepth 100000
theorem op3 : Opens Tryz.prog 3 jQf (gI .i64) := Opens.int un3
theorem op9 : Opens Tryz.prog 9 Rep.str gS := Opens.str un9
theorem op24 : Opens Tryz.prog 24 GLoad.rep GLoad.ok := Opens.struct (l := [(9, 0), (3, 1), (3, 2), (3, 3), (3, 4)]) (by kernel_rfl) (by kernel_rfl) (.cons (by kernel_rfl) op9 (.cons (by kernel_rfl) op3 (.cons (by kernel_rfl) op3 (.cons (by kernel_rfl) op3 (.cons (by kernel_rfl) op3 .nil)))))
theorem op25 : Opens Tryz.prog 25 (Rep.slice GLoad.rep) (gL GLoad.ok) := Opens.slice jGa (by kernel_rfl) (by decide) op24
theorem op40 : Opens Tryz.prog 40 (Rep.slice jQf) (gL (gI .i64)) := Opens.slice jBj (by kernel_rfl) (by decide) op3
theorem op42 : Opens Tryz.prog 42 jJy.rep jJy.ok := Opens.struct (l := [(3, 0), (3, 1), (40, 2), (40, 3)]) (by kernel_rfl) (by kernel_rfl) (.cons (by kernel_rfl) op3 (.cons (by kernel_rfl) op3 (.cons (by kernel_rfl) op40 (.cons (by kernel_rfl) op40 .nil))))
theorem op22 : Opens Tryz.prog 22 (Rep.slice jJy.rep) (gL jJy.ok) := Opens.slice jDj (by kernel_rfl) (by decide) op42
theorem op27 : Opens Tryz.prog 27 GShip.rep GShip.ok := Opens.struct (l := [(9, 0), (3, 1), (22, 2), (24, 3), (25, 8)]) (by kernel_rfl) (by kernel_rfl) (.cons (by kernel_rfl) op9 (.cons (by kernel_rfl) op3 (.cons (by kernel_rfl) op22 (.cons (by kernel_rfl) op24 (.cons (by kernel_rfl) op25 .nil)))))
end Go.KB
