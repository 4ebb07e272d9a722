/- What is read of the arguments; all functions. Printed by a program. No condition. -/
import Derived.Test.YtbedbjphickpaaaGProof4
import Derived.Test.YtbedbjphickpaaaKJoin
namespace Go.KB
open Go.Proofs
set_option maxRecDepth 100000
theorem op35 : Opens Try.prog 35 r_u16 (gI .u16) := Opens.int un35
theorem op36 : Opens Try.prog 36 (Rep.arr r_u16 3) (gA 3 (gI .u16)) := Opens.arr un36 (by kernel_rfl) (by kernel_rfl) op35
theorem op28 : Opens Try.prog 28 (Rep.slice r_u16) (gL (gI .u16)) := Opens.slice un28 (by kernel_rfl) (by decide) op35
theorem op4 : Opens Try.prog 4 Rep.bool (fun _ => True) := Opens.bool un4
theorem op30 : Opens Try.prog 30 GInt.rep GInt.ok := Opens.struct (l := [(4, 0), (28, 1)]) (by kernel_rfl) (by kernel_rfl) (.cons (by kernel_rfl) op4 (.cons (by kernel_rfl) op28 .nil))
theorem op32 : Opens Try.prog 32 GRat.rep GRat.ok := Opens.struct (l := [(30, 0), (30, 2)]) (by kernel_rfl) (by kernel_rfl) (.cons (by kernel_rfl) op30 (.cons (by kernel_rfl) op30 .nil))
theorem op34 : Opens Try.prog 34 GAttitude.rep GAttitude.ok := Opens.struct (l := [(32, 0), (32, 4)]) (by kernel_rfl) (by kernel_rfl) (.cons (by kernel_rfl) op32 (.cons (by kernel_rfl) op32 .nil))
theorem op3 : Opens Try.prog 3 r_i64 (gI .i64) := Opens.int un3
theorem op9 : Opens Try.prog 9 Rep.str gS := Opens.str un9
theorem op24 : Opens Try.prog 24 GLoad.rep GLoad.ok := Opens.struct (l := [(9, 0), (3, 1), (3, 2), (3, 3), (3, 4)]) (by kernel_rfl) (by kernel_rfl) (.cons (by kernel_rfl) op9 (.cons (by kernel_rfl) op3 (.cons (by kernel_rfl) op3 (.cons (by kernel_rfl) op3 (.cons (by kernel_rfl) op3 .nil)))))
theorem op25 : Opens Try.prog 25 (Rep.slice GLoad.rep) (gL GLoad.ok) := Opens.slice un25 (by kernel_rfl) (by decide) op24
theorem op69 : Opens Try.prog 69 (Rep.slice r_i64) (gL (gI .i64)) := Opens.slice un69 (by kernel_rfl) (by decide) op3
theorem op71 : Opens Try.prog 71 GStation.rep GStation.ok := Opens.struct (l := [(3, 0), (3, 1), (69, 2), (69, 3)]) (by kernel_rfl) (by kernel_rfl) (.cons (by kernel_rfl) op3 (.cons (by kernel_rfl) op3 (.cons (by kernel_rfl) op69 (.cons (by kernel_rfl) op69 .nil))))
theorem op22 : Opens Try.prog 22 (Rep.slice GStation.rep) (gL GStation.ok) := Opens.slice un22 (by kernel_rfl) (by decide) op71
theorem op27 : Opens Try.prog 27 GShip.rep GShip.ok := Opens.struct (l := [(9, 0), (3, 1), (22, 2), (24, 3), (25, 8)]) (by kernel_rfl) (by kernel_rfl) (.cons (by kernel_rfl) op9 (.cons (by kernel_rfl) op3 (.cons (by kernel_rfl) op22 (.cons (by kernel_rfl) op24 (.cons (by kernel_rfl) op25 .nil)))))
end Go.KB
