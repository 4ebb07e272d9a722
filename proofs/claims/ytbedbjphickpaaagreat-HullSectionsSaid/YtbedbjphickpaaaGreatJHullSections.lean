/- What is read of the arguments; all functions. Printed by a program. No condition. -/
import Derived.Test.YtbedbjphickpaaaGreatGProof4
import Derived.Test.YtbedbjphickpaaaGreatKJoin
namespace Go.KB
open Go.Proofs
set_option maxRecDepth 100000
theorem op191 : Opens Tryz.prog 191 r_u16 (gI .u16) := Opens.int un191
theorem op28 : Opens Tryz.prog 28 (Rep.slice r_u16) (gL (gI .u16)) := Opens.slice un28 (by kernel_rfl) (by decide) op191
theorem op4 : Opens Tryz.prog 4 Rep.bool (fun _ => True) := Opens.bool un4
theorem op30 : Opens Tryz.prog 30 GInt.rep GInt.ok := Opens.struct (l := [(4, 0), (28, 1)]) (by kernel_rfl) (by kernel_rfl) (.cons (by kernel_rfl) op4 (.cons (by kernel_rfl) op28 .nil))
theorem op32 : Opens Tryz.prog 32 GRat.rep GRat.ok := Opens.struct (l := [(30, 0), (30, 2)]) (by kernel_rfl) (by kernel_rfl) (.cons (by kernel_rfl) op30 (.cons (by kernel_rfl) op30 .nil))
theorem op34 : Opens Tryz.prog 34 GAttitude.rep GAttitude.ok := Opens.struct (l := [(32, 0), (32, 4)]) (by kernel_rfl) (by kernel_rfl) (.cons (by kernel_rfl) op32 (.cons (by kernel_rfl) op32 .nil))
theorem op3 : Opens Tryz.prog 3 r_i64 (gI .i64) := Opens.int un3
theorem op73 : Opens Tryz.prog 73 (Rep.slice r_i64) (gL (gI .i64)) := Opens.slice un73 (by kernel_rfl) (by decide) op3
theorem op75 : Opens Tryz.prog 75 GStation.rep GStation.ok := Opens.struct (l := [(3, 0), (3, 1), (73, 2), (73, 3)]) (by kernel_rfl) (by kernel_rfl) (.cons (by kernel_rfl) op3 (.cons (by kernel_rfl) op3 (.cons (by kernel_rfl) op73 (.cons (by kernel_rfl) op73 .nil))))
end Go.KB
