/- What is read of the arguments; all functions. Printed by a program. No condition. -/
import Derived.Test.YtalkbgomndhkmaaGreatGProof5
import Derived.Test.YtalkbgomndhkmaaGreatKJoin
namespace Go.KB
open Go.Proofs
set_option maxRecDepth 100000
theorem op3 : Opens Tryz.prog 3 r_i64 (gI .i64) := Opens.int un3
theorem op9 : Opens Tryz.prog 9 Rep.str gS := Opens.str Ux
theorem op36 : Opens Tryz.prog 36 (Rep.slice Rep.str) (gL gS) := Opens.slice kQ (by kernel_rfl) (by decide) op9
theorem op68 : Opens Tryz.prog 68 aA.rep aA.ok := Opens.struct (l := [(9, 0), (3, 1), (9, 2), (3, 3), (3, 4), (36, 5)]) (by kernel_rfl) (by kernel_rfl) (.cons (by kernel_rfl) op9 (.cons (by kernel_rfl) op3 (.cons (by kernel_rfl) op9 (.cons (by kernel_rfl) op3 (.cons (by kernel_rfl) op3 (.cons (by kernel_rfl) op36 .nil))))))
theorem op24 : Opens Tryz.prog 24 (Rep.slice aA.rep) (gL aA.ok) := Opens.slice mX (by kernel_rfl) (by decide) op68
theorem op80 : Opens Tryz.prog 80 bJ.rep bJ.ok := Opens.struct (l := [(3, 0), (3, 1), (3, 2)]) (by kernel_rfl) (by kernel_rfl) (.cons (by kernel_rfl) op3 (.cons (by kernel_rfl) op3 (.cons (by kernel_rfl) op3 .nil)))
theorem op23 : Opens Tryz.prog 23 (Rep.slice bJ.rep) (gL bJ.ok) := Opens.slice F5 (by kernel_rfl) (by decide) op80
theorem op4 : Opens Tryz.prog 4 Rep.bool (fun _ => True) := Opens.bool un4
theorem op71 : Opens Tryz.prog 71 dh.rep dh.ok := Opens.struct (l := [(9, 0), (4, 1), (36, 2)]) (by kernel_rfl) (by kernel_rfl) (.cons (by kernel_rfl) op9 (.cons (by kernel_rfl) op4 (.cons (by kernel_rfl) op36 .nil)))
theorem op22 : Opens Tryz.prog 22 (Rep.slice dh.rep) (gL dh.ok) := Opens.slice vJ (by kernel_rfl) (by decide) op71
theorem op26 : Opens Tryz.prog 26 GPermitPlan.rep GPermitPlan.ok := Opens.struct (l := [(22, 0), (23, 1), (24, 2), (3, 3)]) (by kernel_rfl) (by kernel_rfl) (.cons (by kernel_rfl) op22 (.cons (by kernel_rfl) op23 (.cons (by kernel_rfl) op24 (.cons (by kernel_rfl) op3 .nil))))
end Go.KB
