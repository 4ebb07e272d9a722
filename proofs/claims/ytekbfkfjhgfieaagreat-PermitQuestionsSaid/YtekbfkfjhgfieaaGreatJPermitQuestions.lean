/- What is read of the arguments; all functions. Printed by a program. No condition. -/
import Derived.Test.YtekbfkfjhgfieaaGreatGProof7
import Derived.Test.YtekbfkfjhgfieaaGreatKJoin
namespace Go.KB
open Go.Proofs
set_option maxRecDepth 100000
theorem op9 : Opens Tryz.prog 9 Rep.str gS := Opens.str XW
theorem YM : Opens Tryz.prog 3 bZ (gI .i64) := Opens.int un3
theorem op45 : Opens Tryz.prog 45 GEvent.rep GEvent.ok := Opens.struct (l := [(3, 0), (3, 1), (9, 2), (9, 3), (9, 4), (3, 5), (3, 6), (3, 7)]) (by kernel_rfl) (by kernel_rfl) (.cons (by kernel_rfl) YM (.cons (by kernel_rfl) YM (.cons (by kernel_rfl) op9 (.cons (by kernel_rfl) op9 (.cons (by kernel_rfl) op9 (.cons (by kernel_rfl) YM (.cons (by kernel_rfl) YM (.cons (by kernel_rfl) YM .nil))))))))
theorem op27 : Opens Tryz.prog 27 (Rep.slice GEvent.rep) (gL GEvent.ok) := Opens.slice VD (by kernel_rfl) (by decide) op45
theorem op36 : Opens Tryz.prog 36 (Rep.slice Rep.str) (gL gS) := Opens.slice ji (by kernel_rfl) (by decide) op9
theorem op58 : Opens Tryz.prog 58 aH.rep aH.ok := Opens.struct (l := [(9, 0), (3, 1), (9, 2), (3, 3), (3, 4), (36, 5)]) (by kernel_rfl) (by kernel_rfl) (.cons (by kernel_rfl) op9 (.cons (by kernel_rfl) YM (.cons (by kernel_rfl) op9 (.cons (by kernel_rfl) YM (.cons (by kernel_rfl) YM (.cons (by kernel_rfl) op36 .nil))))))
theorem op24 : Opens Tryz.prog 24 (Rep.slice aH.rep) (gL aH.ok) := Opens.slice qI (by kernel_rfl) (by decide) op58
theorem op56 : Opens Tryz.prog 56 cZ.rep cZ.ok := Opens.struct (l := [(3, 0), (3, 1), (3, 2)]) (by kernel_rfl) (by kernel_rfl) (.cons (by kernel_rfl) YM (.cons (by kernel_rfl) YM (.cons (by kernel_rfl) YM .nil)))
theorem op23 : Opens Tryz.prog 23 (Rep.slice cZ.rep) (gL cZ.ok) := Opens.slice I4 (by kernel_rfl) (by decide) op56
theorem op4 : Opens Tryz.prog 4 Rep.bool (fun _ => True) := Opens.bool un4
theorem op64 : Opens Tryz.prog 64 dH.rep dH.ok := Opens.struct (l := [(9, 0), (4, 1), (36, 2)]) (by kernel_rfl) (by kernel_rfl) (.cons (by kernel_rfl) op9 (.cons (by kernel_rfl) op4 (.cons (by kernel_rfl) op36 .nil)))
theorem op22 : Opens Tryz.prog 22 (Rep.slice dH.rep) (gL dH.ok) := Opens.slice vH (by kernel_rfl) (by decide) op64
theorem op26 : Opens Tryz.prog 26 GPermitPlan.rep GPermitPlan.ok := Opens.struct (l := [(22, 0), (23, 1), (24, 2), (3, 3)]) (by kernel_rfl) (by kernel_rfl) (.cons (by kernel_rfl) op22 (.cons (by kernel_rfl) op23 (.cons (by kernel_rfl) op24 (.cons (by kernel_rfl) YM .nil))))
end Go.KB
