/- What is read of the arguments; all functions. Printed by a program. No condition. -/
import Derived.Test.YtjbnolcahodkkaaGreatGProof7
import Derived.Test.YtjbnolcahodkkaaGreatKJoin
namespace Go.KB
open Go.Proofs
set_option maxRecDepth 100000
theorem XI : Opens Tryz.prog 3 bG (gI .i64) := Opens.int un3
theorem op9 : Opens Tryz.prog 9 Rep.str gS := Opens.str VQ
theorem op67 : Opens Tryz.prog 67 GSlot.rep GSlot.ok := Opens.struct (l := [(9, 0), (3, 1), (3, 2)]) (by kernel_rfl) (by kernel_rfl) (.cons (by kernel_rfl) op9 (.cons (by kernel_rfl) XI (.cons (by kernel_rfl) XI .nil)))
theorem op29 : Opens Tryz.prog 29 (Rep.slice GSlot.rep) (gL GSlot.ok) := Opens.slice UE (by kernel_rfl) (by decide) op67
theorem op207 : Opens Tryz.prog 207 nK.rep nK.ok := Opens.struct (l := [(3, 0), (3, 1)]) (by kernel_rfl) (by kernel_rfl) (.cons (by kernel_rfl) XI (.cons (by kernel_rfl) XI .nil))
theorem op26 : Opens Tryz.prog 26 (Rep.slice nK.rep) (gL nK.ok) := Opens.slice XL (by kernel_rfl) (by decide) op207
theorem op121 : Opens Tryz.prog 121 dH.rep dH.ok := Opens.struct (l := [(3, 0), (3, 1), (3, 2)]) (by kernel_rfl) (by kernel_rfl) (.cons (by kernel_rfl) XI (.cons (by kernel_rfl) XI (.cons (by kernel_rfl) XI .nil)))
theorem op25 : Opens Tryz.prog 25 (Rep.slice dH.rep) (gL dH.ok) := Opens.slice OY (by kernel_rfl) (by decide) op121
theorem op45 : Opens Tryz.prog 45 (Rep.slice Rep.str) (gL gS) := Opens.slice lW (by kernel_rfl) (by decide) op9
theorem op4 : Opens Tryz.prog 4 Rep.bool (fun _ => True) := Opens.bool un4
theorem op61 : Opens Tryz.prog 61 dK.rep dK.ok := Opens.struct (l := [(9, 0), (4, 1), (45, 2)]) (by kernel_rfl) (by kernel_rfl) (.cons (by kernel_rfl) op9 (.cons (by kernel_rfl) op4 (.cons (by kernel_rfl) op45 .nil)))
theorem op24 : Opens Tryz.prog 24 (Rep.slice dK.rep) (gL dK.ok) := Opens.slice BX (by kernel_rfl) (by decide) op61
theorem op59 : Opens Tryz.prog 59 nT.rep nT.ok := Opens.struct (l := [(9, 0), (3, 1), (3, 2)]) (by kernel_rfl) (by kernel_rfl) (.cons (by kernel_rfl) op9 (.cons (by kernel_rfl) XI (.cons (by kernel_rfl) XI .nil)))
theorem op23 : Opens Tryz.prog 23 (Rep.slice nT.rep) (gL nT.ok) := Opens.slice Qr (by kernel_rfl) (by decide) op59
theorem op72 : Opens Tryz.prog 72 xX.rep xX.ok := Opens.struct (l := [(3, 0), (3, 1)]) (by kernel_rfl) (by kernel_rfl) (.cons (by kernel_rfl) XI (.cons (by kernel_rfl) XI .nil))
theorem op63 : Opens Tryz.prog 63 (Rep.slice xX.rep) (gL xX.ok) := Opens.slice TB (by kernel_rfl) (by decide) op72
theorem op65 : Opens Tryz.prog 65 fQ.rep fQ.ok := Opens.struct (l := [(9, 0), (9, 1), (63, 2), (9, 3), (3, 4), (4, 5), (45, 6)]) (by kernel_rfl) (by kernel_rfl) (.cons (by kernel_rfl) op9 (.cons (by kernel_rfl) op9 (.cons (by kernel_rfl) op63 (.cons (by kernel_rfl) op9 (.cons (by kernel_rfl) XI (.cons (by kernel_rfl) op4 (.cons (by kernel_rfl) op45 .nil)))))))
theorem op22 : Opens Tryz.prog 22 (Rep.slice fQ.rep) (gL fQ.ok) := Opens.slice BN (by kernel_rfl) (by decide) op65
theorem op28 : Opens Tryz.prog 28 GWork.rep GWork.ok := Opens.struct (l := [(22, 0), (23, 1), (24, 2), (25, 3), (26, 4), (3, 5), (3, 6), (3, 7), (3, 8)]) (by kernel_rfl) (by kernel_rfl) (.cons (by kernel_rfl) op22 (.cons (by kernel_rfl) op23 (.cons (by kernel_rfl) op24 (.cons (by kernel_rfl) op25 (.cons (by kernel_rfl) op26 (.cons (by kernel_rfl) XI (.cons (by kernel_rfl) XI (.cons (by kernel_rfl) XI (.cons (by kernel_rfl) XI .nil)))))))))
end Go.KB
