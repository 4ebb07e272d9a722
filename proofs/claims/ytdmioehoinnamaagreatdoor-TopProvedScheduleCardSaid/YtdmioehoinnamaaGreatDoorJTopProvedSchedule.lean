/- What is read of the arguments; all functions. Printed by a program. No condition. -/
import Derived.Test.YtdmioehoinnamaaGreatDoorGProof5
import Derived.Test.YtdmioehoinnamaaGreatDoorKJoin
namespace Go.KB
open Go.Proofs
set_option maxRecDepth 100000
theorem op5 : Opens Tryz.prog 5 r_u8 (gI .u8) := Opens.int un5
theorem RU : Opens Tryz.prog 3 aU (gI .i64) := Opens.int un3
theorem op9 : Opens Tryz.prog 9 Rep.str gS := Opens.str QB
theorem op55 : Opens Tryz.prog 55 GSlot.rep GSlot.ok := Opens.struct (l := [(9, 0), (3, 1), (3, 2)]) (by kernel_rfl) (by kernel_rfl) (.cons (by kernel_rfl) op9 (.cons (by kernel_rfl) RU (.cons (by kernel_rfl) RU .nil)))
theorem op29 : Opens Tryz.prog 29 (Rep.slice GSlot.rep) (gL GSlot.ok) := Opens.slice FZ (by kernel_rfl) (by decide) op55
theorem op91 : Opens Tryz.prog 91 jH.rep jH.ok := Opens.struct (l := [(3, 0), (3, 1)]) (by kernel_rfl) (by kernel_rfl) (.cons (by kernel_rfl) RU (.cons (by kernel_rfl) RU .nil))
theorem op26 : Opens Tryz.prog 26 (Rep.slice jH.rep) (gL jH.ok) := Opens.slice NP (by kernel_rfl) (by decide) op91
theorem op89 : Opens Tryz.prog 89 dL.rep dL.ok := Opens.struct (l := [(3, 0), (3, 1), (3, 2)]) (by kernel_rfl) (by kernel_rfl) (.cons (by kernel_rfl) RU (.cons (by kernel_rfl) RU (.cons (by kernel_rfl) RU .nil)))
theorem op25 : Opens Tryz.prog 25 (Rep.slice dL.rep) (gL dL.ok) := Opens.slice NQ (by kernel_rfl) (by decide) op89
theorem op43 : Opens Tryz.prog 43 (Rep.slice Rep.str) (gL gS) := Opens.slice xh (by kernel_rfl) (by decide) op9
theorem op4 : Opens Tryz.prog 4 Rep.bool (fun _ => True) := Opens.bool un4
theorem op86 : Opens Tryz.prog 86 jF.rep jF.ok := Opens.struct (l := [(9, 0), (4, 1), (43, 2)]) (by kernel_rfl) (by kernel_rfl) (.cons (by kernel_rfl) op9 (.cons (by kernel_rfl) op4 (.cons (by kernel_rfl) op43 .nil)))
theorem op24 : Opens Tryz.prog 24 (Rep.slice jF.rep) (gL jF.ok) := Opens.slice Ic (by kernel_rfl) (by decide) op86
theorem op62 : Opens Tryz.prog 62 iD.rep iD.ok := Opens.struct (l := [(9, 0), (3, 1), (3, 2)]) (by kernel_rfl) (by kernel_rfl) (.cons (by kernel_rfl) op9 (.cons (by kernel_rfl) RU (.cons (by kernel_rfl) RU .nil)))
theorem op23 : Opens Tryz.prog 23 (Rep.slice iD.rep) (gL iD.ok) := Opens.slice Dn (by kernel_rfl) (by decide) op62
theorem op64 : Opens Tryz.prog 64 kJ.rep kJ.ok := Opens.struct (l := [(3, 0), (3, 1)]) (by kernel_rfl) (by kernel_rfl) (.cons (by kernel_rfl) RU (.cons (by kernel_rfl) RU .nil))
theorem op51 : Opens Tryz.prog 51 (Rep.slice kJ.rep) (gL kJ.ok) := Opens.slice zC (by kernel_rfl) (by decide) op64
theorem op53 : Opens Tryz.prog 53 bU.rep bU.ok := Opens.struct (l := [(9, 0), (9, 1), (51, 2), (9, 3), (3, 4), (4, 5), (43, 6)]) (by kernel_rfl) (by kernel_rfl) (.cons (by kernel_rfl) op9 (.cons (by kernel_rfl) op9 (.cons (by kernel_rfl) op51 (.cons (by kernel_rfl) op9 (.cons (by kernel_rfl) RU (.cons (by kernel_rfl) op4 (.cons (by kernel_rfl) op43 .nil)))))))
theorem op22 : Opens Tryz.prog 22 (Rep.slice bU.rep) (gL bU.ok) := Opens.slice mV (by kernel_rfl) (by decide) op53
theorem op28 : Opens Tryz.prog 28 GWork.rep GWork.ok := Opens.struct (l := [(22, 0), (23, 1), (24, 2), (25, 3), (26, 4), (3, 5), (3, 6), (3, 7), (3, 8)]) (by kernel_rfl) (by kernel_rfl) (.cons (by kernel_rfl) op22 (.cons (by kernel_rfl) op23 (.cons (by kernel_rfl) op24 (.cons (by kernel_rfl) op25 (.cons (by kernel_rfl) op26 (.cons (by kernel_rfl) RU (.cons (by kernel_rfl) RU (.cons (by kernel_rfl) RU (.cons (by kernel_rfl) RU .nil)))))))))
end Go.KB
