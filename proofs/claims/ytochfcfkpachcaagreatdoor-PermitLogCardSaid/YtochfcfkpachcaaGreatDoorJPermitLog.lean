/- What is read of the arguments; all functions. Printed by a program. No condition. -/
import Derived.Test.YtochfcfkpachcaaGreatDoorGProof6
import Derived.Test.YtochfcfkpachcaaGreatDoorKJoin
namespace Go.KB
open Go.Proofs
set_option maxRecDepth 100000
theorem XW : Opens Tryz.prog 3 lH (gI .i64) := Opens.int un3
theorem op9 : Opens Tryz.prog 9 Rep.str gS := Opens.str Q7
theorem op38 : Opens Tryz.prog 38 GEvent.rep GEvent.ok := Opens.struct (l := [(3, 0), (3, 1), (9, 2), (9, 3), (9, 4), (3, 5), (3, 6), (3, 7)]) (by kernel_rfl) (by kernel_rfl) (.cons (by kernel_rfl) XW (.cons (by kernel_rfl) XW (.cons (by kernel_rfl) op9 (.cons (by kernel_rfl) op9 (.cons (by kernel_rfl) op9 (.cons (by kernel_rfl) XW (.cons (by kernel_rfl) XW (.cons (by kernel_rfl) XW .nil))))))))
theorem op27 : Opens Tryz.prog 27 (Rep.slice GEvent.rep) (gL GEvent.ok) := Opens.slice DT (by kernel_rfl) (by decide) op38
theorem op34 : Opens Tryz.prog 34 (Rep.slice Rep.str) (gL gS) := Opens.slice jo (by kernel_rfl) (by decide) op9
theorem op52 : Opens Tryz.prog 52 aP.rep aP.ok := Opens.struct (l := [(9, 0), (3, 1), (9, 2), (3, 3), (3, 4), (34, 5)]) (by kernel_rfl) (by kernel_rfl) (.cons (by kernel_rfl) op9 (.cons (by kernel_rfl) XW (.cons (by kernel_rfl) op9 (.cons (by kernel_rfl) XW (.cons (by kernel_rfl) XW (.cons (by kernel_rfl) op34 .nil))))))
theorem op24 : Opens Tryz.prog 24 (Rep.slice aP.rep) (gL aP.ok) := Opens.slice qX (by kernel_rfl) (by decide) op52
theorem op111 : Opens Tryz.prog 111 cZ.rep cZ.ok := Opens.struct (l := [(3, 0), (3, 1), (3, 2)]) (by kernel_rfl) (by kernel_rfl) (.cons (by kernel_rfl) XW (.cons (by kernel_rfl) XW (.cons (by kernel_rfl) XW .nil)))
theorem op23 : Opens Tryz.prog 23 (Rep.slice cZ.rep) (gL cZ.ok) := Opens.slice Jg (by kernel_rfl) (by decide) op111
theorem op4 : Opens Tryz.prog 4 Rep.bool (fun _ => True) := Opens.bool un4
theorem op100 : Opens Tryz.prog 100 dH.rep dH.ok := Opens.struct (l := [(9, 0), (4, 1), (34, 2)]) (by kernel_rfl) (by kernel_rfl) (.cons (by kernel_rfl) op9 (.cons (by kernel_rfl) op4 (.cons (by kernel_rfl) op34 .nil)))
theorem op22 : Opens Tryz.prog 22 (Rep.slice dH.rep) (gL dH.ok) := Opens.slice yw (by kernel_rfl) (by decide) op100
theorem op26 : Opens Tryz.prog 26 GPermitPlan.rep GPermitPlan.ok := Opens.struct (l := [(22, 0), (23, 1), (24, 2), (3, 3)]) (by kernel_rfl) (by kernel_rfl) (.cons (by kernel_rfl) op22 (.cons (by kernel_rfl) op23 (.cons (by kernel_rfl) op24 (.cons (by kernel_rfl) XW .nil))))
end Go.KB
