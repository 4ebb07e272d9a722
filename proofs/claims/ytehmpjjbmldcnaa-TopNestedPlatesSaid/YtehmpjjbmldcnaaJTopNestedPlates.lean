/- What is read of the arguments; all functions. Printed by a program. No condition. -/
import Derived.Test.YtehmpjjbmldcnaaGProof4
import Derived.Test.YtehmpjjbmldcnaaKOpr
namespace Go.KB
open Go.Proofs
set_option maxRecDepth 100000
theorem Wp : Opens Try.prog 3 aU (gI .i64) := Opens.int JB
theorem op28 : Opens Try.prog 28 GPlate.rep GPlate.ok := Opens.struct (l := [(3, 0), (3, 1), (3, 2)]) (by kernel_rfl) (by kernel_rfl) (.cons (by kernel_rfl) Wp (.cons (by kernel_rfl) Wp (.cons (by kernel_rfl) Wp .nil)))
theorem op4 : Opens Try.prog 4 Rep.bool (fun _ => True) := Opens.bool un4
theorem op50 : Opens Try.prog 50 bV.rep bV.ok := Opens.fix bV.yT (S := 48) zy (by kernel_rfl) (of_decide_eq_true (by kernel_rfl)) (fun b hs => (vg.struct (l := [(3, 0), (4, 1), (4, 2), (3, 3), (48, 4), (48, 5)]) (by kernel_rfl) (by kernel_rfl) (.cons (by kernel_rfl) (Opens.b Wp) (.cons (by kernel_rfl) (Opens.b op4) (.cons (by kernel_rfl) (Opens.b op4) (.cons (by kernel_rfl) (Opens.b Wp) (.cons (by kernel_rfl) hs (.cons (by kernel_rfl) hs .nil))))))).imp fun y h => .mk y h.2.2.2.2.1.1 h.2.2.2.2.1.2 h.2.2.2.2.2.1.1 h.2.2.2.2.2.1.2)
theorem op52 : Opens Try.prog 52 dR.rep dR.ok := Opens.struct (l := [(3, 0), (50, 1)]) (by kernel_rfl) (by kernel_rfl) (.cons (by kernel_rfl) Wp (.cons (by kernel_rfl) op50 .nil))
theorem op24 : Opens Try.prog 24 (Rep.slice dR.rep) (gL dR.ok) := Opens.slice BK (by kernel_rfl) (by decide) op52
theorem op23 : Opens Try.prog 23 (Rep.slice GPlate.rep) (gL GPlate.ok) := Opens.slice yt (by kernel_rfl) (by decide) op28
theorem op9 : Opens Try.prog 9 Rep.str gS := Opens.str Sl
theorem op59 : Opens Try.prog 59 bC.rep bC.ok := Opens.struct (l := [(9, 0), (3, 1), (3, 2), (4, 3)]) (by kernel_rfl) (by kernel_rfl) (.cons (by kernel_rfl) op9 (.cons (by kernel_rfl) Wp (.cons (by kernel_rfl) Wp (.cons (by kernel_rfl) op4 .nil))))
theorem op22 : Opens Try.prog 22 (Rep.slice bC.rep) (gL bC.ok) := Opens.slice yu (by kernel_rfl) (by decide) op59
theorem op26 : Opens Try.prog 26 Glaw09_Job.rep Glaw09_Job.ok := Opens.struct (l := [(22, 0), (23, 1), (24, 2), (3, 3)]) (by kernel_rfl) (by kernel_rfl) (.cons (by kernel_rfl) op22 (.cons (by kernel_rfl) op23 (.cons (by kernel_rfl) op24 (.cons (by kernel_rfl) Wp .nil))))
end Go.KB
