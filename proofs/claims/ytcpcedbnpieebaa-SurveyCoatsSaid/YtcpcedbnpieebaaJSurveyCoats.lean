/- What is read of the arguments; all functions. Printed by a program. No condition. -/
import Derived.Test.YtcpcedbnpieebaaGProof6
import Derived.Test.YtcpcedbnpieebaaKJoin
namespace Go.KB
open Go.Proofs
set_option maxRecDepth 100000
theorem op3 : Opens Try.prog 3 r_i64 (gI .i64) := Opens.int un3
theorem op22 : Opens Try.prog 22 (Rep.slice r_i64) (gL (gI .i64)) := Opens.slice un22 (by kernel_rfl) (by decide) op3
theorem op9 : Opens Try.prog 9 Rep.str gS := Opens.str un9
theorem op95 : Opens Try.prog 95 GCoat.rep GCoat.ok := Opens.struct (l := [(9, 0), (3, 1), (3, 2), (3, 3), (3, 4)]) (by kernel_rfl) (by kernel_rfl) (.cons (by kernel_rfl) op9 (.cons (by kernel_rfl) op3 (.cons (by kernel_rfl) op3 (.cons (by kernel_rfl) op3 (.cons (by kernel_rfl) op3 .nil)))))
theorem op93 : Opens Try.prog 93 (Rep.slice GCoat.rep) (gL GCoat.ok) := Opens.slice un93 (by kernel_rfl) (by decide) op95
end Go.KB
