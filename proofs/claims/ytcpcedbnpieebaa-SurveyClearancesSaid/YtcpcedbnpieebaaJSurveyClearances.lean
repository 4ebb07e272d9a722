/- What is read of the arguments; all functions. Printed by a program. No condition. -/
import Derived.Test.YtcpcedbnpieebaaGProof6
import Derived.Test.YtcpcedbnpieebaaKJoin
namespace Go.KB
open Go.Proofs
set_option maxRecDepth 100000
theorem op3 : Opens Try.prog 3 r_i64 (gI .i64) := Opens.int un3
theorem op9 : Opens Try.prog 9 Rep.str gS := Opens.str un9
theorem op84 : Opens Try.prog 84 GBearing.rep GBearing.ok := Opens.struct (l := [(9, 0), (3, 1), (3, 2), (3, 3)]) (by kernel_rfl) (by kernel_rfl) (.cons (by kernel_rfl) op9 (.cons (by kernel_rfl) op3 (.cons (by kernel_rfl) op3 (.cons (by kernel_rfl) op3 .nil))))
theorem op82 : Opens Try.prog 82 (Rep.slice GBearing.rep) (gL GBearing.ok) := Opens.slice un82 (by kernel_rfl) (by decide) op84
theorem op146 : Opens Try.prog 146 GTolerance.rep GTolerance.ok := Opens.struct (l := [(3, 0), (3, 1)]) (by kernel_rfl) (by kernel_rfl) (.cons (by kernel_rfl) op3 (.cons (by kernel_rfl) op3 .nil))
theorem op81 : Opens Try.prog 81 (Rep.slice GTolerance.rep) (gL GTolerance.ok) := Opens.slice un81 (by kernel_rfl) (by decide) op146
end Go.KB
