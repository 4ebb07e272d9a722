/- What is read of the arguments; all functions. Printed by a program. No condition. -/
import Derived.Test.YtcpcedbnpieebaaGProof5
import Derived.Test.YtcpcedbnpieebaaKJoin
namespace Go.KB
open Go.Proofs
set_option maxRecDepth 100000
theorem op4 : Opens Try.prog 4 Rep.bool (fun _ => True) := Opens.bool un4
theorem op3 : Opens Try.prog 3 r_i64 (gI .i64) := Opens.int un3
theorem op131 : Opens Try.prog 131 GRun.rep GRun.ok := Opens.struct (l := [(3, 0), (3, 1), (3, 2), (4, 3)]) (by kernel_rfl) (by kernel_rfl) (.cons (by kernel_rfl) op3 (.cons (by kernel_rfl) op3 (.cons (by kernel_rfl) op3 (.cons (by kernel_rfl) op4 .nil))))
theorem op43 : Opens Try.prog 43 (Rep.slice GRun.rep) (gL GRun.ok) := Opens.slice un43 (by kernel_rfl) (by decide) op131
end Go.KB
