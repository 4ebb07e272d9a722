/- What is read of the arguments; all functions. Printed by a program. No condition. -/
import Derived.Test.YtcpcedbnpieebaaGProof5
import Derived.Test.YtcpcedbnpieebaaKJoin
namespace Go.KB
open Go.Proofs
set_option maxRecDepth 100000
theorem op3 : Opens Try.prog 3 r_i64 (gI .i64) := Opens.int un3
theorem op64 : Opens Try.prog 64 GReading.rep GReading.ok := Opens.struct (l := [(3, 0), (3, 1)]) (by kernel_rfl) (by kernel_rfl) (.cons (by kernel_rfl) op3 (.cons (by kernel_rfl) op3 .nil))
theorem op58 : Opens Try.prog 58 (Rep.slice GReading.rep) (gL GReading.ok) := Opens.slice un58 (by kernel_rfl) (by decide) op64
end Go.KB
