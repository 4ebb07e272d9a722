/- What is read of the arguments; all functions. Printed by a program. No condition. -/
import Derived.Test.YtcpcedbnpieebaaGProof5
import Derived.Test.YtcpcedbnpieebaaKJoin
namespace Go.KB
open Go.Proofs
set_option maxRecDepth 100000
theorem op103 : Opens Try.prog 103 r_u16 (gI .u16) := Opens.int un103
theorem op45 : Opens Try.prog 45 (Rep.slice r_u16) (gL (gI .u16)) := Opens.slice un45 (by kernel_rfl) (by decide) op103
theorem op4 : Opens Try.prog 4 Rep.bool (fun _ => True) := Opens.bool un4
theorem op47 : Opens Try.prog 47 GInt.rep GInt.ok := Opens.struct (l := [(4, 0), (45, 1)]) (by kernel_rfl) (by kernel_rfl) (.cons (by kernel_rfl) op4 (.cons (by kernel_rfl) op45 .nil))
theorem op49 : Opens Try.prog 49 GRat.rep GRat.ok := Opens.struct (l := [(47, 0), (47, 2)]) (by kernel_rfl) (by kernel_rfl) (.cons (by kernel_rfl) op47 (.cons (by kernel_rfl) op47 .nil))
theorem op3 : Opens Try.prog 3 r_i64 (gI .i64) := Opens.int un3
theorem op79 : Opens Try.prog 79 GPoint.rep GPoint.ok := Opens.struct (l := [(3, 0), (3, 1)]) (by kernel_rfl) (by kernel_rfl) (.cons (by kernel_rfl) op3 (.cons (by kernel_rfl) op3 .nil))
theorem op73 : Opens Try.prog 73 (Rep.slice GPoint.rep) (gL GPoint.ok) := Opens.slice un73 (by kernel_rfl) (by decide) op79
end Go.KB
