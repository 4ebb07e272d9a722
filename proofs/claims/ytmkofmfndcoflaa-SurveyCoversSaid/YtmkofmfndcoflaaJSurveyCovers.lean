/- What is read of the arguments; all functions. Printed by a program. No condition. -/
import Derived.Test.YtmkofmfndcoflaaGProof3
import Derived.Test.YtmkofmfndcoflaaKJoin
namespace Go.KB
open Go.Proofs
set_option maxRecDepth 100000
theorem op5 : Opens Try.prog 5 r_u8 (gI .u8) := Opens.int un5
theorem op3 : Opens Try.prog 3 aP (gI .i64) := Opens.int Jt
theorem op41 : Opens Try.prog 41 GRule.rep GRule.ok := Opens.struct (l := [(3, 0), (3, 1)]) (by kernel_rfl) (by kernel_rfl) (.cons (by kernel_rfl) op3 (.cons (by kernel_rfl) op3 .nil))
theorem op37 : Opens Try.prog 37 (Rep.slice aP) (gL (gI .i64)) := Opens.slice iF (by kernel_rfl) (by decide) op3
theorem op9 : Opens Try.prog 9 Rep.str gS := Opens.str Gl
theorem op39 : Opens Try.prog 39 GPanel.rep GPanel.ok := Opens.struct (l := [(9, 0), (3, 1), (3, 2), (3, 3), (37, 4)]) (by kernel_rfl) (by kernel_rfl) (.cons (by kernel_rfl) op9 (.cons (by kernel_rfl) op3 (.cons (by kernel_rfl) op3 (.cons (by kernel_rfl) op3 (.cons (by kernel_rfl) op37 .nil)))))
end Go.KB
