/- What is read of the arguments; all functions. Printed by a program. No condition. -/
import Derived.Test.YtkflmfhgpjpepaaGreatDoorGProof4
import Derived.Test.YtkflmfhgpjpepaaGreatDoorKJoin
namespace Go.KB
open Go.Proofs
set_option maxRecDepth 100000
theorem op3 : Opens Tryz.prog 3 r_i64 (gI .i64) := Opens.int un3
theorem op9 : Opens Tryz.prog 9 Rep.str gS := Opens.str un9
theorem op37 : Opens Tryz.prog 37 GPost.rep GPost.ok := Opens.struct (l := [(3, 0), (3, 1), (9, 2), (9, 3), (9, 4), (9, 5), (3, 6), (3, 7), (3, 8)]) (by kernel_rfl) (by kernel_rfl) (.cons (by kernel_rfl) op3 (.cons (by kernel_rfl) op3 (.cons (by kernel_rfl) op9 (.cons (by kernel_rfl) op9 (.cons (by kernel_rfl) op9 (.cons (by kernel_rfl) op9 (.cons (by kernel_rfl) op3 (.cons (by kernel_rfl) op3 (.cons (by kernel_rfl) op3 .nil)))))))))
theorem op22 : Opens Tryz.prog 22 (Rep.slice GPost.rep) (gL GPost.ok) := Opens.slice jKj (by kernel_rfl) (by decide) op37
end Go.KB
