/- What is read of the arguments; all functions. Printed by a program. No condition. -/
import Derived.Test.YtmhjgjflmemjmaaGProof3
import Derived.Test.YtmhjgjflmemjmaaKOpr
namespace Go.KB
open Go.Proofs
set_option maxRecDepth 100000
theorem op3 : Opens Try.prog 3 r_i64 (gI .i64) := Opens.int un3
theorem op4 : Opens Try.prog 4 Rep.bool (fun _ => True) := Opens.bool un4
theorem op26 : Opens Try.prog 26 GCut.rep GCut.ok := Opens.fix GCut.recOk (S := 24) un24 (by kernel_rfl) (of_decide_eq_true (by kernel_rfl)) (fun b hs => (OpensB.struct (l := [(3, 0), (4, 1), (4, 2), (3, 3), (24, 4), (24, 5)]) (by kernel_rfl) (by kernel_rfl) (.cons (by kernel_rfl) (Opens.b op3) (.cons (by kernel_rfl) (Opens.b op4) (.cons (by kernel_rfl) (Opens.b op4) (.cons (by kernel_rfl) (Opens.b op3) (.cons (by kernel_rfl) hs (.cons (by kernel_rfl) hs .nil))))))).imp fun _ _ => trivial)
theorem op23 : Opens Try.prog 23 GPlate.rep GPlate.ok := Opens.struct (l := [(3, 0), (3, 1), (3, 2)]) (by kernel_rfl) (by kernel_rfl) (.cons (by kernel_rfl) op3 (.cons (by kernel_rfl) op3 (.cons (by kernel_rfl) op3 .nil)))
end Go.KB
