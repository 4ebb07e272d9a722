/- What is read of the arguments; all functions. Printed by a program. No condition. -/
import Derived.Test.YtalkbgomndhkmaaGreatGProof5
import Derived.Test.YtalkbgomndhkmaaGreatKJoin
namespace Go.KB
open Go.Proofs
set_option maxRecDepth 100000
theorem UH : Opens Tryz.prog 3 iV (gI .i64) := Opens.int un3
theorem YA : Opens Tryz.prog 9 Rep.str gS := Opens.str Tj
theorem op47 : Opens Tryz.prog 47 GEvent.rep GEvent.ok := Opens.struct (l := [(3, 0), (3, 1), (9, 2), (9, 3), (9, 4), (3, 5), (3, 6), (3, 7)]) (by kernel_rfl) (by kernel_rfl) (.cons (by kernel_rfl) UH (.cons (by kernel_rfl) UH (.cons (by kernel_rfl) YA (.cons (by kernel_rfl) YA (.cons (by kernel_rfl) YA (.cons (by kernel_rfl) UH (.cons (by kernel_rfl) UH (.cons (by kernel_rfl) UH .nil))))))))
theorem op27 : Opens Tryz.prog 27 (Rep.slice GEvent.rep) (gL GEvent.ok) := Opens.slice Tm (by kernel_rfl) (by decide) op47
theorem op36 : Opens Tryz.prog 36 (Rep.slice Rep.str) (gL gS) := Opens.slice kK (by kernel_rfl) (by decide) YA
theorem op68 : Opens Tryz.prog 68 aA.rep aA.ok := Opens.struct (l := [(9, 0), (3, 1), (9, 2), (3, 3), (3, 4), (36, 5)]) (by kernel_rfl) (by kernel_rfl) (.cons (by kernel_rfl) YA (.cons (by kernel_rfl) UH (.cons (by kernel_rfl) YA (.cons (by kernel_rfl) UH (.cons (by kernel_rfl) UH (.cons (by kernel_rfl) op36 .nil))))))
theorem op24 : Opens Tryz.prog 24 (Rep.slice aA.rep) (gL aA.ok) := Opens.slice pR (by kernel_rfl) (by decide) op68
theorem op80 : Opens Tryz.prog 80 bF.rep bF.ok := Opens.struct (l := [(3, 0), (3, 1), (3, 2)]) (by kernel_rfl) (by kernel_rfl) (.cons (by kernel_rfl) UH (.cons (by kernel_rfl) UH (.cons (by kernel_rfl) UH .nil)))
theorem op23 : Opens Tryz.prog 23 (Rep.slice bF.rep) (gL bF.ok) := Opens.slice Fq (by kernel_rfl) (by decide) op80
theorem op4 : Opens Tryz.prog 4 Rep.bool (fun _ => True) := Opens.bool un4
theorem op71 : Opens Tryz.prog 71 bV.rep bV.ok := Opens.struct (l := [(9, 0), (4, 1), (36, 2)]) (by kernel_rfl) (by kernel_rfl) (.cons (by kernel_rfl) YA (.cons (by kernel_rfl) op4 (.cons (by kernel_rfl) op36 .nil)))
theorem op22 : Opens Tryz.prog 22 (Rep.slice bV.rep) (gL bV.ok) := Opens.slice vO (by kernel_rfl) (by decide) op71
theorem op26 : Opens Tryz.prog 26 GPermitPlan.rep GPermitPlan.ok := Opens.struct (l := [(22, 0), (23, 1), (24, 2), (3, 3)]) (by kernel_rfl) (by kernel_rfl) (.cons (by kernel_rfl) op22 (.cons (by kernel_rfl) op23 (.cons (by kernel_rfl) op24 (.cons (by kernel_rfl) UH .nil))))
end Go.KB
