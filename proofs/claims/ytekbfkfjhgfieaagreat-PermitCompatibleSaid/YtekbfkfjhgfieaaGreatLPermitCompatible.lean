/- The plain law of PermitCompatible. No condition. -/
import Derived.Test.YtekbfkfjhgfieaaGreatPZo
import Derived.Test.YtekbfkfjhgfieaaGreatPAwk
namespace Go.KB
set_option linter.unusedVariables false
theorem law_PermitCompatible (x0 : GPermitPlan) (x1 : List Str) (h0 : x0.ok) (h1 : gL gS x1) : f_law07_PermitCompatible (2 ^ 70) x0 x1 = some true := by
  have hN : 1000000 ≤ 2 ^ 70 := by decide
  unfold f_law07_PermitCompatible
  rcases great_eq x0 hN with hg | ⟨hg, hp, _⟩
  · rw [hg, awake_true]; rfl
  · rw [hg, bS, Bool.false_or, cmp_gtr, awake_true]
    by_cases hl : 30 < x1.length
    · rw [dT (by omega)]; rfl
    · rw [dF (by omega), cond_false, Compatible_eq hp (by omega) hN, rCompatible_eq hp (by omega) hN]
      simp only [bS, cmp_eql, decide_true, beq_self_eq_true, Bool.and_self, cond_true]
end Go.KB
