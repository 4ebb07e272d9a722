/- The plain law of PermitRelations. No condition. -/
import Derived.Test.YtekbfkfjhgfieaaGreatPZo
import Derived.Test.YtekbfkfjhgfieaaGreatPAwk
namespace Go.KB
set_option linter.unusedVariables false
theorem needR_len {p : GPermitPlan} {a : Str} (hp : SmP p) : (NeedR p a).1.length < 1000000 := by
  unfold NeedR
  split
  · show 0 < 1000000; omega
  · cases (!hasP p a) with
    | true => show 0 < 1000000; omega
    | false => exact Nat.lt_trans (need_len (x := atP p a) hp) (by decide)
theorem law_PermitRelations (x0 : GPermitPlan) (x1 x2 : Str) (h0 : x0.ok) (h1 : gS x1) (h2 : gS x2) : f_law07_PermitRelations (2 ^ 70) x0 x1 x2 = some true := by
  unfold f_law07_PermitRelations
  have hN : 1000000 ≤ 2 ^ 70 := by decide
  rcases great_eq x0 hN with hg | ⟨hg, hp, _⟩
  · rw [hg, bS, cond_true, awake_true]; rfl
  · rw [hg, bS, cond_false, Near_eq hp hN, rNear_eq hp hN, Conflict_eq hp hN, rConflict_eq hp hN, Needs_eq hp hN, rNeeds_eq hp hN]
    simp only [bS, cmp_eql, decide_true, beq_self_eq_true, Bool.and_self, cond_true, Texts_self (needR_len hp) hN, awake_true]
end Go.KB
