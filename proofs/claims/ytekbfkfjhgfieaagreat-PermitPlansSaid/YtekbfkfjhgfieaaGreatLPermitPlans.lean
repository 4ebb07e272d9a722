/- The plain law of PermitPlans. No condition. -/
import Derived.Test.YtekbfkfjhgfieaaGreatPZl
import Derived.Test.YtekbfkfjhgfieaaGreatPAwk
namespace Go.KB
set_option linter.unusedVariables false
set_option maxRecDepth 100000
def std7 : List GExclusion := [(⟨0, 2, 1⟩ : GExclusion), (⟨3, 0, 1⟩ : GExclusion), (⟨3, 1, 1⟩ : GExclusion), (⟨3, 2, 1⟩ : GExclusion), (⟨3, 3, 1⟩ : GExclusion), (⟨4, 4, 0⟩ : GExclusion)]
theorem std_loop : loopN (f_law07_PermitPlans_L1 (2 ^ 70) std7 std7) (2 ^ 70) 0 = some (.inl ()) := by kernel_rfl
theorem std_err (p : GPermitPlan) : firstErr (eEx ({ p with Exclusions := std7 } : GPermitPlan)) 6 0 = 0 := by
  simp [firstErr, eEx, okKind, std7]
theorem law_PermitPlans (x0 : GPermitPlan) (h0 : x0.ok) : f_law07_PermitPlans (2 ^ 70) x0 = some true := by
  unfold f_law07_PermitPlans
  have hN : 1000000 ≤ 2 ^ 70 := by decide
  rcases great_eq x0 hN with hg | ⟨hg, hp, _⟩
  · rw [hg, bS, cond_true, awake_true]; rfl
  · have hs : ∀ l : List GExclusion, l.length < 1000 → SmP ({ x0 with Exclusions := l } : GPermitPlan) := fun l hl => ⟨hp.s, hl, hp.m, hp.n, hp.l⟩
    have h1 : f_permit_Standard (2 ^ 70) = some std7 := rfl
    have h2 : f_ref07_Standard (2 ^ 70) = some std7 := rfl
    have h3 : cmpI .neq (List.length std7 : Int) (List.length std7 : Int) = false := rfl
    have h4 : ∀ c : Int, cmpI .neq c c = false := fun c => by rw [cmp_neq, dT rfl]; rfl
    rw [hg, bS, cond_false, h1, h2, bS, bS, h3, Bool.not_false, cond_true, cond_true, CheckPlan_eq hp hN, rCheckPlan_eq hp hN, bS, bS, h4, Bool.false_or, cond_false, std_loop, bS]
    show ((f_permit_CheckPlan (2 ^ 70) ({ x0 with Exclusions := [] } : GPermitPlan)).bind fun v16 => (f_permit_CheckPlan (2 ^ 70) ({ x0 with Exclusions := std7 } : GPermitPlan)).bind fun v17 => (bif (cmpI .eql v16 v17) then (f_law07_awake (2 ^ 70)) else some false).bind fun v18 => some ((cmpI .eql v16 v17) && v18)) = some true
    rw [CheckPlan_eq (hs [] (by decide)) hN, CheckPlan_eq (hs std7 (by decide)) hN, bS, bS]
    have he : checkPlan ({ x0 with Exclusions := [] } : GPermitPlan) = checkPlan ({ x0 with Exclusions := std7 } : GPermitPlan) := by
      unfold checkPlan
      rw [show firstErr (eEx ({ x0 with Exclusions := std7 } : GPermitPlan)) ({ x0 with Exclusions := std7 } : GPermitPlan).Exclusions.length 0 = 0 from std_err x0]
      have hb : (30 < x0.Spaces.length ∨ 30 < ([] : List GExclusion).length ∨ 20 < x0.Permits.length) = (30 < x0.Spaces.length ∨ 30 < std7.length ∨ 20 < x0.Permits.length) := by
        rw [show std7.length = 6 from rfl]; simp
      simp only [hb]
      rfl
    rw [he, cmp_eql, dT rfl, cond_true, awake_true]
    rfl
end Go.KB
