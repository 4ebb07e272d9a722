/- The plain law of PermitNil. No condition. -/
import Derived.Test.YtekbfkfjhgfieaaGreatPAwk
namespace Go.KB
set_option linter.unusedVariables false
set_option maxRecDepth 100000
theorem law_PermitNil (x0 : GEvent) (x1 : Str) (h0 : x0.ok) (h1 : gS x1) : f_law07_PermitNil (2 ^ 70) x0 x1 = some true := by
  have e1 : f_permit_Office_Do (2 ^ 70) none x0 = some ([], 1) := rfl
  have e2 : f_permit_Office_State (2 ^ 70) none x1 = some (0, 1) := rfl
  have e3 : f_permit_Office_Safe (2 ^ 70) none x1 = some (false, false, 1) := rfl
  have e4 : f_permit_Office_Why (2 ^ 70) none x1 = some ([], 1) := rfl
  have e5 : f_permit_Office_Now (2 ^ 70) none = some 0 := rfl
  have e6 : f_permit_Office_Open (2 ^ 70) none = some [] := rfl
  have e7 : f_permit_Office_Inside (2 ^ 70) none x1 = some [] := rfl
  have e8 : f_permit_Office_Overdue (2 ^ 70) none = some [] := rfl
  have e9 : f_permit_Office_Events (2 ^ 70) none = some [] := rfl
  unfold f_law07_PermitNil
  rw [e1, e2, e3, e4, e5, e6, e7, e8, e9, awake_true]; rfl
end Go.KB
