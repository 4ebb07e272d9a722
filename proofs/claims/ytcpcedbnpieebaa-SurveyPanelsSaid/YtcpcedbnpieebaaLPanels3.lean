/- Plain laws: grades of panels. No condition. -/
import Derived.Test.YtcpcedbnpieebaaLPanels2
namespace Go.KB
set_option linter.unusedVariables false
def gradeOf (p : GPanel) (r : GRule) (t : Int) : Int :=
  bif (cmpI .eql t 0) then 0 else (bif (cmpI .geq (IntKind.i64.wrap (1000 * (max (IntKind.i64.wrap (p.Built - t)) 0))) (IntKind.i64.wrap (r.Renew * p.Built))) then 3 else (bif (cmpI .geq (IntKind.i64.wrap (1000 * (max (IntKind.i64.wrap (p.Built - t)) 0))) (IntKind.i64.wrap (r.Substantial * p.Built))) then 2 else 1))
def ruleErr (r : GRule) : Int := bif (((cmpI .lss r.Substantial 0) || (cmpI .gtr r.Substantial r.Renew)) || (cmpI .gtr r.Renew 1000)) then 2 else 0
theorem grade_eq {N : Nat} {p : GPanel} {r : GRule} {t : Int} : f_survey_grade N p r t = some (gradeOf p r t) := by
  unfold f_survey_grade f_survey_worn gradeOf
  cases cmpI .eql t 0 with
  | true => rfl
  | false => simp only [cond_false, Option.bind_some, bif_some]
theorem checkRule_eq {N : Nat} {r : GRule} : f_survey_checkRule N r = some (ruleErr r) := by unfold f_survey_checkRule ruleErr; rw [bif_some]
theorem refCheckRule_eq {N : Nat} {r : GRule} : f_ref09_CheckRule N r = some (ruleErr r) := by unfold f_ref09_CheckRule ruleErr; rw [bif_some]
theorem Grade_eq {N : Nat} {p : GPanel} {r : GRule} (h : p.Readings.length < 9223372036854775807) (hN : 2 ^ 64 ≤ N) : f_survey_Grade N p r = some (if panelErr p = 0 then (if ruleErr r = 0 then (p.Readings.map (gradeOf p r), 0) else ([], ruleErr r)) else ([], panelErr p)) := by
  unfold f_survey_Grade
  rw [CheckPanel_eq h hN, Option.bind_some, cmp_neq, checkRule_eq]
  by_cases he : panelErr p = 0
  · rw [show (!decide (panelErr p = 0)) = false by simp [he], cond_false, if_pos he, Option.bind_some, cmp_neq]
    by_cases hr : ruleErr r = 0
    · rw [show (!decide (ruleErr r = 0)) = false by simp [hr], cond_false, if_pos hr]
      obtain ⟨b1, b2, hlen, hall⟩ := panelErr_zero he
      have := loopN_fold (f := f_survey_Grade_L1 N p r) p.Readings.length (fun i => (p.Readings.take i).map (gradeOf p r)) (p.Readings.map (gradeOf p r)) (by
        intro i hi
        unfold f_survey_Grade_L1
        simp only []
        rw [cmp_lss, show decide ((i : Int) < (p.Readings.length : Int)) = true by rw [decide_eq_true_eq]; omega, cond_true, idx_nat hi, Option.bind_some, grade_eq, Option.bind_some, app_ok (by simp; unfold lim; omega), Option.bind_some, w64s (by omega), take_one hi, List.map_append]
        rfl) (by
        unfold f_survey_Grade_L1
        simp) N (by omega)
      simp only [List.take_zero, List.map_nil] at this
      rw [this]; rfl
    · rw [show (!decide (ruleErr r = 0)) = true by simp [hr], cond_true, if_neg hr]
  · rw [show (!decide (panelErr p = 0)) = true by simp [he], cond_true, if_neg he]
theorem refGrade_eq {N : Nat} {p : GPanel} {r : GRule} (he : panelErr p = 0) (hN : 2 ^ 64 ≤ N) : f_ref09_Grade N p r = some (p.Readings.map (gradeOf p r)) := by
  unfold f_ref09_Grade
  obtain ⟨b1, b2, hlen, hall⟩ := panelErr_zero he
  have := loopN_fold (f := f_ref09_Grade_L1 N p r) p.Readings.length (fun i => (p.Readings.take i).map (gradeOf p r)) (p.Readings.map (gradeOf p r)) (by
    intro i hi
    have happ : ∀ x : Int, app ((p.Readings.take i).map (gradeOf p r)) [x] = some ((p.Readings.take i).map (gradeOf p r) ++ [x]) := fun x => app_ok (by simp; unfold lim; omega)
    unfold f_ref09_Grade_L1
    simp only []
    rw [cmp_lss, show decide ((i : Int) < (p.Readings.length : Int)) = true by rw [decide_eq_true_eq]; omega, cond_true, idx_nat hi, Option.bind_some, Option.bind_some, w64s (by omega), take_one hi, List.map_append]
    simp only [happ, Option.bind_some, List.map_cons, List.map_nil, gradeOf]
    cases cmpI .eql p.Readings[i] 0 <;> cases cmpI .geq (IntKind.i64.wrap (1000 * (max (IntKind.i64.wrap (p.Built - p.Readings[i])) 0))) (IntKind.i64.wrap (r.Renew * p.Built)) <;> cases cmpI .geq (IntKind.i64.wrap (1000 * (max (IntKind.i64.wrap (p.Built - p.Readings[i])) 0))) (IntKind.i64.wrap (r.Substantial * p.Built)) <;> rfl) (by
    unfold f_ref09_Grade_L1
    simp) N (by omega)
  simp only [List.take_zero, List.map_nil] at this
  rw [this]; rfl
end Go.KB
