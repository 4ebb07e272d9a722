/- Plain laws: wastages of panels. No condition. -/
import Derived.Test.YtcpcedbnpieebaaLPanels0
namespace Go.KB
set_option linter.unusedVariables false
theorem panelErr_zero {p : GPanel} (h : panelErr p = 0) : 100 ≤ p.Built ∧ p.Built ≤ 20000 ∧ p.Readings.length ≤ 400 ∧ ∀ x ∈ p.Readings, 0 ≤ x ∧ x ≤ 20000 := by
  unfold panelErr at h
  cases h1 : (!isName p.Name) with
  | true => rw [h1] at h; cases h
  | false =>
    rw [h1, cond_false] at h
    cases h2 : (((cmpI .lss p.Rows 1) || (cmpI .lss p.Cols 1)) || (!inR 100 20000 p.Built)) with
    | true => rw [h2] at h; cases h
    | false =>
      rw [h2, cond_false] at h
      cases h3 : (((cmpI .gtr p.Rows 400) || (cmpI .gtr p.Cols 400)) || (cmpI .gtr (IntKind.i64.wrap (p.Rows * p.Cols)) 400)) with
      | true => rw [h3] at h; cases h
      | false =>
        rw [h3, cond_false] at h
        cases h4 : (cmpI .neq (List.length p.Readings : Int) (IntKind.i64.wrap (p.Rows * p.Cols))) with
        | true => rw [h4] at h; cases h
        | false =>
          rw [h4, cond_false] at h
          cases h5 : (!p.Readings.all (inR 0 20000)) with
          | true => rw [h5] at h; cases h
          | false =>
            simp only [Bool.or_eq_false_iff, Bool.not_eq_false', inR, Bool.and_eq_true, decide_eq_true_eq, cmp_gtr, decide_eq_false_iff_not, cmp_neq, List.all_eq_true] at h2 h3 h4 h5
            refine ⟨h2.2.1, h2.2.2, by omega, fun x hx => h5 x hx⟩
def wornN (p : GPanel) (t : Int) : Nat := if t = 0 then 0 else (p.Built - t).toNat
def wasted (p : GPanel) (t : Int) : GRat := qrat false (wornN p t) p.Built.toNat
theorem worn_eq {N : Nat} {p : GPanel} {t : Int} (hB : 100 ≤ p.Built ∧ p.Built ≤ 20000) (ht : 0 ≤ t ∧ t ≤ 20000) : f_survey_worn N p t = some ((wornN p t : Nat) : Int) := by
  unfold f_survey_worn wornN
  rw [cmp_eql]
  by_cases h : t = 0
  · simp [h]
  · rw [show decide (t = 0) = false by simp [h], cond_false, if_neg h, w64 (by omega) (by omega)]
    congr 1; omega
theorem wornN_le {p : GPanel} {t : Int} (hB : 100 ≤ p.Built ∧ p.Built ≤ 20000) (ht : 0 ≤ t ∧ t ≤ 20000) : wornN p t ≤ 20000 := by
  unfold wornN; split <;> omega
theorem wastage_eq {N : Nat} {p : GPanel} (h : p.Readings.length < 9223372036854775807) (hN : 2 ^ 64 ≤ N) : f_survey_Wastage N p = some (if panelErr p = 0 then (p.Readings.map (wasted p), 0) else ([], panelErr p)) := by
  unfold f_survey_Wastage
  rw [CheckPanel_eq h hN, Option.bind_some, cmp_neq]
  by_cases he : panelErr p = 0
  · rw [show (!decide (panelErr p = 0)) = false by simp [he], cond_false, if_pos he]
    obtain ⟨b1, b2, hlen, hall⟩ := panelErr_zero he
    have := loopN_fold (f := f_survey_Wastage_L1 N p) p.Readings.length (fun i => (p.Readings.take i).map (wasted p)) (p.Readings.map (wasted p)) (by
      intro i hi
      have ht := hall _ (List.getElem_mem hi)
      have hw := wornN_le (p := p) ⟨b1, b2⟩ ht
      unfold f_survey_Wastage_L1
      simp only []
      rw [cmp_lss, show decide ((i : Int) < (p.Readings.length : Int)) = true by rw [decide_eq_true_eq]; omega, cond_true, idx_nat hi, Option.bind_some, worn_eq ⟨b1, b2⟩ ht, Option.bind_some]
      rw [show p.Built = ((p.Built.toNat : Nat) : Int) by omega, ratio_small (by omega) (by omega) (by omega) hN, Option.bind_some, app_ok (by simp; unfold lim; omega), Option.bind_some, w64s (by omega)]
      have ht1 : p.Readings.take (i + 1) = p.Readings.take i ++ [p.Readings[i]] := by rw [List.take_add_one, List.getElem?_eq_getElem hi]; rfl
      rw [ht1, List.map_append]; rfl) (by
      unfold f_survey_Wastage_L1
      simp) N (by omega)
    simp only [List.take_zero, List.map_nil] at this
    rw [this]; rfl
  · rw [show (!decide (panelErr p = 0)) = true by simp [he], cond_true, if_neg he]
end Go.KB
