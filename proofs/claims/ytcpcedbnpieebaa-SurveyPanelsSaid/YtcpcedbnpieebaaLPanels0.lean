/- Plain laws: panels. No condition. -/
import Derived.Test.YtcpcedbnpieebaaPRef2
namespace Go.KB
set_option linter.unusedVariables false
def panelErr (p : GPanel) : Int :=
  bif (!isName p.Name) then 4 else (bif (((cmpI .lss p.Rows 1) || (cmpI .lss p.Cols 1)) || (!inR 100 20000 p.Built)) then 2 else (bif (((cmpI .gtr p.Rows 400) || (cmpI .gtr p.Cols 400)) || (cmpI .gtr (IntKind.i64.wrap (p.Rows * p.Cols)) 400)) then 8 else (bif (cmpI .neq (List.length p.Readings : Int) (IntKind.i64.wrap (p.Rows * p.Cols))) then 11 else (bif (!p.Readings.all (inR 0 20000)) then 2 else 0))))
theorem bif_some {α : Type} {b : Bool} {x y : α} : (bif b then some x else some y) = some (bif b then x else y) := by cases b <;> rfl
theorem CheckPanel_eq {N : Nat} {p : GPanel} (h : p.Readings.length < 9223372036854775807) (hN : 2 ^ 64 ≤ N) : f_survey_CheckPanel N p = some (panelErr p) := by
  unfold f_survey_CheckPanel
  rw [name_eq (by omega), Option.bind_some, inside_eq (by simp) (by simp; omega), inside_eq h (by omega)]
  unfold panelErr
  cases isName p.Name with
  | false => rfl
  | true =>
    simp only [Bool.not_true, cond_false, List.all_cons, List.all_nil, Bool.and_true]
    cases (cmpI .lss p.Rows 1 || cmpI .lss p.Cols 1) with
    | true => rfl
    | false =>
      simp only [Bool.not_false, cond_true, Option.bind_some, bif_some]
theorem within_eq {N : Nat} {x lo hi : Int} : f_ref09_within N x lo hi = some (inR lo hi x) := rfl
theorem refCheckPanel_eq {N : Nat} {p : GPanel} (h : p.Readings.length < 9223372036854775807) (hN : 2 ^ 64 ≤ N) : f_ref09_CheckPanel N p = some (panelErr p) := by
  unfold f_ref09_CheckPanel
  have hloop : loopN (f_ref09_CheckPanel_L1 N p) N 0 = some (if p.Readings.all (inR 0 20000) then .inl () else .inr 2) := by
    refine loopN_range p.Readings.length _ (fun i => ∀ j (h : j < p.Readings.length), j < i → inR 0 20000 p.Readings[j] = true) ?_ ?_ (fun j _ h => absurd h (Nat.not_lt_zero _)) N (by omega)
    · intro i hi hp
      unfold f_ref09_CheckPanel_L1
      rw [cmp_lss, show decide ((i : Int) < (p.Readings.length : Int)) = true by rw [decide_eq_true_eq]; omega, cond_true, idx_nat hi, Option.bind_some, within_eq, Option.bind_some, w64s (by omega)]
      cases hg : inR 0 20000 p.Readings[i] with
      | true =>
        refine .inl ⟨rfl, fun j hj hji => ?_⟩
        rcases Nat.lt_succ_iff_lt_or_eq.1 hji with h | rfl
        · exact hp j hj h
        · exact hg
      | false =>
        refine .inr ?_
        rw [if_neg]
        · rfl
        · rw [List.all_eq_true]; intro h
          rw [h _ (List.getElem_mem hi)] at hg; cases hg
    · intro hp
      unfold f_ref09_CheckPanel_L1
      rw [cmp_lss, show decide (((p.Readings.length : Nat) : Int) < (p.Readings.length : Int)) = false by simp, cond_false, if_pos]
      rw [List.all_eq_true]
      intro x hx
      obtain ⟨j, hj, rfl⟩ := List.getElem_of_mem hx
      exact hp j hj hj
  rw [IsName_eq (by omega), Option.bind_some, hloop]
  unfold panelErr
  cases isName p.Name with
  | false => rfl
  | true =>
    simp only [Bool.not_true, cond_false, within_eq]
    cases (cmpI .lss p.Rows 1 || cmpI .lss p.Cols 1) with
    | true => rfl
    | false =>
      simp only [Bool.not_false, cond_true, Option.bind_some]
      cases p.Readings.all (inR 0 20000) <;> simp only [bif_some, if_true, Bool.false_eq_true, if_false, Sum.elim_inl, Sum.elim_inr, Option.bind_some, Bool.not_true, Bool.not_false, cond_true, cond_false]
end Go.KB
