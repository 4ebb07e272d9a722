/- The plain law of SurveyPanels: it returns true for every panel and rule. No condition. -/
import Derived.Test.YtcpcedbnpieebaaLPanels3
namespace Go.KB
set_option linter.unusedVariables false
set_option maxRecDepth 100000
theorem awake_true : f_law09_awake (2 ^ 70) = some true := by kernel_rfl
theorem gint_len {s : Bool} {n : Nat} (h : n < 18446744073709551616) : (gint s n).Limbs.length < 9223372036854775807 := by
  have := w64len h
  show (limbs n).length < _
  omega
theorem wasted_len {p : GPanel} (he : panelErr p = 0) : ∀ x ∈ p.Readings.map (wasted p), x.Num.Limbs.length < 9223372036854775807 ∧ x.Den.Limbs.length < 9223372036854775807 := by
  obtain ⟨b1, b2, hlen, hall⟩ := panelErr_zero he
  intro x hx
  rw [List.mem_map] at hx
  obtain ⟨t, ht, rfl⟩ := hx
  have hw := wornN_le (p := p) ⟨b1, b2⟩ (hall t ht)
  constructor
  · exact gint_len (Nat.lt_of_le_of_lt (Nat.div_le_self _ _) (by omega))
  · exact gint_len (Nat.lt_of_le_of_lt (Nat.div_le_self _ _) (by omega))
theorem law_SurveyPanels (x0 : GPanel) (x1 : GRule) (h0 : x0.ok) (h1 : x1.ok) : f_law09_SurveyPanels (2 ^ 70) x0 x1 = some true := by
  have hN : 2 ^ 64 ≤ (2 ^ 70 : Nat) := by decide
  unfold f_law09_SurveyPanels
  rw [awake_true, Option.bind_some, Bool.not_true, cond_false]
  unfold f_law09_slim
  rw [Option.bind_some]
  cases hs : ((cmpI .leq (List.length x0.Readings : Int) 410) && (cmpI .leq (List.length x0.Name : Int) 50)) with
  | false => rfl
  | true =>
    rw [Bool.not_true, cond_false]
    simp only [cmp_leq, Bool.and_eq_true, decide_eq_true_eq] at hs
    have hl : x0.Readings.length < 9223372036854775807 := by omega
    rw [wastage_eq hl hN, Option.bind_some, Grade_eq hl hN, Option.bind_some, refCheckPanel_eq hl hN, Option.bind_some, CheckPanel_eq hl hN, Option.bind_some]
    unfold f_law09_panelError
    rw [refCheckPanel_eq hl hN, Option.bind_some, refCheckRule_eq]
    by_cases he : panelErr x0 = 0
    · rw [if_pos he, if_pos he, he]
      by_cases hr : ruleErr x1 = 0
      · rw [if_pos hr, hr]
        simp only [cmp_neq, decide_true, Bool.not_true, Bool.or_false, Bool.not_false, cond_true, cond_false, Option.bind_some]
        rw [refWastage_eq he hN, Option.bind_some, SameRats_refl (wasted_len he) (by simpa using hl) hN, Option.bind_some, cond_true, refGrade_eq he hN, Option.bind_some, cond_true, Ints_refl (by simpa using hl) hN]
        rfl
      · rw [if_neg hr]
        simp only [cmp_neq, decide_true, Bool.not_true, Bool.or_false, Bool.not_false, cond_true, cond_false, Option.bind_some, hr, decide_false, cmp_eql, List.length_nil, Int.natCast_zero]
        rw [refWastage_eq he hN, Option.bind_some, SameRats_refl (wasted_len he) (by simpa using hl) hN]
        rfl
    · rw [if_neg he, if_neg he]
      simp only [cmp_neq, decide_true, Bool.not_true, Bool.or_false, Bool.not_false, cond_true, cond_false, Option.bind_some, he, decide_false, cmp_eql, List.length_nil, Int.natCast_zero, Bool.and_self]
end Go.KB
