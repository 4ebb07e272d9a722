/- Plain laws: fractions of small numbers. No condition. -/
import Derived.Test.YtcpcedbnpieebaaPExact3
namespace Go.KB
set_option linter.unusedVariables false
def qrat (neg : Bool) (a b : Nat) : GRat := ⟨gint neg (a / Nat.gcd a b), gint false (b / Nat.gcd a b)⟩
theorem gint_limbs {neg : Bool} {n : Nat} : (gint neg n).Limbs = limbs n := rfl
theorem w64len {n : Nat} (h : n < 18446744073709551616) : (limbs n).length ≤ 4 := limbs_len (by omega)
theorem fraction_small {N a b : Nat} {s t : Bool} (ha : a < 18446744073709551616) (hb : b < 18446744073709551616) (hb0 : b ≠ 0) (hg : Nat.gcd a b < 65536) (hN : 2 ^ 64 ≤ N) (ht : (gint t b).Neg = t) (hs : a ≠ 0 ∨ s = false) :
    f_exact_fraction N (gint s a) (gint t b) = some (qrat (s != t) a b) := by
  have ha4 := w64len ha
  have hb4 := w64len hb
  have hg0 : Nat.gcd a b ≠ 0 := fun e => hb0 (Nat.eq_zero_of_gcd_eq_zero_right e)
  have hs' : (gint s a).Neg = s := by
    rcases hs with h | h
    · simp [gint, h]
    · subst h; rfl
  have hda : a / Nat.gcd a b < 18446744073709551616 := Nat.lt_of_le_of_lt (Nat.div_le_self _ _) ha
  have hdb : b / Nat.gcd a b < 18446744073709551616 := Nat.lt_of_le_of_lt (Nat.div_le_self _ _) hb
  unfold f_exact_fraction
  simp only [gint_limbs]
  rw [trim_limbs (by omega) (by omega), Option.bind_some, trim_limbs (by omega) (by omega), Option.bind_some, common_eq ha hb hN, Option.bind_some, limbs_one hg0 hg]
  rw [show cmpI .neq (([((Nat.gcd a b : Nat) : Int)].length : Nat) : Int) 1 = false from rfl, Bool.not_false, cond_true, show idx [((Nat.gcd a b : Nat) : Int)] 0 = some ((Nat.gcd a b : Nat) : Int) from rfl, Option.bind_some, Bool.false_or, cmp_neq, hs', ht]
  have hsgn : (!(s == t)) = (s != t) := rfl
  by_cases h1 : Nat.gcd a b = 1
  · rw [show (!decide (((Nat.gcd a b : Nat) : Int) = 1)) = false by simp [h1], cond_false, signed_eq (by unfold lim; omega) (by omega), Option.bind_some, signed_eq (by unfold lim; omega) (by omega), Option.bind_some]
    unfold qrat
    rw [h1, Nat.div_one, Nat.div_one, hsgn]
  · rw [show (!decide (((Nat.gcd a b : Nat) : Int) = 1)) = true by simp; omega, cond_true, ← limbs_one hg0 hg, divide_one hg0 hg (by omega) hN, Option.bind_some, divide_one hg0 hg (by omega) hN, Option.bind_some]
    rw [signed_eq (by have := w64len hda; unfold lim; omega) (by have := w64len hda; omega), Option.bind_some, signed_eq (by have := w64len hdb; unfold lim; omega) (by have := w64len hdb; omega), Option.bind_some]
    rfl
theorem ratio_small {N a b : Nat} (ha : a < 9223372036854775808) (hb0 : b ≠ 0) (hb : b < 65536) (hN : 2 ^ 64 ≤ N) : f_survey_ratio N (a : Int) (b : Int) = some (qrat false a b) := by
  unfold f_survey_ratio f_exact_Ratio
  have hg : Nat.gcd a b ≤ b := Nat.gcd_le_right a (by omega)
  rw [cmp_eql, show decide ((b : Int) = 0) = false by rw [decide_eq_false_iff_not]; omega, cond_false, Of_eq ha hN, Option.bind_some, Of_eq (by omega) hN, Option.bind_some, fraction_small (by omega) (by omega) hb0 (by omega) hN rfl (.inr rfl)]
  rfl
end Go.KB
