/- Plain laws of the survey package's small functions. No condition. -/
import Derived.Test.YtmhjgjflmemjmaaPZa
import Derived.Test.YtmhjgjflmemjmaaGPure
namespace Go.KB
set_option linter.unusedVariables false

theorem indexFunc_eq {N : Nat} {l : List Int} {φ : Int → Option Bool} {p : Int → Bool} (hφ : ∀ x, φ x = some (p x)) (hl : l.length < 9223372036854775807) (hN : l.length < N) :
    f_slices_IndexFunclint_int N l φ = some (match l.findIdx? p with | some i => (i : Int) | none => -1) := by
  unfold f_slices_IndexFunclint_int
  rw [loopN_range l.length (match l.findIdx? p with | some i => .inr (i : Int) | none => .inl ()) (fun i => ∀ j (h : j < l.length), j < i → p l[j] = false) ?_ ?_ (fun j _ h => absurd h (Nat.not_lt_zero _)) N hN]
  · cases l.findIdx? p <;> rfl
  · intro i hi hp
    unfold f_slices_IndexFunclint_int_L1
    simp only [cmp_lss, idx_nat hi, hφ, bS, w64s (show i < 9223372036854775807 by omega)]
    rw [show decide ((i : Int) < (l.length : Int)) = true by simp; omega, cnT]
    cases hpi : p l[i] with
    | true =>
      refine .inr ?_
      rw [List.findIdx?_eq_some_iff_getElem.2 ⟨hi, hpi, fun j hj => by simp [hp j (by omega) hj]⟩]
      rfl
    | false =>
      refine .inl ⟨rfl, fun j hj hji => ?_⟩
      rcases Nat.lt_succ_iff_lt_or_eq.1 hji with h | rfl
      · exact hp j hj h
      · exact hpi
  · intro hp
    unfold f_slices_IndexFunclint_int_L1
    rw [show cmpI .lss ((l.length : Nat) : Int) (l.length : Int) = false by simp, cnF]
    have : l.findIdx? p = none := by
      rw [List.findIdx?_eq_none_iff]
      intro x hx
      obtain ⟨j, hj, rfl⟩ := List.getElem_of_mem hx
      exact hp j hj hj
    rw [this]

theorem inside_eq {N : Nat} {lo hi : Int} {l : List Int} (hl : l.length < 9223372036854775807) (hN : l.length < N) : f_survey_inside N lo hi l = some (l.all (inR lo hi)) := by
  unfold f_survey_inside f_slices_ContainsFunclint_int
  rw [indexFunc_eq (p := fun n => !inR lo hi n) (fun x => by unfold f_survey_inside_1 inR; simp; rcases Int.lt_or_le x lo with h | h <;> rcases Int.lt_or_le hi x with h' | h' <;> simp [*] <;> omega) hl hN]
  simp only [bS, cmp_geq]
  congr 1
  cases hf : l.findIdx? (fun n => !inR lo hi n) with
  | none =>
    rw [List.findIdx?_eq_none_iff] at hf
    simp only [show decide ((0 : Int) ≤ -1) = false by decide, Bool.not_false]
    symm
    rw [List.all_eq_true]
    intro x hx
    have := hf x hx
    simpa using this
  | some i =>
    rw [List.findIdx?_eq_some_iff_getElem] at hf
    obtain ⟨hi, hp, _⟩ := hf
    rw [show decide ((0 : Int) ≤ (i : Int)) = true by simp, Bool.not_true]
    symm
    rw [Bool.eq_false_iff, Ne, List.all_eq_true]
    intro h
    have := h _ (List.getElem_mem hi)
    simp [this] at hp

theorem letter_eq {N : Nat} {c : UInt8} : f_survey_letter N ((UInt8.toNat c : Nat) : Int) = some (isLetter c) := rfl
theorem name_eq {N : Nat} {s : Str} (hN : 13 ≤ N) : f_survey_name N s = some (isName s) := by
  unfold f_survey_name
  by_cases hlen : s.length < 1 ∨ 12 < s.length
  · have hc : (cmpI .lss (s.length : Int) 1 || cmpI .gtr (s.length : Int) 12) = true := by
      simp; omega
    rw [hc]
    simp only [Bool.not_true, cnF, bS, Bool.true_or, cnT]
    congr 1
    unfold isName
    rcases hlen with h | h
    · have : s = [] := List.eq_nil_of_length_eq_zero (by omega)
      subst this; rfl
    · cases s with
      | nil => rfl
      | cons c r => simp at h; simp; intro h'; omega
  · have hc : (cmpI .lss (s.length : Int) 1 || cmpI .gtr (s.length : Int) 12) = false := by
      rw [Bool.or_eq_false_iff]; simp; omega
    rw [hc]
    have h0 : 0 < s.length := by omega
    have hi := idx_nat h0
    rw [show ((0 : Nat) : Int) = 0 from rfl] at hi
    simp only [Bool.not_false, cnT, hi, bS, letter_eq, Bool.false_or]
    cases s with
    | nil => simp at h0
    | cons c r =>
      simp only [List.getElem_cons_zero]
      have hr : r.length < 12 := by simp at hlen; omega
      cases hL : isLetter c with
      | false => simp [isName, hL]
      | true =>
        rw [Bool.not_true, cnF]
        rw [loopN_range (c :: r).length (if (c :: r).all isNameChar then .inl () else .inr false) (fun i => ∀ j (h : j < (c :: r).length), j < i → isNameChar (c :: r)[j] = true) ?_ ?_ (fun j _ h => absurd h (Nat.not_lt_zero _)) N (by simp; omega)]
        · simp only [isName, hr, hL, decide_true, Bool.true_and, List.all_cons, isNameChar, Bool.true_or]
          cases r.all isNameChar <;> rfl
        · intro i hi hp
          unfold f_survey_name_L1
          simp only [idx_nat hi, bS, letter_eq, w64s (show i < 9223372036854775807 by simp at hi; omega)]
          rw [show cmpI .lss (i : Int) ((c :: r).length : Int) = true by simp only [cmp_lss, decide_eq_true_eq]; omega, cnT]
          have hneg : (((!isLetter (c :: r)[i]) && (cmpI .neq ((UInt8.toNat (c :: r)[i] : Nat) : Int) 45)) && ((cmpI .lss ((UInt8.toNat (c :: r)[i] : Nat) : Int) 48) || (cmpI .gtr ((UInt8.toNat (c :: r)[i] : Nat) : Int) 57))) = !isNameChar (c :: r)[i] := by
            unfold isNameChar chr
            simp only [cmp_neq, cmp_lss, cmp_gtr, Bool.not_or, Bool.not_and]
            congr 1
            rw [← decide_not, ← decide_not]
            simp only [Int.not_le]
          rw [hneg]
          cases hp2 : isNameChar (c :: r)[i] with
          | true =>
            refine .inl ⟨rfl, fun j hj hji => ?_⟩
            rcases Nat.lt_succ_iff_lt_or_eq.1 hji with h | rfl
            · exact hp j hj h
            · exact hp2
          | false =>
            refine .inr ?_
            rw [if_neg]
            · rfl
            · rw [List.all_eq_true]; intro h
              have := h _ (List.getElem_mem hi)
              rw [hp2] at this; cases this
        · intro hp
          unfold f_survey_name_L1
          rw [show cmpI .lss (((c :: r).length : Nat) : Int) ((c :: r).length : Int) = false by simp, cnF, if_pos]
          rw [List.all_eq_true]
          intro x hx
          obtain ⟨j, hj, rfl⟩ := List.getElem_of_mem hx
          exact hp j hj hj
end Go.KB
