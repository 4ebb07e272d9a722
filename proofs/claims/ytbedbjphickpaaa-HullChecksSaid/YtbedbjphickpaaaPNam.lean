/- Plain laws: names. No condition. -/
import Derived.Test.YtbedbjphickpaaaPLoop
namespace Go.KB
set_option linter.unusedVariables false
theorem IsName_eq {N : Nat} {s : Str} (hN : 13 ≤ N) : f_base_IsName N s = some (isName s) := by
  unfold f_base_IsName
  by_cases hlen : s.length < 1 ∨ 12 < s.length
  · have hc : (cmpI .lss (s.length : Int) 1 || cmpI .gtr (s.length : Int) 12) = true := by
      simp; omega
    rw [hc, cond_true]
    congr 1
    unfold isName
    rcases hlen with h | h
    · have : s = [] := List.eq_nil_of_length_eq_zero (by omega)
      subst this; rfl
    · cases s with
      | nil => rfl
      | cons c r => simp at h; simp; intro h'; omega
  · have hc : (cmpI .lss (s.length : Int) 1 || cmpI .gtr (s.length : Int) 12) = false := by
      rw [Bool.or_eq_false_iff]; simp; omega
    rw [hc, cond_false]
    cases s with
    | nil => simp at hlen
    | cons c r =>
      have hr : r.length < 12 := by simp at hlen; omega
      have hbad : ∀ i (hi : i < (c :: r).length), ((!(((cmpI .geq ((UInt8.toNat (c :: r)[i] : Nat) : Int) 97) && (cmpI .leq ((UInt8.toNat (c :: r)[i] : Nat) : Int) 122)) || ((cmpI .geq ((UInt8.toNat (c :: r)[i] : Nat) : Int) 65) && (cmpI .leq ((UInt8.toNat (c :: r)[i] : Nat) : Int) 90)))) && ((cmpI .eql (i : Int) 0) || ((cmpI .neq ((UInt8.toNat (c :: r)[i] : Nat) : Int) 45) && ((cmpI .lss ((UInt8.toNat (c :: r)[i] : Nat) : Int) 48) || (cmpI .gtr ((UInt8.toNat (c :: r)[i] : Nat) : Int) 57))))) =
          !(if i = 0 then isLetter (c :: r)[i] else isNameChar (c :: r)[i]) := by
        intro i hi
        split
        · rename_i h0; subst h0
          simp only [cmp_eql, Int.natCast_zero, decide_true, Bool.true_or, Bool.and_true]
          rfl
        · rename_i h0
          rw [cmp_eql, show decide ((i : Int) = 0) = false by rw [decide_eq_false_iff_not]; omega, Bool.false_or]
          unfold isNameChar isLetter chr
          simp only [cmp_neq, cmp_lss, cmp_gtr, cmp_geq, cmp_leq]
          generalize ((UInt8.toNat (c :: r)[i] : Nat) : Int) = x
          rw [Bool.eq_iff_iff]
          simp only [Bool.and_eq_true, Bool.or_eq_true, Bool.not_eq_true', Bool.or_eq_false_iff, Bool.and_eq_false_iff, decide_eq_true_eq, decide_eq_false_iff_not]
          omega
      rw [loopN_range (c :: r).length (if isName (c :: r) then .inl () else .inr false) (fun i => ∀ j (h : j < (c :: r).length), j < i → (if j = 0 then isLetter (c :: r)[j] else isNameChar (c :: r)[j]) = true) ?_ ?_ (fun j _ h => absurd h (Nat.not_lt_zero _)) N (by simp; omega)]
      · cases isName (c :: r) <;> rfl
      · intro i hi hp
        unfold f_base_IsName_L1
        rw [cmp_lss, show decide ((i : Int) < ((c :: r).length : Int)) = true by rw [decide_eq_true_eq]; omega, cond_true, idx_nat hi, Option.bind_some, hbad i hi, w64s (show i < 9223372036854775807 by simp at hi; omega)]
        cases hg : (if i = 0 then isLetter (c :: r)[i] else isNameChar (c :: r)[i]) with
        | true =>
          refine .inl ⟨rfl, fun j hj hji => ?_⟩
          rcases Nat.lt_succ_iff_lt_or_eq.1 hji with h | rfl
          · exact hp j hj h
          · exact hg
        | false =>
          refine .inr ?_
          have : isName (c :: r) = false := by
            rw [Bool.eq_false_iff]
            intro h
            simp only [isName, Bool.and_eq_true, decide_eq_true_eq] at h
            obtain ⟨⟨_, h1⟩, h2⟩ := h
            rw [List.all_eq_true] at h2
            cases i with
            | zero => simp [h1] at hg
            | succ i =>
              simp at hg
              have := h2 _ (List.getElem_mem (by simpa using hi : i < r.length))
              rw [this] at hg; cases hg
          rw [this]; rfl
      · intro hp
        unfold f_base_IsName_L1
        rw [cmp_lss, show decide ((((c :: r).length : Nat) : Int) < ((c :: r).length : Int)) = false by simp, cond_false]
        have : isName (c :: r) = true := by
          simp only [isName, Bool.and_eq_true, decide_eq_true_eq]
          refine ⟨⟨hr, (by have h := hp 0 (by simp) (by simp); rw [if_pos rfl] at h; exact h)⟩, ?_⟩
          rw [List.all_eq_true]
          intro x hx
          obtain ⟨j, hj, rfl⟩ := List.getElem_of_mem hx
          have := hp (j + 1) (by simp; omega) (by simp; omega)
          simpa using this
        rw [this]; rfl
end Go.KB
