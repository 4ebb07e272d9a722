/- Plain laws: names, panels and rules. No condition. -/
import Derived.Test.YtcpcedbnpieebaaPLoop
namespace Go.KB
set_option linter.unusedVariables false
theorem IsName_eq {N : Nat} {s : Str} (hN : 13 ≤ N) : f_base_IsName N s = some (isName s) := by
  unfold f_base_IsName
  by_cases hlen : s.length < 1 ∨ 12 < s.length
  · have hc : (cmpI .lss (s.length : Int) 1 || cmpI .gtr (s.length : Int) 12) = true := by
      simp; omega
    rw [hc, cond_true]
    congr 1
    unfold isName
    rcases hlen with h | h
    · have : s = [] := List.eq_nil_of_length_eq_zero (by omega)
      subst this; rfl
    · cases s with
      | nil => rfl
      | cons c r => simp at h; simp; intro h'; omega
  · have hc : (cmpI .lss (s.length : Int) 1 || cmpI .gtr (s.length : Int) 12) = false := by
      rw [Bool.or_eq_false_iff]; simp; omega
    rw [hc, cond_false]
    cases s with
    | nil => simp at hlen
    | cons c r =>
      have hr : r.length < 12 := by simp at hlen; omega
      have hbad : ∀ i (hi : i < (c :: r).length), ((!(((cmpI .geq ((UInt8.toNat (c :: r)[i] : Nat) : Int) 97) && (cmpI .leq ((UInt8.toNat (c :: r)[i] : Nat) : Int) 122)) || ((cmpI .geq ((UInt8.toNat (c :: r)[i] : Nat) : Int) 65) && (cmpI .leq ((UInt8.toNat (c :: r)[i] : Nat) : Int) 90)))) && ((cmpI .eql (i : Int) 0) || ((cmpI .neq ((UInt8.toNat (c :: r)[i] : Nat) : Int) 45) && ((cmpI .lss ((UInt8.toNat (c :: r)[i] : Nat) : Int) 48) || (cmpI .gtr ((UInt8.toNat (c :: r)[i] : Nat) : Int) 57))))) =
          !(if i = 0 then isLetter (c :: r)[i] else isNameChar (c :: r)[i]) := by
        intro i hi
        split
        · rename_i h0; subst h0
          simp only [cmp_eql, Int.natCast_zero, decide_true, Bool.true_or, Bool.and_true]
          rfl
        · rename_i h0
          rw [cmp_eql, show decide ((i : Int) = 0) = false by rw [decide_eq_false_iff_not]; omega, Bool.false_or]
          unfold isNameChar isLetter chr
          simp only [cmp_neq, cmp_lss, cmp_gtr, cmp_geq, cmp_leq]
          generalize ((UInt8.toNat (c :: r)[i] : Nat) : Int) = x
          rw [Bool.eq_iff_iff]
          simp only [Bool.and_eq_true, Bool.or_eq_true, Bool.not_eq_true', Bool.or_eq_false_iff, Bool.and_eq_false_iff, decide_eq_true_eq, decide_eq_false_iff_not]
          omega
      rw [loopN_range (c :: r).length (if isName (c :: r) then .inl () else .inr false) (fun i => ∀ j (h : j < (c :: r).length), j < i → (if j = 0 then isLetter (c :: r)[j] else isNameChar (c :: r)[j]) = true) ?_ ?_ (fun j _ h => absurd h (Nat.not_lt_zero _)) N (by simp; omega)]
      · cases isName (c :: r) <;> rfl
      · intro i hi hp
        unfold f_base_IsName_L1
        rw [cmp_lss, show decide ((i : Int) < ((c :: r).length : Int)) = true by rw [decide_eq_true_eq]; omega, cond_true, idx_nat hi, Option.bind_some, hbad i hi, w64s (show i < 9223372036854775807 by simp at hi; omega)]
        cases hg : (if i = 0 then isLetter (c :: r)[i] else isNameChar (c :: r)[i]) with
        | true =>
          refine .inl ⟨rfl, fun j hj hji => ?_⟩
          rcases Nat.lt_succ_iff_lt_or_eq.1 hji with h | rfl
          · exact hp j hj h
          · exact hg
        | false =>
          refine .inr ?_
          have : isName (c :: r) = false := by
            rw [Bool.eq_false_iff]
            intro h
            simp only [isName, Bool.and_eq_true, decide_eq_true_eq] at h
            obtain ⟨⟨_, h1⟩, h2⟩ := h
            rw [List.all_eq_true] at h2
            cases i with
            | zero => simp [h1] at hg
            | succ i =>
              simp at hg
              have := h2 _ (List.getElem_mem (by simpa using hi : i < r.length))
              rw [this] at hg; cases hg
          rw [this]; rfl
      · intro hp
        unfold f_base_IsName_L1
        rw [cmp_lss, show decide ((((c :: r).length : Nat) : Int) < ((c :: r).length : Int)) = false by simp, cond_false]
        have : isName (c :: r) = true := by
          simp only [isName, Bool.and_eq_true, decide_eq_true_eq]
          refine ⟨⟨hr, (by have h := hp 0 (by simp) (by simp); rw [if_pos rfl] at h; exact h)⟩, ?_⟩
          rw [List.all_eq_true]
          intro x hx
          obtain ⟨j, hj, rfl⟩ := List.getElem_of_mem hx
          have := hp (j + 1) (by simp; omega) (by simp; omega)
          simpa using this
        rw [this]; rfl
def panelErr (p : GPanel) : Int :=
  bif (!isName p.Name) then 4 else (bif (((cmpI .lss p.Rows 1) || (cmpI .lss p.Cols 1)) || (!inR 100 20000 p.Built)) then 2 else (bif (((cmpI .gtr p.Rows 400) || (cmpI .gtr p.Cols 400)) || (cmpI .gtr (IntKind.i64.wrap (p.Rows * p.Cols)) 400)) then 8 else (bif (cmpI .neq (List.length p.Readings : Int) (IntKind.i64.wrap (p.Rows * p.Cols))) then 11 else (bif (!p.Readings.all (inR 0 20000)) then 2 else 0))))
theorem bif_some {α : Type} {b : Bool} {x y : α} : (bif b then some x else some y) = some (bif b then x else y) := by cases b <;> rfl
theorem CheckPanel_eq {N : Nat} {p : GPanel} (h : p.Readings.length < 9223372036854775807) (hN : 2 ^ 64 ≤ N) : f_survey_CheckPanel N p = some (panelErr p) := by
  unfold f_survey_CheckPanel
  rw [name_eq (by omega), Option.bind_some, inside_eq (by simp) (by simp; omega), inside_eq h (by omega)]
  unfold panelErr
  cases isName p.Name with
  | false => rfl
  | true =>
    simp only [Bool.not_true, cond_false, List.all_cons, List.all_nil, Bool.and_true]
    cases (cmpI .lss p.Rows 1 || cmpI .lss p.Cols 1) with
    | true => rfl
    | false =>
      simp only [Bool.not_false, cond_true, Option.bind_some, bif_some]
theorem within_eq {N : Nat} {x lo hi : Int} : f_ref09_within N x lo hi = some (inR lo hi x) := rfl
theorem refCheckPanel_eq {N : Nat} {p : GPanel} (h : p.Readings.length < 9223372036854775807) (hN : 2 ^ 64 ≤ N) : f_ref09_CheckPanel N p = some (panelErr p) := by
  unfold f_ref09_CheckPanel
  have hloop : loopN (f_ref09_CheckPanel_L1 N p) N 0 = some (if p.Readings.all (inR 0 20000) then .inl () else .inr 2) := by
    refine loopN_range p.Readings.length _ (fun i => ∀ j (h : j < p.Readings.length), j < i → inR 0 20000 p.Readings[j] = true) ?_ ?_ (fun j _ h => absurd h (Nat.not_lt_zero _)) N (by omega)
    · intro i hi hp
      unfold f_ref09_CheckPanel_L1
      rw [cmp_lss, show decide ((i : Int) < (p.Readings.length : Int)) = true by rw [decide_eq_true_eq]; omega, cond_true, idx_nat hi, Option.bind_some, within_eq, Option.bind_some, w64s (by omega)]
      cases hg : inR 0 20000 p.Readings[i] with
      | true =>
        refine .inl ⟨rfl, fun j hj hji => ?_⟩
        rcases Nat.lt_succ_iff_lt_or_eq.1 hji with h | rfl
        · exact hp j hj h
        · exact hg
      | false =>
        refine .inr ?_
        rw [if_neg]
        · rfl
        · rw [List.all_eq_true]; intro h
          rw [h _ (List.getElem_mem hi)] at hg; cases hg
    · intro hp
      unfold f_ref09_CheckPanel_L1
      rw [cmp_lss, show decide (((p.Readings.length : Nat) : Int) < (p.Readings.length : Int)) = false by simp, cond_false, if_pos]
      rw [List.all_eq_true]
      intro x hx
      obtain ⟨j, hj, rfl⟩ := List.getElem_of_mem hx
      exact hp j hj hj
  rw [IsName_eq (by omega), Option.bind_some, hloop]
  unfold panelErr
  cases isName p.Name with
  | false => rfl
  | true =>
    simp only [Bool.not_true, cond_false, within_eq]
    cases (cmpI .lss p.Rows 1 || cmpI .lss p.Cols 1) with
    | true => rfl
    | false =>
      simp only [Bool.not_false, cond_true, Option.bind_some]
      cases p.Readings.all (inR 0 20000) <;> simp only [bif_some, if_true, Bool.false_eq_true, if_false, Sum.elim_inl, Sum.elim_inr, Bool.not_true, Bool.not_false, cond_true, cond_false]
theorem panelErr_zero {p : GPanel} (h : panelErr p = 0) : 100 ≤ p.Built ∧ p.Built ≤ 20000 ∧ p.Readings.length ≤ 400 ∧ ∀ x ∈ p.Readings, 0 ≤ x ∧ x ≤ 20000 := by
  unfold panelErr at h
  cases h1 : (!isName p.Name) with
  | true => rw [h1] at h; cases h
  | false =>
    rw [h1, cond_false] at h
    cases h2 : (((cmpI .lss p.Rows 1) || (cmpI .lss p.Cols 1)) || (!inR 100 20000 p.Built)) with
    | true => rw [h2] at h; cases h
    | false =>
      rw [h2, cond_false] at h
      cases h3 : (((cmpI .gtr p.Rows 400) || (cmpI .gtr p.Cols 400)) || (cmpI .gtr (IntKind.i64.wrap (p.Rows * p.Cols)) 400)) with
      | true => rw [h3] at h; cases h
      | false =>
        rw [h3, cond_false] at h
        cases h4 : (cmpI .neq (List.length p.Readings : Int) (IntKind.i64.wrap (p.Rows * p.Cols))) with
        | true => rw [h4] at h; cases h
        | false =>
          rw [h4, cond_false] at h
          cases h5 : (!p.Readings.all (inR 0 20000)) with
          | true => rw [h5] at h; cases h
          | false =>
            simp only [Bool.or_eq_false_iff, Bool.not_eq_false', inR, Bool.and_eq_true, decide_eq_true_eq, cmp_gtr, decide_eq_false_iff_not, cmp_neq, List.all_eq_true] at h2 h3 h4 h5
            refine ⟨h2.2.1, h2.2.2, by omega, fun x hx => h5 x hx⟩
def ruleErr (r : GRule) : Int := bif (((cmpI .lss r.Substantial 0) || (cmpI .gtr r.Substantial r.Renew)) || (cmpI .gtr r.Renew 1000)) then 2 else 0
theorem checkRule_eq {N : Nat} {r : GRule} : f_survey_checkRule N r = some (ruleErr r) := by unfold f_survey_checkRule ruleErr; rw [bif_some]
theorem refCheckRule_eq {N : Nat} {r : GRule} : f_ref09_CheckRule N r = some (ruleErr r) := by unfold f_ref09_CheckRule ruleErr; rw [bif_some]
theorem ruleErr_zero {r : GRule} (h : ruleErr r = 0) : 0 ≤ r.Substantial ∧ r.Substantial ≤ r.Renew ∧ r.Renew ≤ 1000 := by
  unfold ruleErr at h
  cases hc : (((cmpI .lss r.Substantial 0) || (cmpI .gtr r.Substantial r.Renew)) || (cmpI .gtr r.Renew 1000)) with
  | true => rw [hc] at h; cases h
  | false =>
    simp only [Bool.or_eq_false_iff, cmp_lss, cmp_gtr, decide_eq_false_iff_not] at hc
    omega
theorem firstErr_nil : ∀ {k i : Nat}, firstErr (fun _ => 0) k i = 0 := by
  intro k
  induction k with
  | zero => intro i; rfl
  | succ n ih => intro i; rw [firstErr_s0 (e := fun _ => 0) rfl]; exact ih
end Go.KB
