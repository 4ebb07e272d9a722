/- Plain laws: schemes of coats and the judgement of readings. No condition. -/
import Derived.Test.YtcpcedbnpieebaaPSet
namespace Go.KB
set_option linter.unusedVariables false
set_option maxRecDepth 100000

instance : Inhabited GCoat := ⟨⟨[], 0, 0, 0, 0⟩⟩
instance : Inhabited GPainting := ⟨⟨[], 0, []⟩⟩
/- brief -/
def nameLong (l : List GCoat) (i : Nat) : Int := if 50 < l[i]!.Name.length then 1 else 0
def paintLong (r : List GPainting) (i : Nat) : Int := if 50 < r[i]!.Coat.length ∨ 110 < r[i]!.Readings.length then 1 else 0
def briefB (l : List GCoat) (r : List GPainting) : Bool :=
  !(decide (12 < l.length) || decide (12 < r.length)) && (decide (firstErr (nameLong l) l.length 0 = 0) && decide (firstErr (paintLong r) r.length 0 = 0))
theorem brief_eq {N : Nat} {l : List GCoat} {r : List GPainting} (hN : 2 ^ 64 ≤ N) : f_law09_brief N l r = some (briefB l r) := by
  unfold f_law09_brief briefB
  simp only [cmp_gtr]
  by_cases hl : 12 < l.length ∨ 12 < r.length
  · rw [show (decide ((12 : Int) < (l.length : Int)) || decide ((12 : Int) < (r.length : Int))) = true by simp; omega, show (decide (12 < l.length) || decide (12 < r.length)) = true by simp; omega]; rfl
  · rw [show (decide ((12 : Int) < (l.length : Int)) || decide ((12 : Int) < (r.length : Int))) = false by simp; omega, show (decide (12 < l.length) || decide (12 < r.length)) = false by simp; omega, cond_false]
    rw [loop_err (f := f_law09_brief_L2 N l) (e := nameLong l) (n := l.length) (fin := Sum.inl ()) (err := fun z => Sum.inr false) (fun i hi _ => by
      unfold f_law09_brief_L2
      simp only [cmp_lss, cmp_gtr]
      rw [dT (by omega), cond_true, idxB hi, Option.bind_some, w64s (by omega)]
      unfold nameLong
      by_cases h : 50 < l[i]!.Name.length
      · rw [dT (by omega), if_pos h]; rfl
      · rw [dF (by omega), if_neg h]; rfl) (fun _ => by
      unfold f_law09_brief_L2
      simp only [cmp_lss]
      rw [dF (by omega)]; rfl) (by omega), Option.bind_some]
    unfold errOr
    by_cases hz : firstErr (nameLong l) l.length 0 = 0
    · rw [if_pos hz, dT hz, Sum.elim_inl, loop_err (f := f_law09_brief_L1 N r) (e := paintLong r) (n := r.length) (fin := Sum.inl ()) (err := fun z => Sum.inr false) (fun i hi _ => by
        unfold f_law09_brief_L1
        simp only [cmp_lss, cmp_gtr]
        rw [dT (by omega), cond_true, idxB hi, Option.bind_some, w64s (by omega)]
        by_cases h : 50 < r[i]!.Coat.length
        · have e1 : paintLong r i = 1 := by unfold paintLong; exact if_pos (.inl h)
          rw [dT (by omega), e1]; rfl
        · rw [dF (by omega), Bool.not_false, cond_true, Option.bind_some, Bool.false_or]
          by_cases h2 : 110 < r[i]!.Readings.length
          · have e1 : paintLong r i = 1 := by unfold paintLong; exact if_pos (.inr h2)
            rw [dT (by omega), e1]; rfl
          · have e1 : paintLong r i = 0 := by unfold paintLong; exact if_neg (by omega)
            rw [dF (by omega), e1]; rfl) (fun _ => by
        unfold f_law09_brief_L1
        simp only [cmp_lss]
        rw [dF (by omega)]; rfl) (by omega), Option.bind_some]
      unfold errOr
      by_cases hy : firstErr (paintLong r) r.length 0 = 0
      · rw [if_pos hy, dT hy]; rfl
      · rw [if_neg hy, dF hy]; rfl
    · rw [if_neg hz, dF hz]; rfl
theorem brief_of {l : List GCoat} {r : List GPainting} (h : briefB l r = true) : l.length ≤ 12 ∧ r.length ≤ 12 ∧ ∀ i, i < r.length → r[i]!.Readings.length ≤ 110 := by
  simp only [briefB, Bool.and_eq_true, Bool.not_eq_true', Bool.or_eq_false_iff, decide_eq_false_iff_not, decide_eq_true_eq] at h
  refine ⟨by omega, by omega, fun i hi => ?_⟩
  have := firstErr_zero h.2.2 i (by omega) (by omega)
  unfold paintLong at this
  split at this
  · omega
  · omega
/- coats -/
def coatErr (c : GCoat) : Int := if c.Nominal < 1 ∨ c.Most < c.Nominal ∨ 10000 < c.Most ∨ c.Soonest < 0 ∨ c.Latest < c.Soonest ∨ 1000000 < c.Latest then 2 else 0
theorem coat_bool (c : GCoat) : ((((((cmpI .lss c.Nominal 1) || (cmpI .gtr c.Nominal c.Most)) || (cmpI .gtr c.Most 10000)) || (cmpI .lss c.Soonest 0)) || (cmpI .gtr c.Soonest c.Latest)) || (cmpI .gtr c.Latest 1000000)) = decide (c.Nominal < 1 ∨ c.Most < c.Nominal ∨ 10000 < c.Most ∨ c.Soonest < 0 ∨ c.Latest < c.Soonest ∨ 1000000 < c.Latest) := by
  simp only [cmp_lss, cmp_gtr]
  rw [Bool.eq_iff_iff]
  simp only [Bool.or_eq_true, decide_eq_true_eq, or_assoc]
theorem checkCoat_eq {N : Nat} {c : GCoat} : f_survey_checkCoat N c = some (coatErr c) := by
  unfold f_survey_checkCoat coatErr
  rw [coat_bool]
  by_cases h : c.Nominal < 1 ∨ c.Most < c.Nominal ∨ 10000 < c.Most ∨ c.Soonest < 0 ∨ c.Latest < c.Soonest ∨ 1000000 < c.Latest
  · rw [dT h, if_pos h]; rfl
  · rw [dF h, if_neg h]; rfl
theorem coat_of {c : GCoat} (h : coatErr c = 0) : 1 ≤ c.Nominal ∧ c.Nominal ≤ c.Most ∧ c.Most ≤ 10000 ∧ 0 ≤ c.Soonest ∧ c.Soonest ≤ c.Latest ∧ c.Latest ≤ 1000000 := by
  unfold coatErr at h
  split at h
  · cases h
  · omega
def cnm (l : List GCoat) (i : Nat) : Str := l[i]!.Name
def scErr (l : List GCoat) (i : Nat) : Int := if isName l[i]!.Name = true then (if dup (cnm l) i l[i]!.Name = true then 5 else coatErr l[i]!) else 4
def schErr (l : List GCoat) : Int := if l.length = 0 then 11 else if 8 < l.length then 8 else firstErr (scErr l) l.length 0
theorem CheckScheme_eq {N : Nat} {l : List GCoat} (hl : l.length < 1000000) (hN : 2 ^ 64 ≤ N) : f_survey_CheckScheme N l = some (schErr l) := by
  unfold f_survey_CheckScheme schErr
  simp only [cmp_gtr, cmp_eql]
  by_cases h0 : l.length = 0
  · rw [dT (by omega), cond_true, if_pos h0]
  · rw [dF (by omega), cond_false, if_neg h0]
    by_cases h8 : 8 < l.length
    · rw [dT (by omega), cond_true, if_pos h8]
    · rw [dF (by omega), cond_false, if_neg h8]
      have := loop_errG (f := f_survey_CheckScheme_L1 N l) (e := scErr l) (N := N) (n := l.length) (fin := Sum.inl ()) (err := fun z => Sum.inr z) (fun i => (seen (cnm l) i, (i : Int))) (fun i hi hz => by
        unfold f_survey_CheckScheme_L1
        simp only [cmp_lss, cmp_neq]
        rw [dT (by omega), cond_true, idxB hi, Option.bind_some, name_eq (by omega), Option.bind_some, seen_get, checkCoat_eq, Option.bind_some, w64s (by omega)]
        unfold scErr
        cases h1 : isName l[i]!.Name with
        | false => rfl
        | true =>
          simp only [Bool.not_true, cond_false, if_true]
          cases h2 : dup (cnm l) i l[i]!.Name with
          | true => rfl
          | false =>
            simp only [cond_false, Bool.false_eq_true, if_false]
            by_cases h3 : coatErr l[i]! = 0
            · rw [dT h3, if_pos h3]; rfl
            · rw [dF h3, if_neg h3]; rfl) (fun _ => by
        unfold f_survey_CheckScheme_L1
        simp only [cmp_lss]
        rw [dF (by omega)]; rfl) (by omega)
      rw [show loopN (f_survey_CheckScheme_L1 N l) N (([] : (List (Str × Bool))), 0) = _ from this, Option.bind_some]
      unfold errOr
      by_cases hz : firstErr (scErr l) l.length 0 = 0
      · rw [if_pos hz, hz]; rfl
      · rw [if_neg hz]; rfl
theorem sch_of {l : List GCoat} (h : schErr l = 0) : 0 < l.length ∧ l.length ≤ 8 ∧ ∀ i, i < l.length → isName l[i]!.Name = true ∧ coatErr l[i]! = 0 := by
  unfold schErr at h
  split at h
  · cases h
  · split at h
    · cases h
    · refine ⟨by omega, by omega, fun i hi => ?_⟩
      have hz := firstErr_zero h i (by omega) (by omega)
      unfold scErr at hz
      split at hz
      · rename_i h1
        split at hz
        · cases hz
        · exact ⟨h1, hz⟩
      · cases hz
/- thickness -/
def cnt (c : GCoat) (t : List Int) : Nat → Int
  | 0 => 0
  | k + 1 => if c.Nominal ≤ t[k]! then cnt c t k + 1 else cnt c t k
def mnv (t : List Int) : Nat → Int
  | 0 => t[0]!
  | k + 1 => min (mnv t k) t[k + 1]!
def mxv (t : List Int) : Nat → Int
  | 0 => t[0]!
  | k + 1 => max (mxv t k) t[k + 1]!
theorem cnt_bd (c : GCoat) (t : List Int) : ∀ k, 0 ≤ cnt c t k ∧ cnt c t k ≤ k
  | 0 => ⟨Int.le_refl _, Int.le_refl _⟩
  | k + 1 => by
    have := cnt_bd c t k
    rw [cnt]
    split <;> omega
def thick (c : GCoat) (t : List Int) : Int × Int :=
  if isName c.Name = true then (if coatErr c = 0 then (if t.length = 0 then (0, 11) else if 100 < t.length then (0, 8) else if t.all (inR 0 20000) = true then
    (if c.Most < mxv t (t.length - 1) then (1, 0) else if 10 * cnt c t t.length < 9 * (t.length : Int) ∨ 10 * mnv t (t.length - 1) < 9 * c.Nominal then (2, 0) else (0, 0)) else (0, 2)) else (0, coatErr c)) else (0, 4)
theorem Min_eq {N : Nat} {t : List Int} (h0 : t.length ≠ 0) (hl : t.length < 1000000) (hN : 2 ^ 64 ≤ N) : f_slices_Minlint_int N t = some (mnv t (t.length - 1)) := by
  unfold f_slices_Minlint_int
  have := loop_errG (f := f_slices_Minlint_int_L1 N t) (e := fun _ => 0) (N := N) (n := t.length - 1) (fin := mnv t (t.length - 1)) (err := fun z => z) (fun i => (mnv t i, ((i + 1 : Nat) : Int))) (fun i hi _ => by
    unfold f_slices_Minlint_int_L1
    simp only [cmp_lss]
    rw [dT (by omega), cond_true, idxB (by omega), Option.bind_some, w64s (by omega)]; rfl) (fun _ => by
    unfold f_slices_Minlint_int_L1
    simp only [cmp_lss]
    rw [dF (by omega)]; rfl) (by omega)
  rw [firstErr_nil] at this
  rw [cmp_lss, dF (by omega), cond_false, Option.bind_some, show idx t 0 = some t[0]! from idxB (i := 0) (by omega), Option.bind_some, show loopN (f_slices_Minlint_int_L1 N t) N (t[0]!, 1) = _ from this]; rfl
theorem Max_eq {N : Nat} {t : List Int} (h0 : t.length ≠ 0) (hl : t.length < 1000000) (hN : 2 ^ 64 ≤ N) : f_slices_Maxlint_int N t = some (mxv t (t.length - 1)) := by
  unfold f_slices_Maxlint_int
  have := loop_errG (f := f_slices_Maxlint_int_L1 N t) (e := fun _ => 0) (N := N) (n := t.length - 1) (fin := mxv t (t.length - 1)) (err := fun z => z) (fun i => (mxv t i, ((i + 1 : Nat) : Int))) (fun i hi _ => by
    unfold f_slices_Maxlint_int_L1
    simp only [cmp_lss]
    rw [dT (by omega), cond_true, idxB (by omega), Option.bind_some, w64s (by omega)]; rfl) (fun _ => by
    unfold f_slices_Maxlint_int_L1
    simp only [cmp_lss]
    rw [dF (by omega)]; rfl) (by omega)
  rw [firstErr_nil] at this
  rw [cmp_lss, dF (by omega), cond_false, Option.bind_some, show idx t 0 = some t[0]! from idxB (i := 0) (by omega), Option.bind_some, show loopN (f_slices_Maxlint_int_L1 N t) N (t[0]!, 1) = _ from this]; rfl
theorem all_at {t : List Int} {p : Int → Bool} (h : t.all p = true) {i : Nat} (hi : i < t.length) : p t[i]! = true := by
  rw [bang hi]
  rw [List.all_eq_true] at h
  exact h _ (List.getElem_mem hi)
theorem mnv_bd {t : List Int} {a b : Int} (h : ∀ i, i < t.length → a ≤ t[i]! ∧ t[i]! ≤ b) : ∀ {k : Nat}, k < t.length → a ≤ mnv t k ∧ mnv t k ≤ b := by
  intro k
  induction k with
  | zero => intro hk; exact h 0 hk
  | succ k ih =>
    intro hk
    have h1 := ih (by omega)
    have h2 := h (k + 1) hk
    rw [mnv]
    omega
theorem Thickness_eq {N : Nat} {c : GCoat} {t : List Int} (hl : t.length < 1000000) (hN : 2 ^ 64 ≤ N) : f_survey_Thickness N c t = some (thick c t) := by
  unfold f_survey_Thickness thick
  rw [name_eq (by omega), Option.bind_some, checkCoat_eq, Option.bind_some, cmp_neq, cmp_eql, cmp_gtr]
  cases isName c.Name with
  | false => rfl
  | true =>
    rw [Bool.not_true, cond_false, if_pos rfl]
    by_cases hc : coatErr c = 0
    · have hcc := coat_of hc
      rw [dT hc, Bool.not_true, cond_false, if_pos hc]
      by_cases h0 : t.length = 0
      · rw [dT (by omega), cond_true, if_pos h0]
      · rw [dF (by omega), cond_false, if_neg h0]
        by_cases h100 : 100 < t.length
        · rw [dT (by omega), cond_true, if_pos h100]
        · rw [dF (by omega), cond_false, if_neg h100, inside_eq (by omega) (by omega), Option.bind_some]
          cases ha : t.all (inR 0 20000) with
          | false => rfl
          | true =>
            rw [Bool.not_true, cond_false, if_pos rfl]
            have hb : ∀ i, i < t.length → 0 ≤ t[i]! ∧ t[i]! ≤ 20000 := fun i hi => by
              have := all_at ha hi
              simpa [inR] using this
            have hcb := cnt_bd c t t.length
            have hmb := mnv_bd hb (show t.length - 1 < t.length by omega)
            have := loopN_fold (f := f_survey_Thickness_L1 N c t) t.length (fun i => cnt c t i) (cnt c t t.length) (fun i hi => by
              unfold f_survey_Thickness_L1
              simp only [cmp_lss, cmp_geq]
              have := cnt_bd c t i
              rw [dT (by omega), cond_true, idxB hi, Option.bind_some, w64s (by omega), cnt]
              by_cases h : c.Nominal ≤ t[i]!
              · rw [dT h, if_pos h, w64i (by omega) (by omega)]; rfl
              · rw [dF h, if_neg h]; rfl) (by
              unfold f_survey_Thickness_L1
              simp only [cmp_lss]
              rw [dF (by omega)]; rfl) N (by omega)
            rw [show loopN (f_survey_Thickness_L1 N c t) N (0, 0) = _ from this, Option.bind_some, Min_eq h0 hl hN, Option.bind_some, Max_eq h0 hl hN, Option.bind_some, cmp_gtr, cmp_lss, cmp_lss]
            by_cases hm : c.Most < mxv t (t.length - 1)
            · rw [dT hm, if_pos hm]; rfl
            · rw [dF hm, if_neg hm, cond_false, w64i (n := 10 * cnt c t t.length) (by omega) (by omega), w64i (n := 9 * (t.length : Int)) (by omega) (by omega), w64i (n := 10 * mnv t (t.length - 1)) (by omega) (by omega), w64i (n := 9 * c.Nominal) (by omega) (by omega)]
              by_cases hx : 10 * cnt c t t.length < 9 * (t.length : Int) ∨ 10 * mnv t (t.length - 1) < 9 * c.Nominal
              · rw [if_pos hx]
                rcases hx with h | h
                · rw [dT h]; rfl
                · rw [dT h, Bool.or_true]; rfl
              · rw [if_neg hx, dF (by omega), dF (by omega)]; rfl
    · rw [dF hc, if_neg hc]; rfl
end Go.KB
