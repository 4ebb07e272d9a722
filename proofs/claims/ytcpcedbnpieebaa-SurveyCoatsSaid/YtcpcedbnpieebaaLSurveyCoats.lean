/- The plain law of SurveyCoats: it returns true for every scheme, coat and row of readings that a machine holds. No condition. -/
import Derived.Test.YtcpcedbnpieebaaPCoat
import Derived.Test.YtcpcedbnpieebaaPNam
import Derived.KernelRfl
namespace Go.KB
set_option linter.unusedVariables false
set_option maxRecDepth 100000

theorem coatRange_eq {N : Nat} {c : GCoat} : f_ref09_coatRange N c = some (coatErr c) := by
  unfold f_ref09_coatRange coatErr
  rw [coat_bool]
  by_cases h : c.Nominal < 1 ∨ c.Most < c.Nominal ∨ 10000 < c.Most ∨ c.Soonest < 0 ∨ c.Latest < c.Soonest ∨ 1000000 < c.Latest
  · rw [dT h, if_pos h]; rfl
  · rw [dF h, if_neg h]; rfl
theorem cdup {N : Nat} {l : List GCoat} {i : Nat} (hi : i < l.length) (hl : l.length < 1000000) (hN : 2 ^ 64 ≤ N) :
    loopN (f_ref09_CheckScheme_L1 N l (i : Int)) N 0 = some (if dup (cnm l) i l[i]!.Name = true then Sum.inr 5 else Sum.inl ()) := by
  rw [loop_err (f := f_ref09_CheckScheme_L1 N l (i : Int)) (e := same (cnm l) l[i]!.Name) (n := i) (fin := Sum.inl ()) (err := fun z => Sum.inr 5) (fun j hj _ => by
    unfold f_ref09_CheckScheme_L1
    simp only [cmp_lss]
    rw [dT (by omega), cond_true, idxB (by omega), Option.bind_some, idxB hi, Option.bind_some, cmpS_eql, w64s (by omega)]
    unfold same cnm
    by_cases h : l[j]!.Name = l[i]!.Name
    · rw [dT h, if_pos h]; rfl
    · rw [dF h, if_neg h]; rfl) (fun _ => by
    unfold f_ref09_CheckScheme_L1
    simp only [cmp_lss]
    rw [dF (by omega)]; rfl) (by omega), same_dup]
  unfold errOr
  cases dup (cnm l) i l[i]!.Name <;> rfl
theorem refCheckScheme_eq {N : Nat} {l : List GCoat} (hl : l.length < 1000000) (hN : 2 ^ 64 ≤ N) : f_ref09_CheckScheme N l = some (schErr l) := by
  unfold f_ref09_CheckScheme schErr
  simp only [cmp_gtr, cmp_eql]
  by_cases h0 : l.length = 0
  · rw [dT (by omega), cond_true, if_pos h0]
  · rw [dF (by omega), cond_false, if_neg h0]
    by_cases h8 : 8 < l.length
    · rw [dT (by omega), cond_true, if_pos h8]
    · rw [dF (by omega), cond_false, if_neg h8]
      refine loop_err0 (f := f_ref09_CheckScheme_L2 N l) (fun i hi _ => ?_) (fun _ => ?_) (by omega)
      · unfold f_ref09_CheckScheme_L2
        simp only [cmp_lss, cmp_neq]
        rw [dT (by omega), cond_true, idxB hi, Option.bind_some, IsName_eq (by omega), Option.bind_some, cdup hi hl hN, Option.bind_some, w64s (by omega)]
        unfold scErr
        cases h1 : isName l[i]!.Name with
        | false => rfl
        | true =>
          simp only [Bool.not_true, cond_false, if_true]
          cases h2 : dup (cnm l) i l[i]!.Name with
          | true => rfl
          | false =>
            simp only [Bool.false_eq_true, if_false, Sum.elim_inl, Option.bind_some, coatRange_eq]
            by_cases h3 : coatErr l[i]! = 0
            · rw [dT h3, if_pos h3]; rfl
            · rw [dF h3, if_neg h3]; rfl
      · unfold f_ref09_CheckScheme_L2
        simp only [cmp_lss]
        rw [dF (by omega)]; rfl
/- the reference's way to judge -/
def lowB (c : GCoat) (t : List Int) : Nat → Bool
  | 0 => false
  | k + 1 => lowB c t k || decide (10 * t[k]! < 9 * c.Nominal)
def highB (c : GCoat) (t : List Int) : Nat → Bool
  | 0 => false
  | k + 1 => highB c t k || decide (c.Most < t[k]!)
theorem low_iff (c : GCoat) (t : List Int) : ∀ k, lowB c t (k + 1) = decide (10 * mnv t k < 9 * c.Nominal)
  | 0 => by simp [lowB, mnv]
  | k + 1 => by
    rw [lowB, low_iff c t k, mnv, Bool.eq_iff_iff]
    simp only [Bool.or_eq_true, decide_eq_true_eq]
    omega
theorem high_iff (c : GCoat) (t : List Int) : ∀ k, highB c t (k + 1) = decide (c.Most < mxv t k)
  | 0 => by simp [highB, mxv]
  | k + 1 => by
    rw [highB, high_iff c t k, mxv, Bool.eq_iff_iff]
    simp only [Bool.or_eq_true, decide_eq_true_eq]
    omega
def outE (t : List Int) (i : Nat) : Int := if inR 0 20000 t[i]! = true then 0 else 2
theorem out_all {t : List Int} : firstErr (outE t) t.length 0 = if t.all (inR 0 20000) = true then 0 else 2 := by
  by_cases h : t.all (inR 0 20000) = true
  · rw [if_pos h]
    refine Classical.byContradiction fun hn => ?_
    obtain ⟨j, _, hj, _, hne, _⟩ := firstErr_at hn
    unfold outE at hne
    rw [if_pos (all_at h (by omega))] at hne
    exact hne rfl
  · rw [if_neg h]
    have hn : firstErr (outE t) t.length 0 ≠ 0 := fun e => h (by
      rw [List.all_eq_true]
      intro x hx
      obtain ⟨j, hj, rfl⟩ := List.getElem_of_mem hx
      have := firstErr_zero e j (by omega) (by omega)
      unfold outE at this
      rw [bang hj] at this
      split at this
      · assumption
      · cases this)
    obtain ⟨j, _, hj, he, hne, _⟩ := firstErr_at hn
    rw [he]
    unfold outE at hne ⊢
    split
    · rename_i hx; rw [if_pos hx] at hne; exact absurd rfl hne
    · rfl
theorem refThickness_eq {N : Nat} {c : GCoat} {t : List Int} (hl : t.length < 1000000) (hN : 2 ^ 64 ≤ N) : f_ref09_Thickness N c t = some (thick c t) := by
  unfold f_ref09_Thickness f_ref09_CheckCoat thick
  rw [IsName_eq (by omega), Option.bind_some, coatRange_eq, Option.bind_some]
  cases isName c.Name with
  | false => rfl
  | true =>
    rw [Bool.not_true, cond_false, Option.bind_some, if_pos rfl, cmp_neq, cmp_eql, cmp_gtr]
    by_cases hc : coatErr c = 0
    · have hcc := coat_of hc
      rw [dT hc, Bool.not_true, cond_false, if_pos hc]
      by_cases h0 : t.length = 0
      · rw [dT (by omega), cond_true, if_pos h0]
      · rw [dF (by omega), cond_false, if_neg h0]
        by_cases h100 : 100 < t.length
        · rw [dT (by omega), cond_true, if_pos h100]
        · rw [dF (by omega), cond_false, if_neg h100]
          have hcb := cnt_bd c t t.length
          have := loop_errG (f := f_ref09_Thickness_L1 N c t) (e := outE t) (N := N) (n := t.length) (fin := Sum.inl (cnt c t t.length, lowB c t t.length, highB c t t.length)) (err := fun z => Sum.inr (0, 2)) (fun i => (cnt c t i, lowB c t i, highB c t i, (i : Int))) (fun i hi _ => by
            unfold f_ref09_Thickness_L1
            simp only [cmp_lss, cmp_geq, cmp_gtr]
            have hci := cnt_bd c t i
            have hw : f_ref09_within N t[i]! 0 20000 = some (inR 0 20000 t[i]!) := rfl
            rw [dT (by omega), cond_true, idxB hi, Option.bind_some, hw, Option.bind_some]
            cases hr : inR 0 20000 t[i]! with
            | false =>
              have e : outE t i = 2 := by unfold outE; rw [hr]; rfl
              rw [e]; rfl
            | true =>
              have e : outE t i = 0 := by unfold outE; rw [hr]; rfl
              have hb : 0 ≤ t[i]! ∧ t[i]! ≤ 20000 := by simpa [inR] using hr
              rw [e, if_pos rfl, Bool.not_true, cond_false, w64i (n := 10 * t[i]!) (by omega) (by omega), w64i (n := 9 * c.Nominal) (by omega) (by omega), w64i (n := cnt c t i + 1) (by omega) (by omega), w64s (by omega), cnt, lowB, highB]
              by_cases h : c.Nominal ≤ t[i]!
              · rw [dT h, if_pos h]; rfl
              · rw [dF h, if_neg h]; rfl) (fun _ => by
            unfold f_ref09_Thickness_L1
            simp only [cmp_lss]
            rw [dF (by omega)]; rfl) (by omega)
          rw [show loopN (f_ref09_Thickness_L1 N c t) N (0, false, false, 0) = _ from this, Option.bind_some, out_all]
          unfold errOr
          cases ha : t.all (inR 0 20000) with
          | false => rfl
          | true =>
            simp only [if_true, Sum.elim_inl, cmp_lss]
            obtain ⟨k, hk⟩ : ∃ k, t.length = k + 1 := ⟨t.length - 1, by omega⟩
            have hlo := low_iff c t k
            have hhi := high_iff c t k
            rw [← hk] at hlo hhi
            rw [hlo, hhi, show k = t.length - 1 by omega, w64i (n := 10 * cnt c t t.length) (by omega) (by omega), w64i (n := 9 * (t.length : Int)) (by omega) (by omega)]
            by_cases hm : c.Most < mxv t (t.length - 1)
            · rw [dT hm, if_pos hm]; rfl
            · rw [dF hm, if_neg hm, cond_false]
              by_cases h1 : 10 * mnv t (t.length - 1) < 9 * c.Nominal
              · rw [dT h1, if_pos (.inr h1)]; rfl
              · rw [dF h1, Bool.false_or]
                by_cases h2 : 10 * cnt c t t.length < 9 * (t.length : Int)
                · rw [dT h2, if_pos (.inl h2)]; rfl
                · rw [dF h2, if_neg (by omega)]; rfl
    · rw [dF hc, if_neg hc]; rfl
theorem awake_true : f_law09_awake (2 ^ 70) = some true := by kernel_rfl
theorem law_SurveyCoats (x0 : List GCoat) (x1 : GCoat) (x2 : List Int) (h0 : gL GCoat.ok x0) (b0 : x0.length * 48 ≤ 140737488351232) (h1 : x1.ok) (h2 : gL (gI .i64) x2) (b2 : x2.length * 8 ≤ 140737488351232) : f_law09_SurveyCoats (2 ^ 70) x0 x1 x2 = some true := by
  have hN : 2 ^ 64 ≤ (2 ^ 70 : Nat) := by decide
  unfold f_law09_SurveyCoats
  have ha : appB 48 [x1] x0 = some (x1 :: x0) := by
    unfold appB
    rw [Nat.ble_eq_true_of_le (by simp only [List.length_cons, List.length_nil]; omega)]; rfl
  rw [awake_true, Option.bind_some, Bool.not_true, cond_false, ha, Option.bind_some, brief_eq hN, Option.bind_some, cmp_gtr]
  cases hb : briefB (x1 :: x0) [] with
  | false => rfl
  | true =>
    obtain ⟨b1, _, _⟩ := brief_of hb
    simp only [List.length_cons] at b1
    by_cases hl : 110 < x2.length
    · rw [dT (by omega)]; rfl
    · rw [dF (by omega), Bool.not_true, Bool.or_self, cond_false, Thickness_eq (by omega) hN, Option.bind_some, refThickness_eq (by omega) hN, Option.bind_some, CheckScheme_eq (by omega) hN, Option.bind_some, refCheckScheme_eq (by omega) hN, Option.bind_some]
      simp
end Go.KB
