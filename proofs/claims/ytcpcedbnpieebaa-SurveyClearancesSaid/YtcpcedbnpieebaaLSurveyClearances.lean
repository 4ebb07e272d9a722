/- The plain law of SurveyClearances: it returns true for every table, list of bearings and size. No condition. -/
import Derived.Test.YtcpcedbnpieebaaPSet
import Derived.KernelRfl
namespace Go.KB
set_option linter.unusedVariables false
set_option maxRecDepth 100000

instance : Inhabited GTolerance := ⟨⟨0, 0⟩⟩
instance : Inhabited GBearing := ⟨⟨[], 0, 0, 0⟩⟩
def tlErr (l : List GTolerance) (i : Nat) : Int :=
  if (!(inR 0 1000000 l[i]!.From) || !(inR 0 1000000 l[i]!.Most)) = true then 2
  else if 0 < i ∧ l[i]!.From ≤ l[i - 1]!.From then 10 else 0
def tolErr (l : List GTolerance) : Int := if 40 < l.length then 8 else if l.length = 0 then 11 else firstErr (tlErr l) l.length 0
theorem within_eq' {N : Nat} {x lo hi : Int} : f_ref09_within N x lo hi = some (inR lo hi x) := rfl
theorem checkTable_eq {N : Nat} {l : List GTolerance} (hl : l.length < 1000000) (hN : 2 ^ 64 ≤ N) : f_survey_checkTable N l = some (tolErr l) := by
  unfold f_survey_checkTable tolErr
  simp only [cmp_gtr, cmp_eql]
  by_cases h40 : 40 < l.length
  · rw [dT (by omega), cond_true, if_pos h40]
  · rw [dF (by omega), cond_false, if_neg h40]
    by_cases h0 : l.length = 0
    · rw [dT (by omega), cond_true, if_pos h0]
    · rw [dF (by omega), cond_false, if_neg h0]
      refine loop_err0 (f := f_survey_checkTable_L1 N l) (fun i hi hz => ?_) (fun _ => ?_) (by omega)
      · unfold f_survey_checkTable_L1
        simp only [cmp_lss, cmp_gtr, cmp_leq]
        rw [dT (by omega), cond_true, idxB hi, Option.bind_some, inside_eq (by simp) (by simp; omega), Option.bind_some, w64s (by omega)]
        simp only [List.all_cons, List.all_nil, Bool.and_true]
        unfold tlErr
        cases h1 : inR 0 1000000 l[i]!.From with
        | false => rfl
        | true =>
          cases h2 : inR 0 1000000 l[i]!.Most with
          | false => rfl
          | true =>
            simp only [Bool.and_self, Bool.not_true, cond_false, Bool.or_self, Bool.false_eq_true, if_false]
            by_cases h0 : i = 0
            · subst h0
              rw [dF (by omega), cond_false, Option.bind_some, Bool.false_and, cond_false, show (if 0 < 0 ∧ l[0]!.From ≤ l[0 - 1]!.From then (10 : Int) else 0) = 0 from if_neg (by omega), if_pos rfl]
            · rw [dT (by omega), cond_true, idxP hi h0 hl, Option.bind_some, Bool.true_and]
              by_cases hc : l[i]!.From ≤ l[i - 1]!.From
              · rw [dT hc, show (if 0 < i ∧ l[i]!.From ≤ l[i - 1]!.From then (10 : Int) else 0) = 10 from if_pos ⟨by omega, hc⟩]; rfl
              · rw [dF hc, show (if 0 < i ∧ l[i]!.From ≤ l[i - 1]!.From then (10 : Int) else 0) = 0 from if_neg (fun h => hc h.2)]; rfl
      · unfold f_survey_checkTable_L1
        simp only [cmp_lss]
        rw [dF (by omega)]; rfl
theorem refCheckTolerances_eq {N : Nat} {l : List GTolerance} (hl : l.length < 1000000) (hN : 2 ^ 64 ≤ N) : f_ref09_CheckTolerances N l = some (tolErr l) := by
  unfold f_ref09_CheckTolerances tolErr
  simp only [cmp_gtr, cmp_eql]
  by_cases h40 : 40 < l.length
  · rw [dT (by omega), cond_true, if_pos h40]
  · rw [dF (by omega), cond_false, if_neg h40]
    by_cases h0 : l.length = 0
    · rw [dT (by omega), cond_true, if_pos h0]
    · rw [dF (by omega), cond_false, if_neg h0]
      refine loop_err0 (f := f_ref09_CheckTolerances_L1 N l) (fun i hi hz => ?_) (fun _ => ?_) (by omega)
      · unfold f_ref09_CheckTolerances_L1
        simp only [cmp_lss, cmp_gtr, cmp_leq]
        rw [dT (by omega), cond_true, idxB hi, Option.bind_some, within_eq', Option.bind_some, w64s (by omega)]
        unfold tlErr
        cases h1 : inR 0 1000000 l[i]!.From with
        | false => rfl
        | true =>
          simp only [Bool.not_true, Bool.not_false, cond_true, Option.bind_some, within_eq', Bool.false_or]
          cases h2 : inR 0 1000000 l[i]!.Most with
          | false => rfl
          | true =>
            simp only [Bool.not_true, cond_false, Bool.false_eq_true, if_false]
            by_cases h0 : i = 0
            · subst h0
              rw [dF (by omega), cond_false, Option.bind_some, cond_false, Option.bind_some, Bool.false_and, cond_false, show (if 0 < 0 ∧ l[0]!.From ≤ l[0 - 1]!.From then (10 : Int) else 0) = 0 from if_neg (by omega), if_pos rfl]
            · rw [dT (by omega), cond_true, Option.bind_some, cond_true, idxP hi h0 hl, Option.bind_some, Bool.true_and]
              by_cases hc : l[i]!.From ≤ l[i - 1]!.From
              · rw [dT hc, show (if 0 < i ∧ l[i]!.From ≤ l[i - 1]!.From then (10 : Int) else 0) = 10 from if_pos ⟨by omega, hc⟩]; rfl
              · rw [dF hc, show (if 0 < i ∧ l[i]!.From ≤ l[i - 1]!.From then (10 : Int) else 0) = 0 from if_neg (fun h => hc h.2)]; rfl
      · unfold f_ref09_CheckTolerances_L1
        simp only [cmp_lss]
        rw [dF (by omega)]; rfl
structure Tol (l : List GTolerance) : Prop where
  l1 : 0 < l.length
  l4 : l.length ≤ 40
  up : ∀ i, i < l.length → 0 < i → l[i - 1]!.From < l[i]!.From
theorem tol_of {l : List GTolerance} (h : tolErr l = 0) : Tol l := by
  unfold tolErr at h
  split at h
  · cases h
  · split at h
    · cases h
    · refine ⟨by omega, by omega, fun i hi h0 => ?_⟩
      have hz := firstErr_zero h i (by omega) (by omega)
      unfold tlErr at hz
      split at hz
      · cases hz
      · split at hz
        · cases hz
        · rename_i hd
          rw [not_and] at hd
          have := hd h0
          omega
theorem Tol.mono {l : List GTolerance} (h : Tol l) {i : Nat} : ∀ {j : Nat}, i ≤ j → j < l.length → l[i]!.From ≤ l[j]!.From := by
  intro j
  induction j with
  | zero =>
    intro h1 h2
    obtain rfl : i = 0 := by omega
    exact Int.le_refl _
  | succ j ih =>
    intro h1 h2
    by_cases he : i = j + 1
    · subst he; exact Int.le_refl _
    · have := ih (by omega) (by omega)
      have h3 := h.up (j + 1) h2 (by omega)
      rw [Nat.add_sub_cancel] at h3
      omega
/- what is allowed at a size -/
def alw (l : List GTolerance) (x : Int) : Nat → Int
  | 0 => 0
  | k + 1 => if l[k]!.From ≤ x then l[k]!.Most else alw l x k
theorem alw_stay {l : List GTolerance} {x : Int} {j : Nat} : ∀ {n : Nat}, j ≤ n → (∀ i, j ≤ i → i < n → ¬ l[i]!.From ≤ x) → alw l x n = alw l x j := by
  intro n
  induction n with
  | zero => intro h1 _; obtain rfl : j = 0 := by omega
            rfl
  | succ n ih =>
    intro h1 h2
    by_cases hj : j = n + 1
    · subst hj; rfl
    · rw [alw, if_neg (h2 n (by omega) (by omega))]
      exact ih (by omega) (fun i hi hn => h2 i hi (by omega))
def allowed (l : List GTolerance) (x : Int) : Int × Int :=
  if tolErr l = 0 then (if inR 0 1000000 x = true then (if x < l[0]!.From then (0, 6) else (alw l x l.length, 0)) else (0, 2)) else (0, tolErr l)
def over (l : List GTolerance) (x : Int) (j : Nat) : Int := if x < l[j]!.From then ((j + 1 : Nat) : Int) else 0
theorem index_eq {N : Nat} {l : List GTolerance} {x : Int} (hl : l.length < 1000000) (hN : 2 ^ 64 ≤ N) : f_slices_IndexFunclapi_Tolerance_api_Tolerance N l (fun y0 => f_survey_Allowed_1 N y0 x) = some (firstErr (over l x) l.length 0 - 1) := by
  unfold f_slices_IndexFunclapi_Tolerance_api_Tolerance
  rw [loop_err (f := f_slices_IndexFunclapi_Tolerance_api_Tolerance_L1 N l (fun y0 => f_survey_Allowed_1 N y0 x)) (e := over l x) (n := l.length) (fin := Sum.inl ()) (err := fun z => Sum.inr (z - 1)) (fun i hi hz => by
    unfold f_slices_IndexFunclapi_Tolerance_api_Tolerance_L1 f_survey_Allowed_1
    simp only [cmp_lss, cmp_gtr]
    rw [dT (by omega), cond_true, idxB hi, Option.bind_some, Option.bind_some, w64s (by omega)]
    unfold over
    by_cases hc : x < l[i]!.From
    · rw [dT hc, cond_true, if_pos hc, if_neg (by omega), show ((i + 1 : Nat) : Int) - 1 = (i : Int) by omega]
    · rw [dF hc, cond_false, if_neg hc, if_pos rfl]) (fun _ => by
    unfold f_slices_IndexFunclapi_Tolerance_api_Tolerance_L1
    simp only [cmp_lss]
    rw [dF (by omega)]; rfl) (by omega), Option.bind_some]
  unfold errOr
  by_cases h : firstErr (over l x) l.length 0 = 0
  · rw [if_pos h, h]; rfl
  · rw [if_neg h]; rfl
theorem Allowed_eq {N : Nat} {l : List GTolerance} {x : Int} (hl : l.length < 1000000) (hN : 2 ^ 64 ≤ N) : f_survey_Allowed N l x = some (allowed l x) := by
  unfold f_survey_Allowed allowed
  rw [checkTable_eq hl hN, Option.bind_some, cmp_neq]
  by_cases he : tolErr l = 0
  · have ht := tol_of he
    have l1 := ht.l1
    rw [dT he, Bool.not_true, cond_false, if_pos he, inside_eq (by simp) (by simp; omega), Option.bind_some]
    simp only [List.all_cons, List.all_nil, Bool.and_true]
    cases hi : inR 0 1000000 x with
    | false => rfl
    | true =>
      simp only [Bool.not_true, cond_false, if_true, cmp_gtr, cmp_lss]
      rw [show idx l 0 = some l[0]! from idxB (i := 0) (by omega), Option.bind_some]
      by_cases hx : x < l[0]!.From
      · rw [dT hx, cond_true, if_pos hx]
      · rw [dF hx, cond_false, if_neg hx, index_eq hl hN, Option.bind_some]
        by_cases hf : firstErr (over l x) l.length 0 = 0
        · have hz : ∀ i, i < l.length → l[i]!.From ≤ x := fun i hi => by
            have := firstErr_zero hf i (by omega) (by omega)
            unfold over at this
            split at this
            · omega
            · omega
          rw [hf, dT (by omega), cond_true, show idx l (IntKind.i64.wrap ((l.length : Int) - 1)) = some l[l.length - 1]! by rw [w64i (by omega) (by omega), show (l.length : Int) - 1 = ((l.length - 1 : Nat) : Int) by omega, idxB (by omega)], Option.bind_some]
          have : alw l x l.length = l[l.length - 1]!.Most := by
            rw [show l.length = (l.length - 1) + 1 by omega, alw, if_pos (hz _ (by omega)), Nat.add_sub_cancel]
          rw [this]
        · obtain ⟨j, _, hj, hfj, hne, hbz⟩ := firstErr_at hf
          have hov : x < l[j]!.From := by
            refine Classical.byContradiction fun hn => hne ?_
            unfold over; rw [if_neg hn]
          have hfv : firstErr (over l x) l.length 0 = ((j + 1 : Nat) : Int) := by rw [hfj]; unfold over; rw [if_pos hov]
          have hj0 : j ≠ 0 := fun e => hx (by rw [e] at hov; exact hov)
          have hbe : ∀ i, i < j → l[i]!.From ≤ x := fun i hi => by
            have := hbz i (by omega) hi
            unfold over at this
            split at this
            · omega
            · omega
          rw [hfv, show ((j + 1 : Nat) : Int) - 1 = (j : Int) by omega, dF (by omega), cond_false, idxP (by omega) hj0 hl, Option.bind_some]
          have h1 : alw l x l.length = alw l x j := alw_stay (by omega) (fun i h1 h2 => by have := ht.mono h1 h2; omega)
          have h2 : alw l x j = l[j - 1]!.Most := by
            rw [show j = (j - 1) + 1 by omega, alw, if_pos (hbe _ (by omega)), Nat.add_sub_cancel]
          rw [h1, h2]
  · rw [dF he, if_neg he]; rfl
theorem refAllowed_eq {N : Nat} {l : List GTolerance} {x : Int} (hl : l.length < 1000000) (hN : 2 ^ 64 ≤ N) : f_ref09_Allowed N l x = some (allowed l x) := by
  unfold f_ref09_Allowed allowed
  rw [refCheckTolerances_eq hl hN, Option.bind_some, cmp_neq]
  by_cases he : tolErr l = 0
  · have ht := tol_of he
    have l1 := ht.l1
    rw [dT he, Bool.not_true, cond_false, if_pos he, within_eq', Option.bind_some]
    cases hi : inR 0 1000000 x with
    | false => rfl
    | true =>
      simp only [Bool.not_true, cond_false, if_true, cmp_gtr]
      rw [show idx l 0 = some l[0]! from idxB (i := 0) (by omega), Option.bind_some]
      by_cases hx : x < l[0]!.From
      · rw [dT hx, cond_true, if_pos hx]
      · rw [dF hx, cond_false, if_neg hx]
        have := loopN_fold (f := f_ref09_Allowed_L1 N l x) l.length (fun i => alw l x i) (alw l x l.length) (fun i hi => by
          unfold f_ref09_Allowed_L1
          simp only [cmp_lss, cmp_leq]
          rw [dT (by omega), cond_true, idxB hi, Option.bind_some, w64s (by omega), alw]
          by_cases hc : l[i]!.From ≤ x
          · rw [dT hc, if_pos hc]; rfl
          · rw [dF hc, if_neg hc]; rfl) (by
          unfold f_ref09_Allowed_L1
          simp only [cmp_lss]
          rw [dF (by omega)]; rfl) N (by omega)
        rw [show loopN (f_ref09_Allowed_L1 N l x) N (0, 0) = _ from this]; rfl
  · rw [dF he, if_neg he]; rfl
/- bearings -/
def judge (t : List GTolerance) (b : GBearing) : Int :=
  if IntKind.i64.wrap (max b.Up b.Across - (allowed t b.Diameter).1) ≤ 0 then 0
  else if IntKind.i64.wrap (4 * IntKind.i64.wrap (max b.Up b.Across - (allowed t b.Diameter).1)) < (allowed t b.Diameter).1 then 1 else 2
def bnm (l : List GBearing) (i : Nat) : Str := l[i]!.Name
def brErr (t : List GTolerance) (l : List GBearing) (i : Nat) : Int :=
  if isName l[i]!.Name = true then (if dup (bnm l) i l[i]!.Name = true then 5 else if (inR 0 1000000 l[i]!.Up && inR 0 1000000 l[i]!.Across) = true then (allowed t l[i]!.Diameter).2 else 2) else 4
def clear (t : List GTolerance) (l : List GBearing) : List Int × Int :=
  if tolErr t = 0 then (if 40 < l.length then ([], 8) else if firstErr (brErr t l) l.length 0 = 0 then (l.map (judge t), 0) else ([], firstErr (brErr t l) l.length 0)) else ([], tolErr t)
theorem take_map {t : List GTolerance} {l : List GBearing} {i : Nat} (hi : i < l.length) : (l.take (i + 1)).map (judge t) = (l.take i).map (judge t) ++ [judge t l[i]!] := by
  rw [List.take_succ_eq_append_getElem hi, List.map_append, bang hi]; rfl
theorem Clearances_eq {N : Nat} {t : List GTolerance} {l : List GBearing} (ht : t.length < 1000000) (hl : l.length < 1000000) (hN : 2 ^ 64 ≤ N) : f_survey_Clearances N t l = some (clear t l) := by
  unfold f_survey_Clearances clear
  rw [checkTable_eq ht hN, Option.bind_some, cmp_neq, cmp_gtr]
  by_cases he : tolErr t = 0
  · rw [dT he, Bool.not_true, cond_false, if_pos he]
    by_cases h40 : 40 < l.length
    · rw [dT (by omega), cond_true, if_pos h40]
    · rw [dF (by omega), cond_false, if_neg h40]
      have := loop_errG (f := f_survey_Clearances_L1 N t l) (e := brErr t l) (N := N) (n := l.length) (fin := Sum.inl (l.map (judge t))) (err := fun z => Sum.inr ([], z)) (fun i => ((l.take i).map (judge t), seen (bnm l) i, (i : Int))) (fun i hi hz => by
        unfold f_survey_Clearances_L1
        simp only [cmp_lss, cmp_leq, cmp_neq]
        have happ : ∀ z : Int, app ((l.take i).map (judge t)) [z] = some ((l.take i).map (judge t) ++ [z]) := fun z => app_ok (by simp; unfold lim; omega)
        rw [dT (by omega), cond_true, idxB hi, Option.bind_some, name_eq (by omega), Option.bind_some, seen_get, inside_eq (by simp) (by simp; omega), Option.bind_some, Allowed_eq ht hN, Option.bind_some, w64s (by omega), take_map hi]
        simp only [List.all_cons, List.all_nil, Bool.and_true, happ, Option.bind_some]
        unfold brErr
        cases h1 : isName l[i]!.Name with
        | false => rfl
        | true =>
          simp only [Bool.not_true, cond_false, if_true]
          cases h2 : dup (bnm l) i l[i]!.Name with
          | true => rfl
          | false =>
            simp only [cond_false, Bool.false_eq_true, if_false]
            cases h3 : (inR 0 1000000 l[i]!.Up && inR 0 1000000 l[i]!.Across) with
            | false => rfl
            | true =>
              simp only [Bool.not_true, cond_false, if_true]
              by_cases h4 : (allowed t l[i]!.Diameter).2 = 0
              · rw [dT h4, if_pos h4, Bool.not_true, cond_false]
                unfold judge
                by_cases h5 : IntKind.i64.wrap (max l[i]!.Up l[i]!.Across - (allowed t l[i]!.Diameter).1) ≤ 0
                · rw [dT h5, if_pos h5]; rfl
                · rw [dF h5, if_neg h5, cond_false]
                  by_cases h6 : IntKind.i64.wrap (4 * IntKind.i64.wrap (max l[i]!.Up l[i]!.Across - (allowed t l[i]!.Diameter).1)) < (allowed t l[i]!.Diameter).1
                  · rw [dT h6, if_pos h6]; rfl
                  · rw [dF h6, if_neg h6]; rfl
              · rw [dF h4, if_neg h4]; rfl) (fun _ => by
        unfold f_survey_Clearances_L1
        simp only [cmp_lss]
        rw [dF (by omega), List.take_length]; rfl) (by omega)
      rw [show loopN (f_survey_Clearances_L1 N t l) N ([], ([] : List (Str × Bool)), 0) = _ from this, Option.bind_some]
      unfold errOr
      by_cases hz : firstErr (brErr t l) l.length 0 = 0
      · rw [if_pos hz, if_pos hz]; rfl
      · rw [if_neg hz, if_neg hz]; rfl
  · rw [dF he, if_neg he]; rfl
theorem bref_dup {N : Nat} {l : List GBearing} {s : List Int} {i : Nat} (hi : i < l.length) (hl : l.length < 1000000) (hN : 2 ^ 64 ≤ N) :
    loopN (f_ref09_Clearances_L1 N l (s, (i : Int))) N 0 = some (if dup (bnm l) i l[i]!.Name = true then Sum.inr ([], 5) else Sum.inl ()) := by
  rw [loop_err (f := f_ref09_Clearances_L1 N l (s, (i : Int))) (e := same (bnm l) l[i]!.Name) (n := i) (fin := Sum.inl ()) (err := fun z => Sum.inr ([], 5)) (fun j hj _ => by
    unfold f_ref09_Clearances_L1
    simp only [cmp_lss]
    rw [dT (by omega), cond_true, idxB (by omega), Option.bind_some, idxB hi, Option.bind_some, cmpS_eql, w64s (by omega)]
    unfold same bnm
    by_cases h : l[j]!.Name = l[i]!.Name
    · rw [dT h, if_pos h]; rfl
    · rw [dF h, if_neg h]; rfl) (fun _ => by
    unfold f_ref09_Clearances_L1
    simp only [cmp_lss]
    rw [dF (by omega)]; rfl) (by omega), same_dup]
  unfold errOr
  cases dup (bnm l) i l[i]!.Name <;> rfl
theorem refClearances_eq {N : Nat} {t : List GTolerance} {l : List GBearing} (ht : t.length < 1000000) (hl : l.length < 1000000) (hN : 2 ^ 64 ≤ N) : f_ref09_Clearances N t l = some (clear t l) := by
  unfold f_ref09_Clearances clear
  rw [refCheckTolerances_eq ht hN, Option.bind_some, cmp_neq, cmp_gtr]
  by_cases he : tolErr t = 0
  · rw [dT he, Bool.not_true, cond_false, if_pos he]
    by_cases h40 : 40 < l.length
    · rw [dT (by omega), cond_true, if_pos h40]
    · rw [dF (by omega), cond_false, if_neg h40]
      have := loop_errG (f := f_ref09_Clearances_L2 N t l) (e := brErr t l) (N := N) (n := l.length) (fin := Sum.inl (l.map (judge t))) (err := fun z => Sum.inr ([], z)) (fun i => ((l.take i).map (judge t), (i : Int))) (fun i hi hz => by
        unfold f_ref09_Clearances_L2
        simp only [cmp_lss, cmp_leq, cmp_neq]
        have happ : ∀ z : Int, app ((l.take i).map (judge t)) [z] = some ((l.take i).map (judge t) ++ [z]) := fun z => app_ok (by simp; unfold lim; omega)
        rw [dT (by omega), cond_true, idxB hi, Option.bind_some, IsName_eq (by omega), Option.bind_some, bref_dup hi hl hN, Option.bind_some, w64s (by omega), take_map hi]
        unfold brErr
        cases h1 : isName l[i]!.Name with
        | false => rfl
        | true =>
          simp only [Bool.not_true, cond_false, if_true]
          cases h2 : dup (bnm l) i l[i]!.Name with
          | true => rfl
          | false =>
            simp only [Bool.false_eq_true, if_false, Sum.elim_inl, Option.bind_some, within_eq']
            cases h3 : inR 0 1000000 l[i]!.Up with
            | false => rfl
            | true =>
              simp only [Bool.not_true, Bool.not_false, cond_true, Option.bind_some, Bool.true_and, Bool.false_or]
              cases h3 : inR 0 1000000 l[i]!.Across with
              | false => rfl
              | true =>
                simp only [Bool.not_true, cond_false, if_true, refAllowed_eq ht hN, Option.bind_some, happ]
                by_cases h4 : (allowed t l[i]!.Diameter).2 = 0
                · rw [dT h4, if_pos h4, Bool.not_true, cond_false]
                  unfold judge
                  by_cases h5 : IntKind.i64.wrap (max l[i]!.Up l[i]!.Across - (allowed t l[i]!.Diameter).1) ≤ 0
                  · rw [dT h5, if_pos h5]; rfl
                  · rw [dF h5, if_neg h5, cond_false]
                    by_cases h6 : IntKind.i64.wrap (4 * IntKind.i64.wrap (max l[i]!.Up l[i]!.Across - (allowed t l[i]!.Diameter).1)) < (allowed t l[i]!.Diameter).1
                    · rw [dT h6, if_pos h6]; rfl
                    · rw [dF h6, if_neg h6]; rfl
                · rw [dF h4, if_neg h4]; rfl) (fun _ => by
        unfold f_ref09_Clearances_L2
        simp only [cmp_lss]
        rw [dF (by omega), List.take_length]; rfl) (by omega)
      rw [show loopN (f_ref09_Clearances_L2 N t l) N ([], 0) = _ from this, Option.bind_some]
      unfold errOr
      by_cases hz : firstErr (brErr t l) l.length 0 = 0
      · rw [if_pos hz, if_pos hz]; rfl
      · rw [if_neg hz, if_neg hz]; rfl
  · rw [dF he, if_neg he]; rfl
theorem clear_len (t : List GTolerance) (l : List GBearing) : (clear t l).1.length ≤ l.length := by
  unfold clear
  split
  · split
    · simp
    · split <;> simp
  · simp
theorem awake_true : f_law09_awake (2 ^ 70) = some true := by kernel_rfl
def longE (l : List GBearing) (i : Nat) : Int := if 50 < l[i]!.Name.length then 1 else 0
theorem law_SurveyClearances (x0 : List GTolerance) (x1 : List GBearing) (x2 : Int) (h0 : gL GTolerance.ok x0) (h1 : gL GBearing.ok x1) (h2 : gI .i64 x2) : f_law09_SurveyClearances (2 ^ 70) x0 x1 x2 = some true := by
  have hN : 2 ^ 64 ≤ (2 ^ 70 : Nat) := by decide
  unfold f_law09_SurveyClearances
  rw [awake_true, Option.bind_some, Bool.not_true, cond_false, cmp_gtr, cmp_gtr]
  by_cases hl : 45 < x0.length ∨ 45 < x1.length
  · rw [show (decide ((45 : Int) < (x0.length : Int)) || decide ((45 : Int) < (x1.length : Int))) = true by simp; omega]; rfl
  · rw [show (decide ((45 : Int) < (x0.length : Int)) || decide ((45 : Int) < (x1.length : Int))) = false by simp; omega, cond_false]
    rw [loop_err (f := f_law09_SurveyClearances_L1 (2 ^ 70) x1) (e := longE x1) (n := x1.length) (fin := Sum.inl ()) (err := fun z => Sum.inr true) (fun i hi _ => by
      unfold f_law09_SurveyClearances_L1
      simp only [cmp_lss, cmp_gtr]
      rw [dT (by omega), cond_true, idxB hi, Option.bind_some, w64s (by omega)]
      unfold longE
      by_cases h : 50 < x1[i]!.Name.length
      · rw [dT (by omega), if_pos h]; rfl
      · rw [dF (by omega), if_neg h]; rfl) (fun _ => by
      unfold f_law09_SurveyClearances_L1
      simp only [cmp_lss]
      rw [dF (by omega)]; rfl) (by omega), Option.bind_some]
    unfold errOr
    by_cases hz : firstErr (longE x1) x1.length 0 = 0
    · rw [if_pos hz, Sum.elim_inl, Allowed_eq (by omega) hN, Option.bind_some, refAllowed_eq (by omega) hN, Option.bind_some, Clearances_eq (by omega) (by omega) hN, Option.bind_some, refClearances_eq (by omega) (by omega) hN, Option.bind_some]
      simp only [cmp_eql, decide_true, Bool.and_self, cond_true]
      have := clear_len x0 x1
      rw [Ints_refl (by omega) hN]; rfl
    · rw [if_neg hz]; rfl
end Go.KB
