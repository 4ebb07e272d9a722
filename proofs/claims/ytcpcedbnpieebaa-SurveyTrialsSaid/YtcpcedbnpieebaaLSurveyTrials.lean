/- The plain law of SurveyTrials: it returns true for every list of runs. No condition. -/
import Derived.Test.YtcpcedbnpieebaaLTrials1
import Derived.KernelRfl
namespace Go.KB
set_option linter.unusedVariables false
set_option maxRecDepth 100000

def qs (l : List GRun) : List Rat := l.map spQ
theorem qs_map (l : List GRun) : l.map (fun r => R (spQ r)) = (qs l).map R := by unfold qs; rw [List.map_map]; rfl
theorem qs_sz {l : List GRun} (h : trialErr l = 0) : SzL 36 (qs l) := by
  obtain ⟨h1, h2, h3⟩ := trialErr_zero h
  intro x hx
  obtain ⟨r, hr, rfl⟩ := List.mem_map.1 hx
  exact spQ_sz (h3 r hr)
theorem qs_len (l : List GRun) : (qs l).length = l.length := by unfold qs; rw [List.length_map]
def meanT (l : List GRun) : Rat := meanQ (qs l)
theorem meanT_sz {l : List GRun} (h : trialErr l = 0) : Sz 400000 (meanT l) := by
  obtain ⟨h1, h2, h3⟩ := trialErr_zero h
  exact meanQ_sz (qs_sz h) (by rw [qs_len]; omega) (by rw [qs_len]; omega)
theorem MeanOfMeans_eq {N : Nat} {l : List GRun} (hl : l.length < 1000000) (hN : 2 ^ 64 ≤ N) : f_survey_MeanOfMeans N l = some (if trialErr l = 0 then (R (meanT l), 0) else (zeroR, trialErr l)) := by
  unfold f_survey_MeanOfMeans
  rw [Speeds_eq hl hN, Option.bind_some]
  by_cases h : trialErr l = 0
  · obtain ⟨h1, h2, h3⟩ := trialErr_zero h
    rw [if_pos h, if_pos h]
    simp only [cmp_neq, decide_true, Bool.not_true, cond_false]
    rw [ratio_R (by omega) (by omega) (by omega) (by omega) (by omega) hN, Option.bind_some, show (((1 : Int) : Rat) / ((2 : Int) : Rat)) = (1 : Rat) / 2 from rfl, qs_map, meanLoop_eq (qs_sz h) (by rw [qs_len]; omega) (by rw [qs_len]; omega) hN]
    rfl
  · rw [if_neg h, if_neg h]
    simp only [cmp_neq]
    rw [dF h]; rfl
/- currents -/
def curQ (l : List GRun) (r : GRun) : Rat := if r.Back then meanT l - spQ r else spQ r - meanT l
theorem curQ_sz {l : List GRun} {r : GRun} (h : trialErr l = 0) (hr : r ∈ l) : Sz 400036 (curQ l r) := by
  have h1 := meanT_sz h
  have h2 := spQ_sz ((trialErr_zero h).2.2 r hr)
  unfold curQ
  split
  · exact (h1.sub h2).mono (by omega)
  · exact (h2.sub h1).mono (by omega)
theorem Currents_eq {N : Nat} {l : List GRun} (hl : l.length < 1000000) (hN : 2 ^ 64 ≤ N) : f_survey_Currents N l = some (if trialErr l = 0 then (l.map (fun r => R (curQ l r)), 0) else ([], trialErr l)) := by
  unfold f_survey_Currents
  rw [MeanOfMeans_eq hl hN, Option.bind_some, Speeds_eq hl hN]
  by_cases h : trialErr l = 0
  · obtain ⟨h1, h2, h3⟩ := trialErr_zero h
    rw [if_pos h, if_pos h, if_pos h]
    simp only [cmp_neq, decide_true, Bool.not_true, cond_false, Option.bind_some]
    have := loop_set (f := f_survey_Currents_L1 N l (R (meanT l), 0) (l.map (fun r => R (spQ r)), 0)) (N := N) (m := l.length) (l.map (fun r => R (spQ r))) (fun i => R (curQ l l[i]!)) (by simp) (fun i hi x hx hg => by
      unfold f_survey_Currents_L1
      simp only [cmp_lss, List.length_map]
      have hr := h3 _ (List.getElem_mem hi)
      have g1 : idx x (i : Int) = some (R (spQ l[i])) := idx_of (by rw [hg i (Nat.le_refl _), List.getElem?_map, List.getElem?_eq_getElem hi]; rfl)
      have s1 := Qf.R (meanT_sz h)
      have s2 := Qf.R (spQ_sz hr)
      rw [dT (by omega), cond_true, idx_nat hi, Option.bind_some, g1, w64s (by omega), bang hi]
      unfold curQ
      cases l[i].Back with
      | true =>
        rw [cond_true, Option.bind_some, SubRat_eq s1 s2 (by omega) hN, Option.bind_some, Option.bind_some, Int.toNat_natCast]; rfl
      | false =>
        rw [cond_false, Option.bind_some, SubRat_eq s2 s1 (by omega) hN, Option.bind_some, Option.bind_some, Int.toNat_natCast]; rfl) (fun x hx => by
      unfold f_survey_Currents_L1
      simp only [cmp_lss, List.length_map]
      rw [dF (by omega)]; rfl) (by omega)
    rw [this, Option.bind_some]
    congr 2
    rw [List.drop_of_length_le (by simp), List.append_nil]
    refine List.ext_getElem (by simp) fun i h1 h2 => ?_
    simp only [List.getElem_map, List.getElem_range]
    rw [bang (by simpa using h2)]
  · rw [if_neg h, if_neg h, if_neg h]
    simp only [cmp_neq]
    rw [dF h]; rfl
theorem refMeanT {N : Nat} {l : List GRun} (h : trialErr l = 0) (hN : 2 ^ 64 ≤ N) : f_ref09_Mean N (l.map (fun r => R (spQ r))) = some (R (meanT l)) := by
  obtain ⟨h1, h2, h3⟩ := trialErr_zero h
  rw [qs_map, refMean_eq (qs_sz h) (by rw [qs_len]; omega) (by rw [qs_len]; omega) hN]; rfl
theorem refCurrents_eq {N : Nat} {l : List GRun} (h : trialErr l = 0) (hN : 2 ^ 64 ≤ N) : f_ref09_Currents N l = some (l.map (fun r => R (curQ l r))) := by
  obtain ⟨h1, h2, h3⟩ := trialErr_zero h
  unfold f_ref09_Currents
  rw [refSpeeds_eq h hN, Option.bind_some, refMeanT h hN, Option.bind_some]
  have := loop_map (f := f_ref09_Currents_L1 N l (l.map (fun r => R (spQ r))) (R (meanT l))) (N := N) l (fun r => R (curQ l r)) (fun i hi acc ha => by
    unfold f_ref09_Currents_L1
    simp only [cmp_lss, List.length_map]
    have hr := h3 _ (List.getElem_mem hi)
    have g1 : idx (l.map (fun r => R (spQ r))) (i : Int) = some (R (spQ l[i])) := idx_of (by rw [List.getElem?_map, List.getElem?_eq_getElem hi]; rfl)
    have s1 := Qf.R (meanT_sz h)
    have s2 := Qf.R (spQ_sz hr)
    rw [dT (by omega), cond_true, idx_nat hi, Option.bind_some, g1, w64s (by omega)]
    unfold curQ
    cases l[i].Back with
    | true =>
      rw [cond_true, Option.bind_some, rSubRat_eq s1 s2 (by omega) hN, Option.bind_some, app_ok (by simp; unfold lim; omega), Option.bind_some]; rfl
    | false =>
      rw [cond_false, Option.bind_some, rSubRat_eq s2 s1 (by omega) hN, Option.bind_some, app_ok (by simp; unfold lim; omega), Option.bind_some]; rfl) (fun acc => by
    unfold f_ref09_Currents_L1
    simp only [cmp_lss, List.length_map]
    rw [dF (by omega)]; rfl) (by omega)
  rw [this]; rfl
theorem awake_true : f_law09_awake (2 ^ 70) = some true := by kernel_rfl
theorem law_SurveyTrials (x0 : List GRun) (h0 : gL GRun.ok x0) : f_law09_SurveyTrials (2 ^ 70) x0 = some true := by
  have hN : 2 ^ 64 ≤ (2 ^ 70 : Nat) := by decide
  unfold f_law09_SurveyTrials
  rw [awake_true, Option.bind_some, Bool.not_true, cond_false, cmp_gtr]
  by_cases hl : 14 < x0.length
  · rw [dT (by omega), cond_true]
  · rw [dF (by omega), cond_false, Speeds_eq (by omega) hN, Option.bind_some, MeanOfMeans_eq (by omega) hN, Option.bind_some, Currents_eq (by omega) hN, Option.bind_some, refCheckTrial_eq (by omega) hN, Option.bind_some, CheckTrial_eq (by omega) hN, Option.bind_some]
    by_cases h : trialErr x0 = 0
    · simp only [if_true, cmp_neq, h, decide_true, Bool.not_true, Bool.or_self, cond_false]
      obtain ⟨h1, h2, h3⟩ := trialErr_zero h
      have k1 : ∀ x ∈ x0.map (fun r => R (spQ r)), x.Num.Limbs.length < 1000000 ∧ x.Den.Limbs.length < 1000000 := by
        intro x hx
        obtain ⟨r, hr, rfl⟩ := List.mem_map.1 hx
        exact R_len (spQ_sz (h3 r hr)) (by omega)
      have k2 : ∀ x ∈ x0.map (fun r => R (curQ x0 r)), x.Num.Limbs.length < 1000000 ∧ x.Den.Limbs.length < 1000000 := by
        intro x hx
        obtain ⟨r, hr, rfl⟩ := List.mem_map.1 hx
        exact R_len (curQ_sz h hr) (by omega)
      rw [refSpeeds_eq h hN, Option.bind_some, SameRats_eq k1 (by rw [List.length_map]; omega) hN rfl, Option.bind_some, cond_true, Option.bind_some, cond_true, refMeanT h hN, Option.bind_some, cond_true, SameRat_R (meanT_sz h) (by omega) hN, dT rfl, Option.bind_some]
      simp only [Bool.true_and, cond_true]
      rw [refCurrents_eq h hN, Option.bind_some, SameRats_eq k2 (by rw [List.length_map]; omega) hN rfl]
      rfl
    · simp only [if_neg h, cmp_neq, cmp_eql, decide_true, Bool.not_true, Bool.or_false, cond_false]
      rw [dF h]
      simp only [Bool.not_false, cond_true, List.length_nil]
      have hz := SameRat_zero (N := 2 ^ 70) hN
      unfold zeroR at *
      rw [show (decide (((0 : Nat) : Int) = 0) && decide (((0 : Nat) : Int) = 0)) = true from rfl, cond_true, hz]
      rfl
end Go.KB
