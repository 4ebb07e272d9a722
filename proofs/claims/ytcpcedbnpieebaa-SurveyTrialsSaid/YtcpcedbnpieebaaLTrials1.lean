/- Plain laws: trials, their errors, speeds, means of means. No condition. -/
import Derived.Test.YtcpcedbnpieebaaPLoop
namespace Go.KB
set_option linter.unusedVariables false

instance : Inhabited GRun := ⟨⟨0, 0, 0, false⟩⟩
def runErr (l : List GRun) (i : Nat) : Int :=
  if (!(inR 0 1000000 l[i]!.Start) || !(inR 1 100000 l[i]!.Seconds && inR 1 100000 l[i]!.Metres)) = true then 2
  else if i = 0 then 0
  else if l[i]!.Start ≤ l[i - 1]!.Start then 10
  else if (decide (l[i]!.Start < IntKind.i64.wrap (l[i - 1]!.Start + l[i - 1]!.Seconds)) || (l[i - 1]!.Back == l[i]!.Back)) = true then 17 else 0
def trialErr (l : List GRun) : Int := if l.length < 2 then 11 else if 12 < l.length then 8 else firstErr (runErr l) l.length 0
theorem bang {α : Type} [Inhabited α] {l : List α} {i : Nat} (h : i < l.length) : l[i]! = l[i] := by simp [h]
theorem idxB {α : Type} [Inhabited α] {l : List α} {i : Nat} (h : i < l.length) : idx l (i : Int) = some l[i]! := by rw [idx_nat h, bang h]
theorem idxP {α : Type} [Inhabited α] {l : List α} {i : Nat} (h : i < l.length) (h0 : i ≠ 0) (hl : l.length < 1000000) : idx l (IntKind.i64.wrap ((i : Int) - 1)) = some l[i - 1]! := by
  rw [w64i (by omega) (by omega), show (i : Int) - 1 = ((i - 1 : Nat) : Int) by omega, idxB (by omega)]
theorem CheckTrial_eq {N : Nat} {l : List GRun} (hl : l.length < 1000000) (hN : 2 ^ 64 ≤ N) : f_survey_CheckTrial N l = some (trialErr l) := by
  unfold f_survey_CheckTrial trialErr
  simp only [cmp_lss, cmp_gtr]
  by_cases h2 : l.length < 2
  · rw [dT (by omega), cond_true, if_pos h2]
  · rw [dF (by omega), cond_false, if_neg h2]
    by_cases h12 : 12 < l.length
    · rw [dT (by omega), cond_true, if_pos h12]
    · rw [dF (by omega), cond_false, if_neg h12]
      refine loop_err0 (e := runErr l) (fun i hi hz => ?_) (fun _ => ?_) (by omega)
      · unfold f_survey_CheckTrial_L1
        simp only [cmp_lss, cmp_eql, cmp_leq, cmp_gtr]
        rw [dT (by omega), cond_true, idxB hi, Option.bind_some, inside_eq (by simp) (by simp; omega), Option.bind_some]
        simp only [List.all_cons, List.all_nil, Bool.and_true]
        unfold runErr
        cases hs : inR 0 1000000 l[i]!.Start with
        | false => simp
        | true =>
          simp only [Bool.not_true, Bool.not_false, cond_true, Bool.false_or]
          rw [inside_eq (by simp) (by simp; omega), Option.bind_some]
          simp only [List.all_cons, List.all_nil, Bool.and_true]
          cases hm : (inR 1 100000 l[i]!.Seconds && inR 1 100000 l[i]!.Metres) with
          | false => simp
          | true =>
            simp only [Bool.not_true, cond_false, Bool.false_eq_true, if_false]
            by_cases h0 : i = 0
            · subst h0; simp
              rw [w64i (by omega) (by omega)]
            · rw [dF (by omega), cond_false, if_neg h0, idxP hi h0 (by omega), Option.bind_some, w64s (by omega)]
              by_cases hlt : l[i]!.Start ≤ l[i - 1]!.Start
              · rw [dT hlt, cond_true, if_pos hlt]; rfl
              · rw [dF hlt, cond_false, if_neg hlt]
                cases (decide (l[i]!.Start < IntKind.i64.wrap (l[i - 1]!.Start + l[i - 1]!.Seconds)) || (l[i - 1]!.Back == l[i]!.Back)) <;> rfl
      · unfold f_survey_CheckTrial_L1
        simp only [cmp_lss]
        rw [dF (by omega)]; rfl
theorem refCheckTrial_eq {N : Nat} {l : List GRun} (hl : l.length < 1000000) (hN : 2 ^ 64 ≤ N) : f_ref09_CheckTrial N l = some (trialErr l) := by
  unfold f_ref09_CheckTrial trialErr
  simp only [cmp_lss, cmp_gtr]
  by_cases h2 : l.length < 2
  · rw [dT (by omega), cond_true, if_pos h2]
  · rw [dF (by omega), cond_false, if_neg h2]
    by_cases h12 : 12 < l.length
    · rw [dT (by omega), cond_true, if_pos h12]
    · rw [dF (by omega), cond_false, if_neg h12]
      refine loop_err0 (e := runErr l) (fun i hi hz => ?_) (fun _ => ?_) (by omega)
      · unfold f_ref09_CheckTrial_L1
        have hw : ∀ {x a b : Int}, f_ref09_within N x a b = some (inR a b x) := rfl
        simp only [cmp_lss, cmp_eql, cmp_leq]
        rw [dT (by omega), cond_true, idxB hi, Option.bind_some, hw, Option.bind_some]
        unfold runErr
        cases hs : inR 0 1000000 l[i]!.Start with
        | false => simp
        | true =>
          simp only [Bool.not_true, Bool.not_false, cond_true, Bool.false_or, Option.bind_some, hw]
          cases hm : inR 1 100000 l[i]!.Seconds with
          | false => simp
          | true =>
            simp only [Bool.not_true, Bool.not_false, cond_true, Bool.false_or, Option.bind_some, Bool.true_and]
            cases hm2 : inR 1 100000 l[i]!.Metres with
            | false => simp
            | true =>
              simp only [Bool.not_true, cond_false, Bool.false_eq_true, if_false]
              by_cases h0 : i = 0
              · subst h0; simp
                rw [w64i (by omega) (by omega)]
              · rw [dF (by omega), cond_false, if_neg h0, idxP hi h0 (by omega), Option.bind_some, w64s (by omega)]
                by_cases hlt : l[i]!.Start ≤ l[i - 1]!.Start
                · rw [dT hlt, cond_true, if_pos hlt]; rfl
                · rw [dF hlt, cond_false, if_neg hlt, Option.bind_some, Option.bind_some]
                  cases decide (l[i]!.Start < IntKind.i64.wrap (l[i - 1]!.Start + l[i - 1]!.Seconds)) with
                  | true => rfl
                  | false =>
                    simp only [Bool.not_false, cond_true, Option.bind_some, Bool.false_or]
                    have e : (l[i]!.Back == l[i - 1]!.Back) = (l[i - 1]!.Back == l[i]!.Back) := Bool.beq_comm
                    rw [e]
                    cases (l[i - 1]!.Back == l[i]!.Back) <;> rfl
      · unfold f_ref09_CheckTrial_L1
        simp only [cmp_lss]
        rw [dF (by omega)]; rfl
theorem trialErr_zero {l : List GRun} (h : trialErr l = 0) : 2 ≤ l.length ∧ l.length ≤ 12 ∧ ∀ r ∈ l, 1 ≤ r.Seconds ∧ r.Seconds ≤ 100000 ∧ 1 ≤ r.Metres ∧ r.Metres ≤ 100000 := by
  unfold trialErr at h
  split at h
  · cases h
  · split at h
    · cases h
    · refine ⟨by omega, by omega, fun r hr => ?_⟩
      obtain ⟨i, hi, rfl⟩ := List.getElem_of_mem hr
      have := firstErr_zero h i (by omega) (by omega)
      unfold runErr at this
      split at this
      · cases this
      · rename_i hc
        rw [bang hi] at hc
        simp only [inR, Bool.or_eq_true, Bool.not_eq_true', not_or, Bool.not_eq_false, Bool.and_eq_true, decide_eq_true_eq] at hc
        omega
/- speeds -/
def spQ (r : GRun) : Rat := (r.Metres : Rat) / (r.Seconds : Rat)
theorem spQ_sz {r : GRun} (h : 1 ≤ r.Seconds ∧ r.Seconds ≤ 100000 ∧ 1 ≤ r.Metres ∧ r.Metres ≤ 100000) : Sz 36 (spQ r) := by
  have h1 : Sz 18 (r.Metres : Rat) := Sz.int (by omega)
  have h2 : Sz 18 (r.Seconds : Rat) := Sz.int (by omega)
  exact h1.div h2
theorem Speeds_eq {N : Nat} {l : List GRun} (hl : l.length < 1000000) (hN : 2 ^ 64 ≤ N) : f_survey_Speeds N l = some (if trialErr l = 0 then (l.map (fun r => R (spQ r)), 0) else ([], trialErr l)) := by
  unfold f_survey_Speeds
  rw [CheckTrial_eq hl hN, Option.bind_some, cmp_neq]
  by_cases h : trialErr l = 0
  · obtain ⟨h1, h2, h3⟩ := trialErr_zero h
    rw [dT h, Bool.not_true, cond_false, if_pos h, loop_map l (fun r => R (spQ r)) (fun i hi acc ha => ?_) (fun acc => ?_) (by omega)]
    · rfl
    · unfold f_survey_Speeds_L1
      have hr := h3 _ (List.getElem_mem hi)
      simp only [cmp_lss]
      rw [dT (by omega), cond_true, idx_nat hi, Option.bind_some, ratio_R (by omega) (by omega) (by omega) (by omega) (by omega) hN, Option.bind_some, app_ok (by simp; unfold lim; omega), Option.bind_some, w64s (by omega)]
      rfl
    · unfold f_survey_Speeds_L1
      simp only [cmp_lss]
      rw [dF (by omega)]; rfl
  · rw [dF h, Bool.not_false, cond_true, if_neg h]
theorem refSpeeds_eq {N : Nat} {l : List GRun} (h : trialErr l = 0) (hN : 2 ^ 64 ≤ N) : f_ref09_Speeds N l = some (l.map (fun r => R (spQ r))) := by
  obtain ⟨h1, h2, h3⟩ := trialErr_zero h
  unfold f_ref09_Speeds
  rw [loop_map l (fun r => R (spQ r)) (fun i hi acc ha => ?_) (fun acc => ?_) (by omega)]
  · rfl
  · unfold f_ref09_Speeds_L1
    have hr := h3 _ (List.getElem_mem hi)
    simp only [cmp_lss]
    rw [dT (by omega), cond_true, idx_nat hi, Option.bind_some, Option.bind_some, Q_R (by omega) (by omega) (by omega) (by omega) (by omega) hN, Option.bind_some, app_ok (by simp; unfold lim; omega), Option.bind_some, w64s (by omega)]
    rfl
  · unfold f_ref09_Speeds_L1
    simp only [cmp_lss]
    rw [dF (by omega)]; rfl
/- means of means -/
def avg (q : List Rat) : List Rat := (List.range (q.length - 1)).map (fun i => (q.getD i 0 + q.getD (i + 1) 0) / 2)
theorem avg_len (q : List Rat) : (avg q).length = q.length - 1 := by simp [avg]
def meanF : Nat → List Rat → Rat
  | 0, q => q.getD 0 0
  | n + 1, q => if q.length ≤ 1 then q.getD 0 0 else meanF n (avg q)
theorem meanF_step {q : List Rat} (h : 2 ≤ q.length) : meanF q.length q = meanF (avg q).length (avg q) := by
  obtain ⟨n, hn⟩ : ∃ n, q.length = n + 1 := ⟨q.length - 1, by omega⟩
  rw [avg_len, hn, meanF, if_neg (by omega)]; rfl
theorem meanF_one {q : List Rat} (h : q.length = 1) : meanF q.length q = q.getD 0 0 := by rw [h, meanF, if_pos (by omega)]
def meanQ (q : List Rat) : Rat := meanF q.length q
def SzL (k : Nat) (q : List Rat) : Prop := ∀ x ∈ q, Sz k x
theorem SzL.get {k : Nat} {q : List Rat} (h : SzL k q) {i : Nat} (hi : i < q.length) : Sz k (q.getD i 0) := by
  rw [List.getD_eq_getElem?_getD, List.getElem?_eq_getElem hi]; exact h _ (List.getElem_mem hi)
theorem sz_two : Sz 2 (2 : Rat) := by unfold Sz; decide
theorem sz_half : Sz 2 ((1 : Rat) / 2) := by
  have : Sz 2 (((1 : Int) : Rat) / ((2 : Int) : Rat)) := Sz.of (by decide) (by decide)
  simpa using this
theorem SzL.avg {k : Nat} {q : List Rat} (h : SzL k q) : SzL (k + k + 2) (avg q) := by
  intro x hx
  unfold KB.avg at hx
  obtain ⟨i, hi, rfl⟩ := List.mem_map.1 hx
  rw [List.mem_range] at hi
  exact ((h.get (by omega)).add (h.get (by omega))).div sz_two
theorem mapR_get {q : List Rat} {i : Nat} (hi : i < q.length) : (q.map R)[i]? = some (R (q.getD i 0)) := by
  rw [List.getElem?_map, List.getD_eq_getElem?_getD, List.getElem?_eq_getElem hi]; rfl
theorem idx_R {q : List Rat} {i : Nat} (hi : i < q.length) : idx (q.map R) (i : Int) = some (R (q.getD i 0)) := by
  unfold idx
  rw [if_neg (by omega), Int.toNat_natCast, mapR_get hi]
theorem idx_of {α : Type} {x : List α} {i : Nat} {y : α} (h : x[i]? = some y) : idx x (i : Int) = some y := by
  unfold idx
  rw [if_neg (by omega), Int.toNat_natCast, h]
theorem round_eq {N k : Nat} {q : List Rat} (h : SzL k q) (hk : k ≤ 400000) (h2 : 2 ≤ q.length) (hl : q.length ≤ 1000) (hN : 2 ^ 64 ≤ N) : loopN (f_survey_MeanOfMeans_L1 N (R ((1 : Rat) / 2)) (q.map R)) N (q.map R, 0) = some ((avg q).map R ++ (q.map R).drop (q.length - 1)) := by
  have := loop_set (f := f_survey_MeanOfMeans_L1 N (R ((1 : Rat) / 2)) (q.map R)) (N := N) (m := q.length - 1) (q.map R) (fun i => R ((q.getD i 0 + q.getD (i + 1) 0) / 2)) (by simp) (fun i hi x hx hg => by
    unfold f_survey_MeanOfMeans_L1
    simp only [cmp_lss, List.length_map]
    rw [List.length_map] at hx
    have e1 : IntKind.i64.wrap ((i : Int) + 1) = ((i + 1 : Nat) : Int) := by rw [w64i (by omega) (by omega)]; omega
    have g1 : idx x (i : Int) = some (R (q.getD i 0)) := idx_of (by rw [hg i (Nat.le_refl _), mapR_get (by omega)])
    have g2 : idx x ((i + 1 : Nat) : Int) = some (R (q.getD (i + 1) 0)) := idx_of (by rw [hg (i + 1) (by omega), mapR_get (by omega)])
    have s1 := h.get (show i < q.length by omega)
    have s2 := h.get (show i + 1 < q.length by omega)
    rw [w64i (n := (q.length : Int) - 1) (by omega) (by omega), dT (by omega), cond_true, g1, Option.bind_some, e1, g2, Option.bind_some, AddRat_eq (Qf.R s1) (Qf.R s2) (by omega) hN, Option.bind_some, MulRat_eq (Qf.R sz_half) (Qf.R (s1.add s2)) (by omega) hN, Option.bind_some, Option.bind_some, Int.toNat_natCast]
    congr 5
    grind) (fun x hx => by
    unfold f_survey_MeanOfMeans_L1
    simp only [cmp_lss, List.length_map]
    rw [w64i (by omega) (by omega), dF (by omega)]; rfl) (by omega)
  rw [this]
  congr 2
  unfold avg
  rw [List.map_map]; rfl
def bnd (n : Nat) : Nat := 40 * 2 ^ (12 - n) - 2
theorem bnd_le {n : Nat} (h : 1 ≤ n) : bnd n ≤ 400000 := by
  unfold bnd
  have := Nat.pow_le_pow_right (n := 2) (by decide) (show 12 - n ≤ 11 by omega)
  omega
theorem bnd_step {n : Nat} (h : 2 ≤ n) (h2 : n ≤ 12) : bnd n + bnd n + 2 ≤ bnd (n - 1) := by
  unfold bnd
  have : 2 ^ (12 - (n - 1)) = 2 * 2 ^ (12 - n) := by rw [← Nat.pow_succ']; congr 1; omega
  have h1 : 1 ≤ 2 ^ (12 - n) := Nat.one_le_two_pow
  omega
theorem meanLoop_eq {N : Nat} {q : List Rat} (h : SzL 36 q) (h2 : 1 ≤ q.length) (hl : q.length ≤ 12) (hN : 2 ^ 64 ≤ N) : loopN (f_survey_MeanOfMeans_L2 N (R ((1 : Rat) / 2))) N (q.map R) = some [R (meanQ q)] := by
  refine loopN_eq (fun s => ∃ p : List Rat, s = p.map R ∧ 1 ≤ p.length ∧ p.length ≤ 12 ∧ SzL (bnd p.length) p ∧ meanQ p = meanQ q) (fun s => s.length) _ ?_ N _ ⟨q, rfl, h2, hl, fun x hx => (h x hx).mono (by unfold bnd; have : 1 ≤ 2 ^ (12 - q.length) := Nat.one_le_two_pow; omega), rfl⟩ (by rw [List.length_map]; omega)
  rintro s ⟨p, rfl, hp1, hp2, hsz, hm⟩
  unfold f_survey_MeanOfMeans_L2
  simp only [cmp_gtr, List.length_map]
  by_cases h1 : 1 < p.length
  · rw [dT (by omega), cond_true, round_eq hsz (bnd_le hp1) (by omega) (by omega) hN, Option.bind_some]
    have hlen : ((avg p).map R ++ (p.map R).drop (p.length - 1)).length = p.length := by rw [List.length_append, List.length_map, List.length_drop, List.length_map, avg_len]; omega
    rw [hlen, w64i (by omega) (by omega), show (decide ((0 : Int) ≤ (p.length : Int) - 1) && decide ((p.length : Int) - 1 ≤ (p.length : Int))) = true by simp; omega, cond_true, Option.bind_some, show ((p.length : Int) - 1).toNat = p.length - 1 by omega]
    have htk : ((avg p).map R ++ (p.map R).drop (p.length - 1)).take (p.length - 1) = (avg p).map R := List.take_left' (by rw [List.length_map, avg_len])
    rw [htk]
    refine .inl ⟨_, rfl, ⟨avg p, rfl, by rw [avg_len]; omega, by rw [avg_len]; omega, ?_, ?_⟩, by simp only [List.length_map, avg_len]; omega⟩
    · rw [avg_len]
      exact fun x hx => (hsz.avg x hx).mono (bnd_step (by omega) hp2)
    · rw [← hm]; exact (meanF_step (by omega)).symm
  · rw [dF (by omega), cond_false]
    have hp : p.length = 1 := by omega
    refine .inr ?_
    rw [← hm, meanQ, meanF_one hp]
    match p, hp with
    | [x], _ => rfl
theorem meanQ_sz {q : List Rat} (h : SzL 36 q) (h2 : 1 ≤ q.length) (hl : q.length ≤ 12) : Sz 400000 (meanQ q) := by
  have key : ∀ n (p : List Rat), p.length = n → 1 ≤ n → n ≤ 12 → SzL (bnd n) p → Sz 400000 (meanQ p) := by
    intro n
    induction n with
    | zero => intro p _ h; omega
    | succ n ih =>
      intro p hp h1 h2 hs
      by_cases hn : n = 0
      · subst hn
        rw [meanQ, meanF_one hp]
        exact (hs.get (by omega)).mono (bnd_le (by omega))
      · rw [meanQ, meanF_step (by omega)]
        exact ih (avg p) (by rw [avg_len]; omega) (by omega) (by omega) (fun x hx => (hs.avg x hx).mono (bnd_step (n := n + 1) (by omega) h2))
  exact key _ q rfl h2 hl (fun x hx => (h x hx).mono (by unfold bnd; have : 1 ≤ 2 ^ (12 - q.length) := Nat.one_le_two_pow; omega))
theorem refRound_eq {N k : Nat} {q : List Rat} (h : SzL k q) (hk : k ≤ 400000) (hl : q.length ≤ 1000) (hN : 2 ^ 64 ≤ N) (h1 : 1 ≤ q.length) : loopN (f_ref09_Mean_L1 N (q.map R)) N ([], 1) = some ((avg q).map R) := by
  refine loopN_eq (fun s => ∃ i : Nat, i < q.length ∧ s = (((avg q).take i).map R, ((i + 1 : Nat) : Int))) (fun s => q.length - s.2.toNat) _ ?_ N _ ⟨0, by omega, by simp⟩ (by simp only []; omega)
  rintro s ⟨i, hi, rfl⟩
  unfold f_ref09_Mean_L1
  simp only [cmp_lss, List.length_map]
  by_cases hlt : i + 1 < q.length
  · have s1 := h.get (show i < q.length by omega)
    have s2 := h.get hlt
    have hai : i < (avg q).length := by rw [avg_len]; omega
    rw [dT (by omega), cond_true, w64i (n := ((i + 1 : Nat) : Int) - 1) (by omega) (by omega), show ((i + 1 : Nat) : Int) - 1 = (i : Int) by omega, idx_R (by omega), Option.bind_some, idx_R hlt, Option.bind_some, rAddRat_eq (Qf.R s1) (Qf.R s2) (by omega) hN, Option.bind_some, W_R (by omega) (by omega) hN, Option.bind_some, show ((2 : Int) : Rat) = 2 from rfl, rQuoRat_eq (Qf.R (s1.add s2)) (Qf.R sz_two) (by omega) (by decide) hN, Option.bind_some, app_ok (by simp; unfold lim; omega), Option.bind_some, w64s (by omega)]
    refine .inl ⟨_, rfl, ⟨i + 1, hlt, ?_⟩, by simp only []; omega⟩
    rw [List.take_succ_eq_append_getElem hai, List.map_append]
    congr 3
    unfold avg
    simp
  · have hi2 : i = q.length - 1 := by omega
    rw [dF (by omega), cond_false]
    refine .inr ?_
    rw [List.take_of_length_le (by rw [avg_len]; omega)]
theorem refMean_eq {N : Nat} {q : List Rat} (h : SzL 36 q) (h2 : 1 ≤ q.length) (hl : q.length ≤ 12) (hN : 2 ^ 64 ≤ N) : f_ref09_Mean N (q.map R) = some (R (meanQ q)) := by
  unfold f_ref09_Mean
  have : loopN (f_ref09_Mean_L2 N) N (q.map R) = some [R (meanQ q)] := by
    refine loopN_eq (fun s => ∃ p : List Rat, s = p.map R ∧ 1 ≤ p.length ∧ p.length ≤ 12 ∧ SzL (bnd p.length) p ∧ meanQ p = meanQ q) (fun s => s.length) _ ?_ N _ ⟨q, rfl, h2, hl, fun x hx => (h x hx).mono (by unfold bnd; have : 1 ≤ 2 ^ (12 - q.length) := Nat.one_le_two_pow; omega), rfl⟩ (by rw [List.length_map]; omega)
    rintro s ⟨p, rfl, hp1, hp2, hsz, hm⟩
    unfold f_ref09_Mean_L2
    simp only [cmp_gtr, List.length_map]
    by_cases h1 : 1 < p.length
    · rw [dT (by omega), cond_true, refRound_eq hsz (bnd_le hp1) (by omega) hN hp1, Option.bind_some]
      refine .inl ⟨_, rfl, ⟨avg p, rfl, by rw [avg_len]; omega, by rw [avg_len]; omega, ?_, ?_⟩, by simp only [List.length_map, avg_len]; omega⟩
      · rw [avg_len]
        exact fun x hx => (hsz.avg x hx).mono (bnd_step (by omega) hp2)
      · rw [← hm]; exact (meanF_step (by omega)).symm
    · rw [dF (by omega), cond_false]
      have hp : p.length = 1 := by omega
      refine .inr ?_
      rw [← hm, meanQ, meanF_one hp]
      match p, hp with
      | [x], _ => rfl
  rw [this]; rfl
end Go.KB
