/- The plain law of SurveyRemains: it returns true for any two panels and a rule. No condition. -/
import Derived.Test.YtcpcedbnpieebaaPBas
import Derived.Test.YtcpcedbnpieebaaPPan
import Derived.KernelRfl
namespace Go.KB
set_option linter.unusedVariables false
set_option maxRecDepth 100000

instance : Inhabited GPanel := ⟨{ Name := [], Rows := 0, Cols := 0, Built := 0, Readings := [] }⟩
/- the least of the years so far -/
def enc : Option Rat → GRat × Bool
  | none => (zeroR, false)
  | some q => (R q, true)
theorem enc_some (q : Rat) : enc (some q) = (R q, true) := rfl
def yearQ (r : GRule) (built a b : Int) : Rat := ((max (1000 * b - (1000 - r.Renew) * built) 0 : Int) : Rat) / ((1000 * (a - b) : Int) : Rat)
def least (q : Rat) : Option Rat → Option Rat
  | none => some q
  | some m => if q < m then some q else some m
theorem least_none (q : Rat) : least q none = some q := rfl
theorem least_some (q m : Rat) : least q (some m) = if q < m then some q else some m := rfl
def stp (r : GRule) (built a b : Int) (o : Option Rat) : Option Rat := if b = 0 ∨ a = 0 ∨ a ≤ b then o else least (yearQ r built a b) o
def rem (r : GRule) (p q : GPanel) : Nat → Option Rat
  | 0 => none
  | i + 1 => stp r q.Built p.Readings[i]! q.Readings[i]! (rem r p q i)
def SzO : Option Rat → Prop
  | none => True
  | some q => Sz 100 q
structure Fair (r : GRule) (p q : GPanel) : Prop where
  b0 : 100 ≤ q.Built
  b1 : q.Built ≤ 20000
  r0 : 0 ≤ r.Renew
  r1 : r.Renew ≤ 1000
  len : p.Readings.length = q.Readings.length
  l4 : q.Readings.length ≤ 400
  pa : ∀ x ∈ p.Readings, 0 ≤ x ∧ x ≤ 20000
  qa : ∀ x ∈ q.Readings, 0 ≤ x ∧ x ≤ 20000
theorem cut_bd {r : GRule} {p q : GPanel} (h : Fair r p q) : 0 ≤ (1000 - r.Renew) * q.Built ∧ (1000 - r.Renew) * q.Built ≤ 20000000 := by
  obtain ⟨b0, b1, r0, r1, _, _, _, _⟩ := h
  have h1 := mulB (A := 1000) (B := 20000) (show (1000 - r.Renew).natAbs ≤ 1000 by omega) (show q.Built.natAbs ≤ 20000 by omega)
  have h2 := Int.mul_nonneg (show 0 ≤ 1000 - r.Renew by omega) (show 0 ≤ q.Built by omega)
  omega
theorem yearQ_sz {r : GRule} {p q : GPanel} {a b : Int} (h : Fair r p q) (ha : 0 ≤ a ∧ a ≤ 20000) (hb : 0 ≤ b ∧ b ≤ 20000) : Sz 100 (yearQ r q.Built a b) := by
  have hc := cut_bd h
  unfold yearQ
  have a1 : Sz 50 (((max (1000 * b - (1000 - r.Renew) * q.Built) 0 : Int)) : Rat) := Sz.int (by omega)
  have a2 : Sz 50 (((1000 * (a - b) : Int)) : Rat) := Sz.int (by omega)
  exact (a1.div a2).mono (by omega)
theorem rem_sz {r : GRule} {p q : GPanel} (h : Fair r p q) : ∀ i, i ≤ q.Readings.length → SzO (rem r p q i) := by
  intro i
  induction i with
  | zero => intro _; trivial
  | succ i ih =>
    intro hi
    have h1 := ih (by omega)
    have hp : i < p.Readings.length := by have := h.len; omega
    simp only [rem]
    unfold stp
    split
    · exact h1
    · have ha := h.pa _ (List.getElem_mem hp)
      have hb := h.qa _ (List.getElem_mem (show i < q.Readings.length by omega))
      rw [bang hp, bang (by omega)]
      have hy := yearQ_sz h ha hb
      generalize rem r p q i = o at h1 ⊢
      cases o with
      | none => exact hy
      | some m =>
        rw [least_some]
        split
        · exact hy
        · exact h1
theorem wraps {r : GRule} {p q : GPanel} {b : Int} (h : Fair r p q) (hb : 0 ≤ b ∧ b ≤ 20000) : IntKind.i64.wrap (IntKind.i64.wrap (1000 * b) - IntKind.i64.wrap (IntKind.i64.wrap (1000 - r.Renew) * q.Built)) = 1000 * b - (1000 - r.Renew) * q.Built := by
  have hc := cut_bd h
  have h1 := h.r0
  have h2 := h.r1
  rw [w64i (n := 1000 - r.Renew) (by omega) (by omega), w64i (n := (1000 - r.Renew) * q.Built) (by omega) (by omega), w64i (n := 1000 * b) (by omega) (by omega), w64i (by omega) (by omega)]
theorem remStep {N : Nat} {r : GRule} {p q : GPanel} (h : Fair r p q) (hN : 2 ^ 64 ≤ N) (i : Nat) (hi : i < q.Readings.length) :
    f_survey_Remaining_L1 N p q r ((enc (rem r p q i)).1, (enc (rem r p q i)).2, (i : Int)) = some (.inl ((enc (rem r p q (i + 1))).1, (enc (rem r p q (i + 1))).2, ((i + 1 : Nat) : Int))) := by
  unfold f_survey_Remaining_L1
  simp only [cmp_lss, cmp_eql, cmp_leq]
  have hp : i < p.Readings.length := by have := h.len; omega
  have ha := h.pa _ (List.getElem_mem hp)
  have hb := h.qa _ (List.getElem_mem hi)
  have hl4 := h.l4
  have hy := yearQ_sz h ha hb
  have hs := rem_sz h i (by omega)
  rw [dT (by omega), cond_true, idxB hi, Option.bind_some, idxB hp, Option.bind_some]
  simp only [rem]
  rw [bang hp, bang hi]
  generalize p.Readings[i] = a at *
  generalize q.Readings[i] = b at *
  generalize rem r p q i = o at *
  rw [w64i (n := a - b) (by omega) (by omega), w64s (by omega)]
  unfold stp
  by_cases hb0 : b = 0
  · rw [dT hb0, if_pos (.inl hb0)]; rfl
  · rw [dF hb0, Bool.not_false, cond_true, Option.bind_some]
    by_cases hs0 : a = 0 ∨ a ≤ b
    · rw [if_pos (.inr hs0)]
      have : (false || decide (a = 0) || decide (a - b ≤ 0)) = true := by simp; omega
      rw [this]; rfl
    · rw [not_or] at hs0
      rw [dF hs0.1, dF (by omega), Bool.or_self, Bool.or_self, cond_false, if_neg (by omega), w64i (n := 1000 * (a - b)) (by omega) (by omega), wraps h hb]
      have hc := cut_bd h
      rw [ratio_R (by omega) (by omega) (by omega) (by omega) (by omega) hN, Option.bind_some]
      change ((bif (!(!(enc o).2)) then f_exact_CmpRat N (R (yearQ r q.Built a b)) (enc o).1 else some 0).bind fun v16 => _) = _
      cases o with
      | none => rfl
      | some m =>
        simp only [enc_some, Bool.not_true, Bool.not_false, cond_true]
        rw [CmpRat_eq (Qf.R hy) (Qf.R hs) (by omega) hN, Option.bind_some, cmpQ_lt, Bool.false_or]
        rw [least_some]
        by_cases hlt : yearQ r q.Built a b < m
        · rw [dT hlt, if_pos hlt]; rfl
        · rw [dF hlt, if_neg hlt]; rfl
theorem refStep {N : Nat} {r : GRule} {p q : GPanel} (h : Fair r p q) (hN : 2 ^ 64 ≤ N) (i : Nat) (hi : i < q.Readings.length) :
    f_ref09_Remaining_L1 N p q r ((enc (rem r p q i)).1, (enc (rem r p q i)).2, (i : Int)) = some (.inl ((enc (rem r p q (i + 1))).1, (enc (rem r p q (i + 1))).2, ((i + 1 : Nat) : Int))) := by
  unfold f_ref09_Remaining_L1
  simp only [cmp_lss, cmp_eql, cmp_leq]
  have hp : i < p.Readings.length := by have := h.len; omega
  have ha := h.pa _ (List.getElem_mem hp)
  have hb := h.qa _ (List.getElem_mem hi)
  have hl4 := h.l4
  have hy := yearQ_sz h ha hb
  have hs := rem_sz h i (by omega)
  rw [dT (by omega), cond_true, idxB hi, idxB hp, Option.bind_some, Option.bind_some]
  simp only [rem]
  rw [bang hp, bang hi]
  generalize p.Readings[i] = a at *
  generalize q.Readings[i] = b at *
  generalize rem r p q i = o at *
  rw [w64i (n := a - b) (by omega) (by omega), w64s (by omega)]
  unfold stp
  by_cases hb0 : b = 0 ∨ a = 0 ∨ a ≤ b
  · have : (decide (a = 0) || decide (b = 0) || decide (a ≤ b)) = true := by simp; omega
    rw [this, cond_true, if_pos hb0]
  · have : (decide (a = 0) || decide (b = 0) || decide (a ≤ b)) = false := by simp; omega
    rw [this, cond_false, if_neg hb0, w64i (n := 1000 * (a - b)) (by omega) (by omega), wraps h hb]
    have hc := cut_bd h
    rw [Q_R (by omega) (by omega) (by omega) (by omega) (by omega) hN, Option.bind_some]
    change ((bif (!(!(enc o).2)) then f_ref01_CmpRat N (R (yearQ r q.Built a b)) (enc o).1 else some 0).bind fun v16 => _) = _
    cases o with
    | none => rfl
    | some m =>
      simp only [enc_some, Bool.not_true, Bool.not_false, cond_true]
      rw [rCmpRat_eq (Qf.R hy) (Qf.R hs) (by omega) hN, Option.bind_some, cmpQ_lt, Bool.false_or]
      rw [least_some]
      by_cases hlt : yearQ r q.Built a b < m
      · rw [dT hlt, if_pos hlt]; rfl
      · rw [dF hlt, if_neg hlt]; rfl
def remAll (r : GRule) (p q : GPanel) : Option Rat := rem r p q q.Readings.length
theorem zero_enc : (zeroR, false, (0 : Int)) = ((enc none).1, (enc none).2, ((0 : Nat) : Int)) := rfl
theorem remLoop {N : Nat} {r : GRule} {p q : GPanel} (h : Fair r p q) (hN : 2 ^ 64 ≤ N) : loopN (f_survey_Remaining_L1 N p q r) N (zeroR, false, 0) = some (enc (remAll r p q)) := by
  have hl4 := h.l4
  have := loop_errG (f := f_survey_Remaining_L1 N p q r) (e := fun _ => 0) (N := N) (n := q.Readings.length) (fin := enc (remAll r p q)) (err := fun _ => (zeroR, false)) (fun i => ((enc (rem r p q i)).1, (enc (rem r p q i)).2, (i : Int))) (fun i hi _ => by rw [remStep h hN i hi]; rfl) (fun _ => by
    unfold f_survey_Remaining_L1
    simp only [cmp_lss]
    rw [dF (by omega)]; rfl) (by omega)
  rw [firstErr_nil] at this
  exact this
theorem refLoop {N : Nat} {r : GRule} {p q : GPanel} (h : Fair r p q) (hN : 2 ^ 64 ≤ N) : loopN (f_ref09_Remaining_L1 N p q r) N (zeroR, false, 0) = some (enc (remAll r p q)) := by
  have hl4 := h.l4
  have := loop_errG (f := f_ref09_Remaining_L1 N p q r) (e := fun _ => 0) (N := N) (n := q.Readings.length) (fin := enc (remAll r p q)) (err := fun _ => (zeroR, false)) (fun i => ((enc (rem r p q i)).1, (enc (rem r p q i)).2, (i : Int))) (fun i hi _ => by rw [refStep h hN i hi]; rfl) (fun _ => by
    unfold f_ref09_Remaining_L1
    simp only [cmp_lss]
    rw [dF (by omega)]; rfl) (by omega)
  rw [firstErr_nil] at this
  exact this
/- the error -/
def differ (p q : GPanel) : Bool := (((cmpS .neq p.Name q.Name) || (cmpI .neq p.Rows q.Rows)) || (cmpI .neq p.Cols q.Cols)) || (cmpI .neq p.Built q.Built)
def remErr (r : GRule) (p q : GPanel) : Int := if panelErr p = 0 then (if panelErr q = 0 then (if differ p q then 11 else ruleErr r) else panelErr q) else panelErr p
theorem panelErr_len {p : GPanel} (h : panelErr p = 0) : (p.Readings.length : Int) = IntKind.i64.wrap (p.Rows * p.Cols) := by
  unfold panelErr at h
  cases h1 : (!isName p.Name) with
  | true => rw [h1] at h; cases h
  | false =>
    rw [h1, cond_false] at h
    cases h2 : (((cmpI .lss p.Rows 1) || (cmpI .lss p.Cols 1)) || (!inR 100 20000 p.Built)) with
    | true => rw [h2] at h; cases h
    | false =>
      rw [h2, cond_false] at h
      cases h3 : (((cmpI .gtr p.Rows 400) || (cmpI .gtr p.Cols 400)) || (cmpI .gtr (IntKind.i64.wrap (p.Rows * p.Cols)) 400)) with
      | true => rw [h3] at h; cases h
      | false =>
        rw [h3, cond_false] at h
        cases h4 : (cmpI .neq (List.length p.Readings : Int) (IntKind.i64.wrap (p.Rows * p.Cols))) with
        | true => rw [h4] at h; cases h
        | false => simpa [cmp_neq] using h4
theorem fair_of {r : GRule} {p q : GPanel} (h : remErr r p q = 0) : Fair r p q := by
  unfold remErr at h
  by_cases hp : panelErr p = 0
  · rw [if_pos hp] at h
    by_cases hq : panelErr q = 0
    · rw [if_pos hq] at h
      cases hd : differ p q with
      | true => rw [hd] at h; cases h
      | false =>
        rw [hd, if_neg (by decide)] at h
        obtain ⟨r1, r2, r3⟩ := ruleErr_zero h
        obtain ⟨p1, p2, p3, p4⟩ := panelErr_zero hp
        obtain ⟨q1, q2, q3, q4⟩ := panelErr_zero hq
        have lp := panelErr_len hp
        have lq := panelErr_len hq
        simp only [differ, Bool.or_eq_false_iff, cmp_neq, Bool.not_eq_false', decide_eq_true_eq] at hd
        rw [hd.1.1.2, hd.1.2, ← lq] at lp
        exact ⟨q1, q2, by omega, r3, by omega, q3, p4, q4⟩
    · rw [if_neg hq] at h; exact absurd h hq
  · rw [if_neg hp] at h; exact absurd h hp
theorem Remaining_eq {N : Nat} {r : GRule} {p q : GPanel} (hp : p.Readings.length < 1000000) (hq : q.Readings.length < 1000000) (hN : 2 ^ 64 ≤ N) :
    f_survey_Remaining N p q r = some (if remErr r p q = 0 then ((enc (remAll r p q)).1, (enc (remAll r p q)).2, 0) else (zeroR, false, remErr r p q)) := by
  have hloop := loop_errG (f := f_survey_Remaining_L2 N p q) (e := fun i => panelErr ([p, q][i]!)) (N := N) (n := 2) (fin := Sum.inl zeroR) (err := fun z => Sum.inr (zeroR, false, z)) (fun i => (zeroR, (i : Int))) (fun i hi _ => by
    unfold f_survey_Remaining_L2
    simp only [cmp_lss, cmp_neq, List.length_cons, List.length_nil]
    rw [dT (by omega), cond_true, idxB (l := [p, q]) (i := i) hi, Option.bind_some]
    have hr : [p, q][i]!.Readings.length < 1000000 := by
      match i, hi with
      | 0, _ => exact hp
      | 1, _ => exact hq
    rw [CheckPanel_eq (by omega) hN, Option.bind_some, w64s (by omega)]
    by_cases h0 : panelErr ([p, q][i]!) = 0
    · rw [if_pos h0, dT h0]; rfl
    · rw [if_neg h0, dF h0]; rfl) (fun _ => by
    unfold f_survey_Remaining_L2
    simp only [cmp_lss, List.length_cons, List.length_nil]
    rw [dF (by omega)]; rfl) (by omega)
  unfold f_survey_Remaining
  rw [show ((⟨(⟨false, []⟩ : GInt), (⟨false, []⟩ : GInt)⟩ : GRat)) = zeroR from rfl]
  rw [show (loopN (f_survey_Remaining_L2 N p q) N (zeroR, 0)) = _ from hloop, Option.bind_some]
  have he : firstErr (fun i => panelErr ([p, q][i]!)) 2 0 = if panelErr p = 0 then panelErr q else panelErr p := by
    simp only [firstErr]
    by_cases h1 : panelErr p = 0
    · rw [if_pos h1]
      simp [h1]
      exact fun h => h.symm
    · rw [if_neg h1]
      simp [h1]
  rw [he]
  unfold remErr
  by_cases h1 : panelErr p = 0
  · rw [if_pos h1, if_pos h1]
    by_cases h2 : panelErr q = 0
    · rw [if_pos h2]
      unfold errOr
      rw [if_pos h2, Sum.elim_inl]
      have hd : ((((cmpS .neq p.Name q.Name) || (cmpI .neq p.Rows q.Rows)) || (cmpI .neq p.Cols q.Cols)) || (cmpI .neq p.Built q.Built)) = differ p q := rfl
      rw [hd]
      cases hdd : differ p q with
      | true => rfl
      | false =>
        rw [cond_false, checkRule_eq, Option.bind_some, cmp_neq]
        simp only [Bool.false_eq_true, if_false]
        by_cases h3 : ruleErr r = 0
        · have hf : remErr r p q = 0 := by unfold remErr; rw [if_pos h1, if_pos h2, hdd, if_neg (by decide), h3]
          rw [dT h3, Bool.not_true, cond_false, if_pos h3, remLoop (fair_of hf) hN]; rfl
        · rw [dF h3, if_neg h3]; rfl
    · rw [if_neg h2, if_neg h2]
      unfold errOr
      rw [if_neg h2]; rfl
  · rw [if_neg h1, if_neg h1]
    unfold errOr
    rw [if_neg h1, if_neg h1]; rfl
theorem refRemaining_eq {N : Nat} {r : GRule} {p q : GPanel} (h : Fair r p q) (hN : 2 ^ 64 ≤ N) : f_ref09_Remaining N p q r = some (enc (remAll r p q)) := by
  unfold f_ref09_Remaining
  rw [show ((⟨(⟨false, []⟩ : GInt), (⟨false, []⟩ : GInt)⟩ : GRat)) = zeroR from rfl, refLoop h hN]; rfl
theorem awake_true : f_law09_awake (2 ^ 70) = some true := by kernel_rfl
theorem enc_same {o : Option Rat} {N : Nat} (h : SzO o) (hN : 2 ^ 64 ≤ N) : f_base_SameRat N (enc o).1 (enc o).1 = some true := by
  cases o with
  | none => exact SameRat_zero hN
  | some q =>
    have h2 : Sz 100 q := h
    rw [enc_some, SameRat_R h2 (by omega) hN, dT rfl]
theorem law_SurveyRemains (x0 x1 : GPanel) (x2 : GRule) (h0 : x0.ok) (h1 : x1.ok) (h2 : x2.ok) : f_law09_SurveyRemains (2 ^ 70) x0 x1 x2 = some true := by
  have hN : 2 ^ 64 ≤ (2 ^ 70 : Nat) := by decide
  unfold f_law09_SurveyRemains f_law09_slim
  rw [awake_true, Option.bind_some, Bool.not_true, cond_false, Option.bind_some]
  simp only [cmp_leq]
  cases ha : (decide ((x0.Readings.length : Int) ≤ 410) && decide ((x0.Name.length : Int) ≤ 50)) with
  | false => rfl
  | true =>
    cases hb : (decide ((x1.Readings.length : Int) ≤ 410) && decide ((x1.Name.length : Int) ≤ 50)) with
    | false => rfl
    | true =>
      simp only [Bool.and_eq_true, decide_eq_true_eq] at ha hb
      simp only [Bool.not_true, Bool.not_false, cond_true, Option.bind_some, Bool.or_self, cond_false]
      rw [Remaining_eq (by omega) (by omega) hN, Option.bind_some, refCheckPanel_eq (by omega) hN, Option.bind_some, refCheckPanel_eq (by omega) hN, Option.bind_some, refCheckRule_eq]
      have hd : ((((cmpS .neq x0.Name x1.Name) || (cmpI .neq x0.Rows x1.Rows)) || (cmpI .neq x0.Cols x1.Cols)) || (cmpI .neq x0.Built x1.Built)) = differ x0 x1 := rfl
      rw [hd]
      have hz := SameRat_zero (N := 2 ^ 70) hN
      have key : ((((bif (cmpI .eql (panelErr x0) 0) then some (panelErr x1) else (some (panelErr x0))) : Option Int).bind fun o8 => ((bif ((cmpI .eql o8 0) && differ x0 x1) then (some 11) else (some o8)) : Option Int).bind fun o11 => ((bif (cmpI .eql o11 0) then ((some (ruleErr x2)).bind fun v13 => some v13) else (some o11)) : Option Int)) : Option Int) = some (remErr x2 x0 x1) := by
        unfold remErr
        simp only [cmp_eql]
        by_cases h1 : panelErr x0 = 0
        · rw [if_pos h1, dT h1, cond_true, Option.bind_some]
          by_cases h2 : panelErr x1 = 0
          · rw [if_pos h2, dT h2]
            cases differ x0 x1 with
            | true => rfl
            | false => rw [Bool.and_false, cond_false, Option.bind_some, dT h2]; rfl
          · rw [if_neg h2, dF h2, Bool.false_and, cond_false, Option.bind_some, dF h2]; rfl
        · rw [if_neg h1, dF h1, cond_false, Option.bind_some, dF h1, Bool.false_and, cond_false, Option.bind_some, dF h1]; rfl
      have key2 : ∀ F : Int → Option Bool, ((((bif (cmpI .eql (panelErr x0) 0) then some (panelErr x1) else (some (panelErr x0))) : Option Int).bind fun o8 => ((bif ((cmpI .eql o8 0) && differ x0 x1) then (some 11) else (some o8)) : Option Int).bind fun o11 => ((bif (cmpI .eql o11 0) then ((some (ruleErr x2)).bind fun v13 => some v13) else (some o11)) : Option Int).bind F) : Option Bool) = F (remErr x2 x0 x1) := by
        intro F
        have := congrArg (fun o => o.bind F) key
        simp only [Option.bind_some, Option.bind_assoc] at this ⊢
        exact this
      rw [key2]
      simp only [cmp_neq, cmp_eql]
      by_cases he : remErr x2 x0 x1 = 0
      · have hf := fair_of he
        rw [dT he, Bool.not_true, cond_false, if_pos he, refRemaining_eq hf hN, Option.bind_some]
        simp only [decide_true, Bool.true_and, beq_self_eq_true, cond_true]
        rw [enc_same (o := remAll x2 x0 x1) (rem_sz hf _ (Nat.le_refl _)) hN]; rfl
      · rw [dF he, Bool.not_false, cond_true, if_neg he]
        simp only [decide_true, Bool.true_and, Bool.not_false, cond_true]
        unfold zeroR at hz ⊢
        rw [hz]; rfl
end Go.KB
