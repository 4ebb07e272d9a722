/- The plain law of SurveyTrends: it returns true for every list of readings and two numbers. No condition. -/
import Derived.Test.YtcpcedbnpieebaaPLoop
import Derived.KernelRfl
namespace Go.KB
set_option linter.unusedVariables false
set_option maxRecDepth 100000

instance : Inhabited GReading := ⟨⟨0, 0⟩⟩
def dys (l : List GReading) : List Int := l.map (·.Day)
def vls (l : List GReading) : List Int := l.map (·.Value)
def dds (l : List GReading) : List Int := l.map (fun r => r.Day * r.Day)
def dvs (l : List GReading) : List Int := l.map (fun r => r.Day * r.Value)
def readErr (l : List GReading) (i : Nat) : Int :=
  if (!(inR 0 100000 l[i]!.Day) || !(inR (-1000000) 1000000 l[i]!.Value)) = true then 2
  else if 0 < i ∧ l[i]!.Day ≤ l[i - 1]!.Day then 10 else 0
def trendErr (l : List GReading) : Int := if l.length < 2 then 11 else if 40 < l.length then 8 else firstErr (readErr l) l.length 0
def trNum (l : List GReading) : Int := (l.length : Int) * smI (dvs l) - smI (dys l) * smI (vls l)
def trDen (l : List GReading) : Int := (l.length : Int) * smI (dds l) - smI (dys l) * smI (dys l)
def trQ (l : List GReading) : Rat := (trNum l : Rat) / (trDen l : Rat)
def InRange (r : GReading) : Prop := 0 ≤ r.Day ∧ r.Day ≤ 100000 ∧ -1000000 ≤ r.Value ∧ r.Value ≤ 1000000
theorem readErr_zero {l : List GReading} {i : Nat} (hi : i < l.length) (h : readErr l i = 0) : InRange l[i] ∧ (0 < i → l[i - 1]!.Day < l[i]!.Day) := by
  unfold readErr at h
  split at h
  · cases h
  · rename_i hc
    split at h
    · cases h
    · rename_i hd
      rw [bang hi] at hc
      simp only [inR, Bool.or_eq_true, Bool.not_eq_true', not_or, Bool.not_eq_false, Bool.and_eq_true, decide_eq_true_eq] at hc
      refine ⟨⟨hc.1.1, hc.1.2, hc.2.1, hc.2.2⟩, fun h0 => ?_⟩
      rw [not_and] at hd
      have := hd h0
      omega
theorem take_range {l : List GReading} {i : Nat} (hi : i ≤ l.length) (h : ∀ j, j < i → readErr l j = 0) : ∀ r ∈ l.take i, InRange r := by
  intro r hr
  obtain ⟨j, hj, rfl⟩ := List.getElem_of_mem hr
  rw [List.length_take] at hj
  rw [List.getElem_take]
  exact (readErr_zero (by omega) (h j (by omega))).1
structure Sums (m : List GReading) : Prop where
  x : (smI (dys m)).natAbs ≤ 100000 * m.length
  y : (smI (vls m)).natAbs ≤ 1000000 * m.length
  xx : (smI (dds m)).natAbs ≤ 10000000000 * m.length
  xy : (smI (dvs m)).natAbs ≤ 100000000000 * m.length
theorem prods {r : GReading} (h : InRange r) : (r.Day * r.Day).natAbs ≤ 10000000000 ∧ (r.Day * r.Value).natAbs ≤ 100000000000 := by
  obtain ⟨h1, h2, h3, h4⟩ := h
  exact ⟨mulB (A := 100000) (B := 100000) (by omega) (by omega), mulB (A := 100000) (B := 1000000) (by omega) (by omega)⟩
theorem sums {m : List GReading} (h : ∀ r ∈ m, InRange r) : Sums m := by
  have h1 := smI_bd (l := dys m) (a := 0) (b := 100000) (fun x hx => by obtain ⟨r, hr, rfl⟩ := List.mem_map.1 hx; have := h r hr; unfold InRange at this; omega)
  have h2 := smI_bd (l := vls m) (a := -1000000) (b := 1000000) (fun x hx => by obtain ⟨r, hr, rfl⟩ := List.mem_map.1 hx; have := h r hr; unfold InRange at this; omega)
  have h3 := smI_bd (l := dds m) (a := -10000000000) (b := 10000000000) (fun x hx => by obtain ⟨r, hr, rfl⟩ := List.mem_map.1 hx; have := (prods (h r hr)).1; omega)
  have h4 := smI_bd (l := dvs m) (a := -100000000000) (b := 100000000000) (fun x hx => by obtain ⟨r, hr, rfl⟩ := List.mem_map.1 hx; have := (prods (h r hr)).2; omega)
  have e1 : (dys m).length = m.length := by unfold dys; rw [List.length_map]
  have e2 : (vls m).length = m.length := by unfold vls; rw [List.length_map]
  have e3 : (dds m).length = m.length := by unfold dds; rw [List.length_map]
  have e4 : (dvs m).length = m.length := by unfold dvs; rw [List.length_map]
  rw [e1] at h1; rw [e2] at h2; rw [e3] at h3; rw [e4] at h4
  exact ⟨by omega, by omega, by omega, by omega⟩
theorem dys_take (l : List GReading) (i : Nat) : dys (l.take i) = (dys l).take i := by unfold dys; rw [List.map_take]
theorem sm_step {l : List GReading} {i : Nat} (hi : i < l.length) (h : GReading → Int) : smI ((l.take (i + 1)).map h) = smI ((l.take i).map h) + h l[i] := by
  rw [List.take_succ_eq_append_getElem hi, List.map_append, smI_app]; simp [smI]
def trSt (l : List GReading) (i : Nat) : GRat × Int × Int × Int × Int × Int := (zeroR, smI (dys (l.take i)), smI (vls (l.take i)), smI (dds (l.take i)), smI (dvs (l.take i)), (i : Int))
/- one step of both -/
theorem step_sums {l : List GReading} {i : Nat} (hi : i < l.length) (hl : l.length ≤ 40) (hz : ∀ j, j < i → readErr l j = 0) (h0 : readErr l i = 0) :
    (zeroR, IntKind.i64.wrap (smI (dys (l.take i)) + l[i]!.Day), IntKind.i64.wrap (smI (vls (l.take i)) + l[i]!.Value), IntKind.i64.wrap (smI (dds (l.take i)) + IntKind.i64.wrap (l[i]!.Day * l[i]!.Day)), IntKind.i64.wrap (smI (dvs (l.take i)) + IntKind.i64.wrap (l[i]!.Day * l[i]!.Value)), IntKind.i64.wrap ((i : Int) + 1)) = trSt l (i + 1) := by
  have hr := (readErr_zero hi h0).1
  obtain ⟨s1, s2, s3, s4⟩ := sums (take_range (Nat.le_of_lt hi) hz)
  obtain ⟨p1, p2⟩ := prods hr
  have hlen : (l.take i).length = i := by rw [List.length_take]; omega
  rw [hlen] at s1 s2 s3 s4
  rw [bang hi]
  obtain ⟨r1, r2, r3, r4⟩ := hr
  unfold trSt dys vls dds dvs at *
  rw [sm_step hi, sm_step hi, sm_step hi, sm_step hi, w64s (by omega), w64i (n := l[i].Day * l[i].Day) (by omega) (by omega), w64i (n := l[i].Day * l[i].Value) (by omega) (by omega), w64i (by omega) (by omega), w64i (by omega) (by omega), w64i (by omega) (by omega), w64i (by omega) (by omega)]
theorem final_sums {l : List GReading} (hl : l.length ≤ 40) (hz : ∀ j, j < l.length → readErr l j = 0) :
    IntKind.i64.wrap (IntKind.i64.wrap ((l.length : Int) * smI (dvs l)) - IntKind.i64.wrap (smI (dys l) * smI (vls l))) = trNum l ∧ IntKind.i64.wrap (IntKind.i64.wrap ((l.length : Int) * smI (dds l)) - IntKind.i64.wrap (smI (dys l) * smI (dys l))) = trDen l ∧
      (trNum l).natAbs ≤ 1000000000000000 ∧ (trDen l).natAbs ≤ 1000000000000000 := by
  have hr := take_range (Nat.le_refl l.length) hz
  rw [List.take_length] at hr
  obtain ⟨s1, s2, s3, s4⟩ := sums hr
  have m1 := mulB (a := (l.length : Int)) (A := 40) (B := 4000000000000) (by omega) (show (smI (dvs l)).natAbs ≤ 4000000000000 by omega)
  have m2 := mulB (A := 4000000) (B := 40000000) (show (smI (dys l)).natAbs ≤ 4000000 by omega) (show (smI (vls l)).natAbs ≤ 40000000 by omega)
  have m3 := mulB (a := (l.length : Int)) (A := 40) (B := 400000000000) (by omega) (show (smI (dds l)).natAbs ≤ 400000000000 by omega)
  have m4 := mulB (A := 4000000) (B := 4000000) (show (smI (dys l)).natAbs ≤ 4000000 by omega) (show (smI (dys l)).natAbs ≤ 4000000 by omega)
  unfold trNum trDen
  rw [w64i (n := (l.length : Int) * smI (dvs l)) (by omega) (by omega), w64i (n := smI (dys l) * smI (vls l)) (by omega) (by omega), w64i (n := (l.length : Int) * smI (dds l)) (by omega) (by omega), w64i (n := smI (dys l) * smI (dys l)) (by omega) (by omega), w64i (by omega) (by omega), w64i (by omega) (by omega)]
  exact ⟨rfl, rfl, by omega, by omega⟩
/- the days differ, so the divisor is positive -/
def dsq (x : Int) : List Int → Int
  | [] => 0
  | y :: r => (x - y) * (x - y) + dsq x r
theorem dsq_nonneg (x : Int) (l : List Int) : 0 ≤ dsq x l := by
  induction l with
  | nil => exact Int.le_refl _
  | cons y r ih =>
    have h2 : 0 ≤ (x - y) * (x - y) := by
      rcases Int.le_total 0 (x - y) with h | h
      · exact Int.mul_nonneg h h
      · exact Int.mul_nonneg_of_nonpos_of_nonpos h h
    simp only [dsq]; omega
theorem dsq_eq (x : Int) (l : List Int) : dsq x l = (l.length : Int) * (x * x) - 2 * x * smI l + smI (l.map (fun y => y * y)) := by
  induction l with
  | nil => simp [dsq, smI]
  | cons y r ih => simp only [dsq, smI, List.map_cons, List.length_cons, ih, Int.natCast_add]; grind
def den (l : List Int) : Int := (l.length : Int) * smI (l.map (fun y => y * y)) - smI l * smI l
theorem den_cons (x : Int) (l : List Int) : den (x :: l) = den l + dsq x l := by
  unfold den
  rw [dsq_eq]
  simp only [smI, List.map_cons, List.length_cons, Int.natCast_add]
  grind
theorem den_nonneg (l : List Int) : 0 ≤ den l := by
  induction l with
  | nil => simp [den, smI]
  | cons x r ih => rw [den_cons]; have := dsq_nonneg x r; omega
theorem den_pos {l : List Int} (h : 2 ≤ l.length) (hlt : l[0]! < l[1]!) : 0 < den l := by
  match l, h with
  | x :: y :: r, _ =>
    rw [den_cons]
    have h1 := den_nonneg (y :: r)
    have h2 := dsq_nonneg x r
    simp at hlt
    have h3 : 0 < (x - y) * (x - y) := by
      have : 0 < (y - x) * (y - x) := Int.mul_pos (by omega) (by omega)
      have e : (x - y) * (x - y) = (y - x) * (y - x) := by grind
      omega
    simp only [dsq]; omega
theorem trDen_eq (l : List GReading) : trDen l = den (dys l) := by
  unfold trDen den dds dys
  rw [List.length_map, List.map_map]; rfl
theorem trDen_pos {l : List GReading} (h2 : 2 ≤ l.length) (hz : ∀ j, j < l.length → readErr l j = 0) : 0 < trDen l := by
  rw [trDen_eq]
  refine den_pos (by unfold dys; rw [List.length_map]; exact h2) ?_
  have := (readErr_zero (i := 1) (by omega) (hz 1 (by omega))).2 (by omega)
  rw [bang (by omega), bang (by omega)] at this
  unfold dys
  rw [bang (by rw [List.length_map]; omega), bang (by rw [List.length_map]; omega), List.getElem_map, List.getElem_map]
  exact this
theorem Trend_eq {N : Nat} {l : List GReading} (hl : l.length < 1000000) (hN : 2 ^ 64 ≤ N) : f_survey_Trend N l = some (if trendErr l = 0 then (R (trQ l), 0) else (zeroR, trendErr l)) := by
  unfold f_survey_Trend
  simp only [cmp_lss, cmp_gtr]
  by_cases h2 : l.length < 2
  · have e : trendErr l = 11 := by unfold trendErr; rw [if_pos h2]
    rw [dT (by omega), cond_true, e]; rfl
  · rw [dF (by omega), cond_false]
    by_cases h40 : 40 < l.length
    · have e : trendErr l = 8 := by unfold trendErr; rw [if_neg h2, if_pos h40]
      rw [dT (by omega), cond_true, e]; rfl
    · rw [dF (by omega), cond_false]
      have e : trendErr l = firstErr (readErr l) l.length 0 := by unfold trendErr; rw [if_neg h2, if_neg h40]
      have hloop := loop_errG (f := f_survey_Trend_L1 N l) (e := readErr l) (N := N) (fin := Sum.inl (zeroR, smI (dys l), smI (vls l), smI (dds l), smI (dvs l))) (err := fun z => Sum.inr (zeroR, z)) (trSt l) (n := l.length) (fun i hi hz => by
        unfold f_survey_Trend_L1 trSt
        simp only [cmp_lss, cmp_gtr, cmp_leq]
        rw [dT (by omega), cond_true, idxB hi, Option.bind_some, inside_eq (by simp) (by simp; omega), Option.bind_some]
        simp only [List.all_cons, List.all_nil, Bool.and_true]
        cases hd : inR 0 100000 l[i]!.Day with
        | false =>
          have e2 : readErr l i = 2 := by unfold readErr; rw [hd]; rfl
          rw [e2]; rfl
        | true =>
          simp only [Bool.not_true, Bool.not_false, cond_true, Bool.false_or]
          rw [inside_eq (by simp) (by simp; omega), Option.bind_some]
          simp only [List.all_cons, List.all_nil, Bool.and_true]
          cases hv : inR (-1000000) 1000000 l[i]!.Value with
          | false =>
            have e2 : readErr l i = 2 := by unfold readErr; rw [hd, hv]; rfl
            rw [e2]; rfl
          | true =>
            simp only [Bool.not_true, cond_false]
            have hprev : ((bif decide ((0 : Int) < (i : Int)) then idx l (IntKind.i64.wrap ((i : Int) - 1)) else some (⟨0, 0⟩ : GReading)) = some l[i - 1]! ∧ 0 < i) ∨ i = 0 := by
              by_cases h0 : i = 0
              · exact .inr h0
              · rw [dT (by omega), cond_true, idxP hi h0 (by omega)]; exact .inl ⟨rfl, by omega⟩
            rcases hprev with ⟨hp, h0⟩ | h0
            · rw [hp, Option.bind_some, dT (by omega), Bool.true_and]
              by_cases hle : l[i]!.Day ≤ l[i - 1]!.Day
              · have e2 : readErr l i = 10 := by unfold readErr; rw [hd, hv, if_neg (by decide), if_pos ⟨h0, hle⟩]
                rw [dT hle, cond_true, e2]; rfl
              · have e2 : readErr l i = 0 := by unfold readErr; rw [hd, hv, if_neg (by decide), if_neg (fun h => hle h.2)]
                rw [dF hle, cond_false, if_pos e2]
                exact congrArg (fun x => some (Sum.inl x)) (step_sums hi (by omega) hz e2)
            · subst h0
              have e2 : readErr l 0 = 0 := by unfold readErr; rw [hd, hv, if_neg (by decide), if_neg (fun h => absurd h.1 (by omega))]
              rw [if_pos e2]
              exact congrArg (fun x => some (Sum.inl x)) (step_sums hi (by omega) hz e2)) (fun hz => by
        unfold f_survey_Trend_L1 trSt
        simp only [cmp_lss]
        rw [dF (by omega), List.take_length]; rfl) (by omega)
      have hst : trSt l 0 = (zeroR, 0, 0, 0, 0, 0) := by unfold trSt dys vls dds dvs; simp [smI]
      rw [hst] at hloop
      rw [show ((⟨(⟨false, []⟩ : GInt), (⟨false, []⟩ : GInt)⟩ : GRat)) = zeroR from rfl, hloop, Option.bind_some, ← e]
      unfold errOr
      by_cases hz : trendErr l = 0
      · rw [if_pos hz, if_pos hz, Sum.elim_inl]
        have hz' : ∀ j, j < l.length → readErr l j = 0 := fun j hj => firstErr_zero (e ▸ hz) j (by omega) (by omega)
        obtain ⟨f1, f2, f3, f4⟩ := final_sums (by omega) hz'
        have f5 := trDen_pos (by omega) hz'
        simp only []
        rw [f1, f2, ratio_R (by omega) (by omega) (by omega) (by omega) (by omega) hN]; rfl
      · rw [if_neg hz, if_neg hz]; rfl
theorem refTrend_eq {N : Nat} {l : List GReading} (hl : l.length < 1000000) (hN : 2 ^ 64 ≤ N) : f_ref09_Trend N l = some (if trendErr l = 0 then (R (trQ l), 0) else (zeroR, trendErr l)) := by
  unfold f_ref09_Trend
  simp only [cmp_lss, cmp_gtr]
  by_cases h2 : l.length < 2
  · have e : trendErr l = 11 := by unfold trendErr; rw [if_pos h2]
    rw [dT (by omega), cond_true, e]; rfl
  · rw [dF (by omega), cond_false]
    by_cases h40 : 40 < l.length
    · have e : trendErr l = 8 := by unfold trendErr; rw [if_neg h2, if_pos h40]
      rw [dT (by omega), cond_true, e]; rfl
    · rw [dF (by omega), cond_false]
      have e : trendErr l = firstErr (readErr l) l.length 0 := by unfold trendErr; rw [if_neg h2, if_neg h40]
      have hw : ∀ {x a b : Int}, f_ref09_within N x a b = some (inR a b x) := rfl
      have hloop := loop_errG (f := f_ref09_Trend_L1 N l) (e := readErr l) (N := N) (fin := Sum.inl (zeroR, smI (dys l), smI (vls l), smI (dds l), smI (dvs l))) (err := fun z => Sum.inr (zeroR, z)) (trSt l) (n := l.length) (fun i hi hz => by
        unfold f_ref09_Trend_L1 trSt
        simp only [cmp_lss, cmp_gtr, cmp_leq]
        rw [dT (by omega), cond_true, idxB hi, Option.bind_some, hw, Option.bind_some]
        cases hd : inR 0 100000 l[i]!.Day with
        | false =>
          have e2 : readErr l i = 2 := by unfold readErr; rw [hd]; rfl
          rw [e2]; rfl
        | true =>
          simp only [Bool.not_true, Bool.not_false, cond_true, Bool.false_or, Option.bind_some, hw]
          cases hv : inR (-1000000) 1000000 l[i]!.Value with
          | false =>
            have e2 : readErr l i = 2 := by unfold readErr; rw [hd, hv]; rfl
            rw [e2]; rfl
          | true =>
            simp only [Bool.not_true, cond_false]
            have hprev : ((bif decide ((0 : Int) < (i : Int)) then idx l (IntKind.i64.wrap ((i : Int) - 1)) else some (⟨0, 0⟩ : GReading)) = some l[i - 1]! ∧ 0 < i) ∨ i = 0 := by
              by_cases h0 : i = 0
              · exact .inr h0
              · rw [dT (by omega), cond_true, idxP hi h0 (by omega)]; exact .inl ⟨rfl, by omega⟩
            rcases hprev with ⟨hp, h0⟩ | h0
            · rw [hp, dT (by omega), cond_true, Option.bind_some, Option.bind_some, Bool.true_and]
              by_cases hle : l[i]!.Day ≤ l[i - 1]!.Day
              · have e2 : readErr l i = 10 := by unfold readErr; rw [hd, hv, if_neg (by decide), if_pos ⟨h0, hle⟩]
                rw [dT hle, cond_true, e2]; rfl
              · have e2 : readErr l i = 0 := by unfold readErr; rw [hd, hv, if_neg (by decide), if_neg (fun h => hle h.2)]
                rw [dF hle, cond_false, if_pos e2]
                exact congrArg (fun x => some (Sum.inl x)) (step_sums hi (by omega) hz e2)
            · subst h0
              have e2 : readErr l 0 = 0 := by unfold readErr; rw [hd, hv, if_neg (by decide), if_neg (fun h => absurd h.1 (by omega))]
              rw [if_pos e2]
              exact congrArg (fun x => some (Sum.inl x)) (step_sums hi (by omega) hz e2)) (fun hz => by
        unfold f_ref09_Trend_L1 trSt
        simp only [cmp_lss]
        rw [dF (by omega), List.take_length]; rfl) (by omega)
      have hst : trSt l 0 = (zeroR, 0, 0, 0, 0, 0) := by unfold trSt dys vls dds dvs; simp [smI]
      rw [hst] at hloop
      rw [show ((⟨(⟨false, []⟩ : GInt), (⟨false, []⟩ : GInt)⟩ : GRat)) = zeroR from rfl, hloop, Option.bind_some, ← e]
      unfold errOr
      by_cases hz : trendErr l = 0
      · rw [if_pos hz, if_pos hz, Sum.elim_inl]
        have hz' : ∀ j, j < l.length → readErr l j = 0 := fun j hj => firstErr_zero (e ▸ hz) j (by omega) (by omega)
        obtain ⟨f1, f2, f3, f4⟩ := final_sums (by omega) hz'
        have f5 := trDen_pos (by omega) hz'
        simp only []
        rw [f1, f2, Q_R (by omega) (by omega) (by omega) (by omega) (by omega) hN]; rfl
      · rw [if_neg hz, if_neg hz]; rfl
/- a straight line -/
theorem trend_none {l : List GReading} (h : trendErr l = 0) : 2 ≤ l.length ∧ l.length ≤ 40 ∧ ∀ j, j < l.length → readErr l j = 0 := by
  unfold trendErr at h
  split at h
  · cases h
  · split at h
    · cases h
    · exact ⟨by omega, by omega, fun j hj => firstErr_zero h j (by omega) (by omega)⟩
def lineOf (l : List GReading) (a k : Int) : List GReading := l.map (fun r => ⟨r.Day, a + k * r.Day⟩)
theorem Mod_eq {N : Nat} {x m : Int} (hm : 0 < m) (hm2 : m < 1000000) : f_base_Mod N x m = some (x % m) := by
  unfold f_base_Mod remI
  rw [if_neg (by omega), Option.bind_some, cmp_lss]
  have h1 := Int.emod_nonneg x (show m ≠ 0 by omega)
  have h2 := Int.emod_lt_of_pos x hm
  have h3 : x.tmod m = x % m ∨ (x.tmod m < 0 ∧ x.tmod m + m = x % m) := by
    rw [Int.tmod_eq_emod]
    split
    · left; omega
    · right
      rename_i h
      rw [not_or] at h
      have : x % m ≠ 0 := fun e => h.2 (Int.dvd_of_emod_eq_zero e)
      omega
  rcases h3 with h3 | ⟨h3, h4⟩
  · rw [dF (by omega), cond_false, h3]
  · rw [dT h3, cond_true, w64i (by omega) (by omega), h4]
theorem line_sums {l : List GReading} {a k : Int} : smI (dvs (lineOf l a k)) = a * smI (dys l) + k * smI (dds l) ∧ smI (vls (lineOf l a k)) = a * l.length + k * smI (dys l) ∧ dys (lineOf l a k) = dys l ∧ dds (lineOf l a k) = dds l := by
  unfold lineOf dvs vls dys dds
  refine ⟨?_, ?_, ?_, ?_⟩
  · induction l with
    | nil => simp [smI]
    | cons r l ih => simp only [List.map_cons, smI, ih]; grind
  · induction l with
    | nil => simp [smI]
    | cons r l ih => simp only [List.map_cons, smI, ih, List.length_cons, Int.natCast_add]; grind
  · rw [List.map_map]; rfl
  · rw [List.map_map]; rfl
theorem line_ok {l : List GReading} {a k : Int} (h : trendErr l = 0) (ha : 0 ≤ a ∧ a < 1000) (hk : -4 ≤ k ∧ k ≤ 4) : trendErr (lineOf l a k) = 0 := by
  obtain ⟨h1, h2, h3⟩ := trend_none h
  have hl : (lineOf l a k).length = l.length := by unfold lineOf; rw [List.length_map]
  unfold trendErr
  rw [hl, if_neg (by omega), if_neg (by omega)]
  rw [firstErr_congr (e' := fun _ => 0) (fun j hj1 hj2 _ => ?_)]
  · clear h h1 h2 h3 hl
    have : ∀ n i, firstErr (fun _ => 0) n i = 0 := by
      intro n
      induction n with
      | zero => intro i; rfl
      | succ n ih => intro i; rw [firstErr_s0 (e := fun _ => 0) rfl]; exact ih _
    exact this _ _
  · have hj : j < l.length := by omega
    obtain ⟨hr, hd⟩ := readErr_zero hj (h3 j hj)
    obtain ⟨r1, r2, r3, r4⟩ := hr
    have g1 : (lineOf l a k)[j]! = ⟨l[j].Day, a + k * l[j].Day⟩ := by rw [bang (by rw [hl]; exact hj)]; unfold lineOf; rw [List.getElem_map]
    have g2 : 0 < j → (lineOf l a k)[j - 1]!.Day = l[j - 1]!.Day := fun h0 => by
      rw [bang (by rw [hl]; omega), bang (by omega)]; unfold lineOf; rw [List.getElem_map]
    have hkd := mulB (A := 4) (B := 100000) (show k.natAbs ≤ 4 by omega) (show (l[j].Day).natAbs ≤ 100000 by omega)
    unfold readErr
    rw [g1, if_neg (by simp only [inR, Bool.or_eq_true, Bool.not_eq_true', not_or, Bool.not_eq_false, Bool.and_eq_true, decide_eq_true_eq]; omega), if_neg (by
      rintro ⟨h0, hle⟩
      rw [g2 h0] at hle
      have := hd h0
      rw [bang hj] at this
      simp only at hle
      omega)]
theorem line_trend {l : List GReading} {a k : Int} (h : trendErr l = 0) : trQ (lineOf l a k) = (k : Rat) := by
  obtain ⟨h1, h2, h3⟩ := trend_none h
  obtain ⟨e1, e2, e3, e4⟩ := line_sums (l := l) (a := a) (k := k)
  have hl : (lineOf l a k).length = l.length := by unfold lineOf; rw [List.length_map]
  have hp := trDen_pos h1 h3
  have hd : trDen (lineOf l a k) = trDen l := by unfold trDen; rw [hl, e3, e4]
  have hn : trNum (lineOf l a k) = k * trDen l := by
    unfold trNum trDen
    rw [hl, e1, e2, e3]; grind
  unfold trQ
  rw [hd, hn, Rat.intCast_mul]
  have := rat_ne (show trDen l ≠ 0 by omega)
  grind
theorem trQ_sz {l : List GReading} (h : trendErr l = 0) : Sz 120 (trQ l) := by
  obtain ⟨h1, h2, h3⟩ := trend_none h
  obtain ⟨f1, f2, f3, f4⟩ := final_sums h2 h3
  have a1 : Sz 60 (trNum l : Rat) := Sz.int (by omega)
  have a2 : Sz 60 (trDen l : Rat) := Sz.int (by omega)
  exact (a1.div a2).mono (by omega)
theorem awake_true : f_law09_awake (2 ^ 70) = some true := by kernel_rfl
theorem law_SurveyTrends (x0 : List GReading) (x1 x2 : Int) (h0 : gL GReading.ok x0) (h1 : gI .i64 x1) (h2 : gI .i64 x2) : f_law09_SurveyTrends (2 ^ 70) x0 x1 x2 = some true := by
  have hN : 2 ^ 64 ≤ (2 ^ 70 : Nat) := by decide
  unfold f_law09_SurveyTrends
  rw [awake_true, Option.bind_some, Bool.not_true, cond_false, cmp_gtr]
  by_cases hl : 45 < x0.length
  · rw [dT (by omega), cond_true]
  · rw [dF (by omega), cond_false, Trend_eq (by omega) hN, Option.bind_some, refTrend_eq (by omega) hN, Option.bind_some, Mod_eq (by omega) (by omega), Mod_eq (by omega) (by omega)]
    by_cases h : trendErr x0 = 0
    · simp only [if_true, h]
      rw [SameRat_R (trQ_sz h) (by omega) hN, Option.bind_some]
      simp only [decide_true, Bool.not_true, cmp_neq, Bool.or_self, cond_false, Option.bind_some]
      have hk : -4 ≤ x2 % 9 - 4 ∧ x2 % 9 - 4 ≤ 4 := by omega
      have ha : 0 ≤ x1 % 1000 ∧ x1 % 1000 < 1000 := by omega
      obtain ⟨t1, t2, t3⟩ := trend_none h
      have hloop := loop_map (f := f_law09_SurveyTrends_L1 (2 ^ 70) x0 (R (trQ x0), 0) (x1 % 1000) (x2 % 9)) (N := 2 ^ 70) x0 (fun r => (⟨r.Day, x1 % 1000 + (x2 % 9 - 4) * r.Day⟩ : GReading)) (fun i hi acc hacc => by
        unfold f_law09_SurveyTrends_L1
        simp only [cmp_lss, cmp_eql, decide_true, Bool.and_true]
        obtain ⟨r1, r2, r3, r4⟩ := (readErr_zero hi (t3 i hi)).1
        have hkd := mulB (A := 4) (B := 100000) (show (x2 % 9 - 4).natAbs ≤ 4 by omega) (show (x0[i].Day).natAbs ≤ 100000 by omega)
        rw [dT (by omega), cond_true, idx_nat hi, Option.bind_some, Option.bind_some, w64i (n := x2 % 9 - 4) (by omega) (by omega), w64i (n := (x2 % 9 - 4) * x0[i].Day) (by omega) (by omega), w64i (n := x1 % 1000 + (x2 % 9 - 4) * x0[i].Day) (by omega) (by omega), app_ok (by simp; unfold lim; omega), Option.bind_some, w64s (by omega)]) (fun acc => by
        unfold f_law09_SurveyTrends_L1
        simp only [cmp_lss]
        rw [dF (by omega)]; rfl) (by omega)
      rw [hloop, Option.bind_some]
      have hlo := line_ok h ha hk
      have hlt := line_trend (a := x1 % 1000) (k := x2 % 9 - 4) h
      have hls := trQ_sz hlo
      have hlen : (lineOf x0 (x1 % 1000) (x2 % 9 - 4)).length = x0.length := by unfold lineOf; rw [List.length_map]
      have hte := Trend_eq (N := 2 ^ 70) (l := lineOf x0 (x1 % 1000) (x2 % 9 - 4)) (by omega) hN
      rw [if_pos hlo] at hte
      unfold lineOf at hte
      rw [hte, Option.bind_some]
      simp only [cmp_eql, decide_true, Bool.not_false, Bool.and_self, cond_true]
      rw [w64i (by omega) (by omega), W_R (by omega) (by omega) hN, Option.bind_some]
      unfold lineOf at hlt hls
      rw [SameRat_R hls (by omega) hN, hlt, Option.bind_some]
      simp
    · simp only [if_neg h]
      have hz := SameRat_zero (N := 2 ^ 70) hN
      rw [hz, Option.bind_some]
      simp only [cmp_neq, decide_true, Bool.not_true, Bool.or_self, cond_false, Option.bind_some]
      have hloop : loopN (f_law09_SurveyTrends_L1 (2 ^ 70) x0 (zeroR, trendErr x0) (x1 % 1000) (x2 % 9)) (2 ^ 70) ([], 0) = some [] := by
        refine loopN_eq (fun s => s.1 = []) (fun _ => 0) [] (fun s hs => ?_) _ _ rfl (by decide)
        right
        unfold f_law09_SurveyTrends_L1
        simp only [cmp_eql]
        rw [dF h, Bool.and_false, cond_false, hs]
      rw [hloop, Option.bind_some, Trend_eq (by simp) hN, Option.bind_some, dF h]
      simp
end Go.KB
