/- The plain law of SurveyGoes: it returns true for every scheme, list of paintings and number. No condition. -/
import Derived.Test.YtcpcedbnpieebaaPCoat
import Derived.KernelRfl
namespace Go.KB
set_option linter.unusedVariables false
set_option maxRecDepth 100000

def waitOf (r : List GPainting) (i : Nat) : Int := IntKind.i64.wrap (r[i]!.Start - r[i - 1]!.Start)
def thErr (c : GCoat) (t : List Int) : Int := if (thick c t).2 = 0 ∧ (thick c t).1 ≠ 0 then 16 else (thick c t).2
def pErr (l : List GCoat) (r : List GPainting) (i : Nat) : Int :=
  if l.length ≤ i ∨ l[i]!.Name ≠ r[i]!.Coat then 6
  else if 0 < i ∧ waitOf r i < 0 then 10
  else if 0 < i ∧ waitOf r i < l[i]!.Soonest then 17
  else if 0 < i ∧ l[i]!.Latest < waitOf r i then 19
  else thErr l[i]! r[i]!.Readings
theorem painted_eq {N : Nat} {l : List GCoat} {r : List GPainting} {i : Nat} (hi : i < r.length) (hl : l.length < 1000000) (hr : r.length < 1000000) (ht : r[i]!.Readings.length < 1000000) (hN : 2 ^ 64 ≤ N) : f_survey_painted N l r (i : Int) = some (pErr l r i) := by
  unfold f_survey_painted
  simp only [cmp_geq, cmp_gtr, cmp_lss, cmp_eql, cmp_neq, cmpS_neq]
  by_cases h1 : l.length ≤ i
  · have e : pErr l r i = 6 := by unfold pErr; exact if_pos (.inl h1)
    rw [dT (by omega), e]; rfl
  · have gl : idx l (i : Int) = some l[i]! := idxB (by omega)
    have gr : idx r (i : Int) = some r[i]! := idxB hi
    rw [dF (by omega), Bool.not_false, cond_true, cond_true, gl, gr]
    simp only [Option.bind_some, Bool.false_or]
    by_cases h2 : l[i]!.Name = r[i]!.Coat
    · rw [dT h2, Bool.not_true, cond_false]
      have e0 : pErr l r i = (if 0 < i ∧ waitOf r i < 0 then 10 else if 0 < i ∧ waitOf r i < l[i]!.Soonest then 17 else if 0 < i ∧ l[i]!.Latest < waitOf r i then 19 else thErr l[i]! r[i]!.Readings) := by
        unfold pErr; exact if_neg (by rw [not_or]; exact ⟨h1, not_not_intro h2⟩)
      rw [Thickness_eq ht hN]
      have hth : (Option.bind (some (thick l[i]! r[i]!.Readings)) fun v17 => bif (decide (v17.2 = 0)) && (!decide (v17.1 = 0)) then some (16 : Int) else some v17.2) = some (thErr l[i]! r[i]!.Readings) := by
        rw [Option.bind_some]
        unfold thErr
        by_cases g1 : (thick l[i]! r[i]!.Readings).2 = 0
        · by_cases g2 : (thick l[i]! r[i]!.Readings).1 = 0
          · rw [dT g1, dT g2, if_neg (fun h => h.2 g2)]; rfl
          · rw [dT g1, dF g2, if_pos ⟨g1, g2⟩]; rfl
        · rw [dF g1, if_neg (fun h => g1 h.1)]; rfl
      rw [hth]
      by_cases h0 : i = 0
      · subst h0
        rw [dF (by omega), e0, if_neg (by omega), if_neg (by omega), if_neg (by omega)]; rfl
      · have hw : ((idx r (IntKind.i64.wrap ((i : Int) - 1)))) = some r[i - 1]! := idxP hi h0 hr
        rw [dT (by omega), cond_true, hw]
        simp only [Option.bind_some]
        rw [show IntKind.i64.wrap (r[i]!.Start - r[i - 1]!.Start) = waitOf r i from rfl]
        by_cases k1 : waitOf r i < 0
        · rw [dT k1, e0, if_pos ⟨by omega, k1⟩]; rfl
        · rw [dF k1, cond_false]
          rw [if_neg (fun h => k1 h.2)] at e0
          by_cases k2 : waitOf r i < l[i]!.Soonest
          · rw [dT k2, e0, if_pos ⟨by omega, k2⟩]; rfl
          · rw [dF k2, cond_false]
            rw [if_neg (fun h => k2 h.2)] at e0
            by_cases k3 : l[i]!.Latest < waitOf r i
            · rw [dT k3, e0, if_pos ⟨by omega, k3⟩]; rfl
            · rw [dF k3, e0, if_neg (fun h => k3 h.2)]; rfl
    · have e : pErr l r i = 6 := by unfold pErr; exact if_pos (.inr h2)
      rw [dF h2, e]; rfl
/- paint -/
def stErr (r : List GPainting) (i : Nat) : Int := if inR 0 1000000 r[i]!.Start = true then 0 else 2
def posE (l : List GCoat) (r : List GPainting) (i : Nat) : Int := if pErr l r i = 0 then 0 else ((i + 1 : Nat) : Int)
def paint (l : List GCoat) (r : List GPainting) : Int × Int :=
  if schErr l = 0 then (if 8 < r.length then (0, 8) else if firstErr (stErr r) r.length 0 = 0 then
    (if firstErr (posE l r) r.length 0 = 0 then ((r.length : Int), 0) else (firstErr (posE l r) r.length 0 - 1, pErr l r (firstErr (posE l r) r.length 0 - 1).toNat)) else (0, 2)) else (0, schErr l)
theorem Paint_eq {N : Nat} {l : List GCoat} {r : List GPainting} (hl : l.length < 1000000) (hr : r.length < 1000000) (ht : ∀ i, i < r.length → r[i]!.Readings.length < 1000000) (hN : 2 ^ 64 ≤ N) : f_survey_Paint N l r = some (paint l r) := by
  unfold f_survey_Paint paint
  rw [CheckScheme_eq hl hN, Option.bind_some, cmp_neq, cmp_gtr]
  by_cases hs : schErr l = 0
  · rw [dT hs, Bool.not_true, cond_false, if_pos hs]
    by_cases h8 : 8 < r.length
    · rw [dT (by omega), if_pos h8]; rfl
    · rw [dF (by omega), if_neg h8, cond_false]
      rw [loop_err (f := f_survey_Paint_L2 N r) (e := stErr r) (n := r.length) (fin := Sum.inl ()) (err := fun z => Sum.inr (0, 2)) (fun i hi _ => by
        unfold f_survey_Paint_L2
        simp only [cmp_lss]
        rw [dT (by omega), cond_true, idxB hi, Option.bind_some, inside_eq (by simp) (by simp; omega), Option.bind_some, w64s (by omega)]
        simp only [List.all_cons, List.all_nil, Bool.and_true]
        unfold stErr
        cases inR 0 1000000 r[i]!.Start <;> rfl) (fun _ => by
        unfold f_survey_Paint_L2
        simp only [cmp_lss]
        rw [dF (by omega)]; rfl) (by omega), Option.bind_some]
      unfold errOr
      by_cases hst : firstErr (stErr r) r.length 0 = 0
      · rw [if_pos hst, if_pos hst, Sum.elim_inl]
        rw [loop_err (f := f_survey_Paint_L1 N l r) (e := posE l r) (n := r.length) (fin := Sum.inl ()) (err := fun z => Sum.inr (z - 1, pErr l r (z - 1).toNat)) (fun i hi _ => by
          unfold f_survey_Paint_L1
          simp only [cmp_lss, cmp_neq]
          rw [dT (by omega), cond_true, painted_eq hi hl hr (ht i hi) hN, Option.bind_some, w64s (by omega)]
          unfold posE
          by_cases h : pErr l r i = 0
          · rw [dT h, if_pos h]; rfl
          · rw [dF h, if_neg h, if_neg (by omega), show ((i + 1 : Nat) : Int) - 1 = (i : Int) by omega, Int.toNat_natCast]; rfl) (fun _ => by
          unfold f_survey_Paint_L1
          simp only [cmp_lss]
          rw [dF (by omega)]; rfl) (by omega), Option.bind_some]
        unfold errOr
        by_cases hz : firstErr (posE l r) r.length 0 = 0
        · rw [if_pos hz, if_pos hz]; rfl
        · rw [if_neg hz, if_neg hz]; rfl
      · rw [if_neg hst, if_neg hst]; rfl
  · rw [dF hs, if_neg hs]; rfl
structure Painted (l : List GCoat) (r : List GPainting) : Prop where
  sch : schErr l = 0
  l8 : r.length ≤ 8
  st : ∀ i, i < r.length → 0 ≤ r[i]!.Start ∧ r[i]!.Start ≤ 1000000
  ok : ∀ i, i < r.length → pErr l r i = 0
theorem stErr_zero {r : List GPainting} {i : Nat} : stErr r i = 0 ↔ 0 ≤ r[i]!.Start ∧ r[i]!.Start ≤ 1000000 := by
  unfold stErr inR
  split
  · rename_i h
    simp only [Bool.and_eq_true, decide_eq_true_eq] at h
    exact ⟨fun _ => h, fun _ => rfl⟩
  · rename_i h
    simp only [Bool.and_eq_true, decide_eq_true_eq] at h
    exact ⟨fun e => (by cases e), fun e => absurd e h⟩
theorem posE_zero {l : List GCoat} {r : List GPainting} {i : Nat} : posE l r i = 0 ↔ pErr l r i = 0 := by
  unfold posE
  split
  · rename_i h; simp [h]
  · rename_i h; simp [h]; omega
theorem firstErr_all {e : Nat → Int} : ∀ {k i : Nat}, (∀ j, i ≤ j → j < i + k → e j = 0) → firstErr e k i = 0 := by
  intro k
  induction k with
  | zero => intro i _; rfl
  | succ k ih => intro i h; rw [firstErr_s0 (h i (by omega) (by omega))]; exact ih (fun j h1 h2 => h j (by omega) (by omega))
theorem painted_iff {l : List GCoat} {r : List GPainting} : (paint l r).2 = 0 ↔ Painted l r := by
  unfold paint
  by_cases hs : schErr l = 0
  · rw [if_pos hs]
    by_cases h8 : 8 < r.length
    · rw [if_pos h8]
      exact ⟨fun h => (by cases h), fun h => (by have := h.l8; omega)⟩
    · rw [if_neg h8]
      by_cases hst : firstErr (stErr r) r.length 0 = 0
      · rw [if_pos hst]
        have hs2 : ∀ i, i < r.length → 0 ≤ r[i]!.Start ∧ r[i]!.Start ≤ 1000000 := fun i hi => stErr_zero.1 (firstErr_zero hst i (by omega) (by omega))
        by_cases hz : firstErr (posE l r) r.length 0 = 0
        · rw [if_pos hz]
          exact ⟨fun _ => ⟨hs, by omega, hs2, fun i hi => posE_zero.1 (firstErr_zero hz i (by omega) (by omega))⟩, fun _ => rfl⟩
        · rw [if_neg hz]
          obtain ⟨j, _, hj, hfj, hne, _⟩ := firstErr_at hz
          have hpj : pErr l r j ≠ 0 := fun e => hne (posE_zero.2 e)
          have hv : firstErr (posE l r) r.length 0 = ((j + 1 : Nat) : Int) := by rw [hfj]; unfold posE; rw [if_neg hpj]
          rw [hv, show ((j + 1 : Nat) : Int) - 1 = (j : Int) by omega, Int.toNat_natCast]
          exact ⟨fun h => absurd h hpj, fun h => absurd (h.ok j (by omega)) hpj⟩
      · rw [if_neg hst]
        exact ⟨fun h => (by cases h), fun h => absurd (firstErr_all fun j _ hj => stErr_zero.2 (h.st j (by omega))) hst⟩
  · rw [if_neg hs]
    exact ⟨fun h => absurd h hs, fun h => absurd h.sch hs⟩
theorem paint_val {l : List GCoat} {r : List GPainting} (h : Painted l r) : paint l r = ((r.length : Int), 0) := by
  have h8 := h.l8
  unfold paint
  rw [if_pos h.sch, if_neg (by omega), if_pos (firstErr_all fun j _ hj => stErr_zero.2 (h.st j (by omega))), if_pos (firstErr_all fun j _ hj => posE_zero.2 (h.ok j (by omega)))]
/- next -/
def nxt (l : List GCoat) (r : List GPainting) : Int × Int × Int :=
  if (paint l r).2 = 0 then (if r.length = l.length then (0, 0, 18) else if r.length = 0 then (0, 1000000, 0) else
    if 1000000 < r[r.length - 1]!.Start + l[r.length]!.Soonest then (0, 0, 18) else (r[r.length - 1]!.Start + l[r.length]!.Soonest, min (r[r.length - 1]!.Start + l[r.length]!.Latest) 1000000, 0)) else (0, 0, (paint l r).2)
theorem painted_len {l : List GCoat} {r : List GPainting} (h : Painted l r) : r.length ≤ l.length := by
  refine Classical.byContradiction fun hn => ?_
  have := h.ok l.length (by omega)
  unfold pErr at this
  rw [if_pos (.inl (Nat.le_refl _))] at this
  cases this
theorem Next_eq {N : Nat} {l : List GCoat} {r : List GPainting} (hl : l.length < 1000000) (hr : r.length < 1000000) (ht : ∀ i, i < r.length → r[i]!.Readings.length < 1000000) (hN : 2 ^ 64 ≤ N) : f_survey_Next N l r = some (nxt l r) := by
  unfold f_survey_Next nxt
  rw [Paint_eq hl hr ht hN, Option.bind_some]
  simp only [cmp_neq, cmp_eql, cmp_gtr]
  by_cases h : (paint l r).2 = 0
  · have hp := painted_iff.1 h
    have hlen := painted_len hp
    rw [if_pos h, dT h, Bool.not_true, cond_false, paint_val hp]
    by_cases h1 : r.length = l.length
    · rw [dT (by omega), if_pos h1]; rfl
    · rw [dF (by omega), if_neg h1, cond_false]
      by_cases h2 : r.length = 0
      · rw [dT (by omega), if_pos h2]; rfl
      · have hs := hp.st (r.length - 1) (by omega)
        have hc := coat_of ((sch_of hp.sch).2.2 r.length (by omega)).2
        have g : idx r (IntKind.i64.wrap ((r.length : Int) - 1)) = some r[r.length - 1]! := by
          rw [w64i (by omega) (by omega), show (r.length : Int) - 1 = ((r.length - 1 : Nat) : Int) by omega, idxB (by omega)]
        rw [dF (by omega), if_neg h2, cond_false, g, idxB (show r.length < l.length by omega)]
        simp only [Option.bind_some]
        rw [w64i (n := r[r.length - 1]!.Start + l[r.length]!.Soonest) (by omega) (by omega), w64i (n := r[r.length - 1]!.Start + l[r.length]!.Latest) (by omega) (by omega)]
        by_cases h3 : 1000000 < r[r.length - 1]!.Start + l[r.length]!.Soonest
        · rw [dT h3, if_pos h3]; rfl
        · rw [dF h3, if_neg h3]; rfl
  · rw [if_neg h, dF h]; rfl
/- one painting more -/
theorem app_at {r : List GPainting} {x : GPainting} {i : Nat} (hi : i < r.length) : (r ++ [x])[i]! = r[i]! := by
  rw [bang (by simp; omega), bang hi, List.getElem_append_left hi]
theorem app_last {r : List GPainting} {x : GPainting} : (r ++ [x])[r.length]! = x := by
  rw [bang (by simp)]; simp
theorem pErr_old {l : List GCoat} {r : List GPainting} {x : GPainting} {i : Nat} (hi : i < r.length) : pErr l (r ++ [x]) i = pErr l r i := by
  unfold pErr waitOf
  rw [app_at hi, app_at (show i - 1 < r.length by omega)]
theorem thick_new {c : GCoat} (h : isName c.Name = true) (hc : coatErr c = 0) : thErr c [c.Nominal] = 0 := by
  have hcc := coat_of hc
  have : thick c [c.Nominal] = (0, 0) := by
    unfold thick
    have e : [c.Nominal].all (inR 0 20000) = true := by simp [inR]; omega
    rw [if_pos h, if_pos hc, if_neg (by simp), if_neg (by simp), if_pos e]
    have m1 : mxv [c.Nominal] ([c.Nominal].length - 1) = c.Nominal := rfl
    have m2 : mnv [c.Nominal] ([c.Nominal].length - 1) = c.Nominal := rfl
    have m3 : cnt c [c.Nominal] [c.Nominal].length = 1 := by
      show cnt c [c.Nominal] 1 = 1
      simp [cnt]
    rw [m1, m2, m3, if_neg (by omega), if_neg (by simp; omega)]
  unfold thErr
  rw [this]; rfl
theorem more {l : List GCoat} {r : List GPainting} {x : GPainting} (h : Painted l r) (hn : r.length < l.length) (hx : x.Coat = l[r.length]!.Name) (ht : x.Readings = [l[r.length]!.Nominal]) :
    (paint l (r ++ [x])).2 = 0 ↔ (0 ≤ x.Start ∧ x.Start ≤ 1000000) ∧ (0 < r.length → l[r.length]!.Soonest ≤ x.Start - r[r.length - 1]!.Start ∧ x.Start - r[r.length - 1]!.Start ≤ l[r.length]!.Latest) := by
  obtain ⟨s1, s2, s3⟩ := sch_of h.sch
  obtain ⟨c1, c2⟩ := s3 r.length hn
  have hcc := coat_of c2
  have hlen : (r ++ [x]).length = r.length + 1 := by simp
  rw [painted_iff]
  have hprev : 0 < r.length → (r ++ [x])[r.length - 1]! = r[r.length - 1]! := fun h0 => app_at (by omega)
  have hw : ∀ (h0 : 0 < r.length), (0 ≤ x.Start ∧ x.Start ≤ 1000000) → waitOf (r ++ [x]) r.length = x.Start - r[r.length - 1]!.Start := fun h0 hst => by
    have := h.st (r.length - 1) (by omega)
    unfold waitOf
    rw [app_last, hprev h0, w64i (by omega) (by omega)]
  have hlast : (0 ≤ x.Start ∧ x.Start ≤ 1000000) → (pErr l (r ++ [x]) r.length = 0 ↔ (0 < r.length → l[r.length]!.Soonest ≤ x.Start - r[r.length - 1]!.Start ∧ x.Start - r[r.length - 1]!.Start ≤ l[r.length]!.Latest)) := fun hst => by
    unfold pErr
    rw [app_last, hx, ht, if_neg (by rw [not_or]; exact ⟨by omega, not_not_intro rfl⟩), thick_new c1 c2]
    by_cases h0 : 0 < r.length
    · rw [hw h0 hst]
      generalize x.Start - r[r.length - 1]!.Start = w
      by_cases k1 : w < 0
      · rw [if_pos ⟨h0, k1⟩]; constructor
        · intro e; cases e
        · intro e; have := e h0; omega
      · rw [if_neg (fun h => k1 h.2)]
        by_cases k2 : w < l[r.length]!.Soonest
        · rw [if_pos ⟨h0, k2⟩]; constructor
          · intro e; cases e
          · intro e; have := e h0; omega
        · rw [if_neg (fun h => k2 h.2)]
          by_cases k3 : l[r.length]!.Latest < w
          · rw [if_pos ⟨h0, k3⟩]; constructor
            · intro e; cases e
            · intro e; have := e h0; omega
          · rw [if_neg (fun h => k3 h.2)]
            exact ⟨fun _ _ => by omega, fun _ => rfl⟩
    · rw [if_neg (fun h => h0 h.1), if_neg (fun h => h0 h.1), if_neg (fun h => h0 h.1)]
      exact ⟨fun _ h => absurd h h0, fun _ => rfl⟩
  constructor
  · intro hp
    have h1 := hp.st r.length (by omega)
    rw [app_last] at h1
    exact ⟨h1, (hlast h1).1 (hp.ok r.length (by omega))⟩
  · rintro ⟨h1, h2⟩
    refine ⟨h.sch, by omega, fun i hi => ?_, fun i hi => ?_⟩
    · by_cases he : i < r.length
      · rw [app_at he]; exact h.st i he
      · obtain rfl : i = r.length := by omega
        rw [app_last]; exact h1
    · by_cases he : i < r.length
      · rw [pErr_old he]; exact h.ok i he
      · obtain rfl : i = r.length := by omega
        exact (hlast h1).2 h2
theorem gU16 {n : Int} (h : gI .u16 n) : 0 ≤ n ∧ n < 65536 := by
  obtain ⟨a, b⟩ := h
  have e1 : IntKind.u16.min = 0 := by decide
  have e2 : IntKind.u16.max = 65535 := by decide
  omega
theorem awake_true : f_law09_awake (2 ^ 70) = some true := by kernel_rfl
theorem law_SurveyGoes (x0 : List GCoat) (x1 : List GPainting) (x2 : Int) (h0 : gL GCoat.ok x0) (h1 : gL GPainting.ok x1) (h2 : gI .u16 x2) : f_law09_SurveyGoes (2 ^ 70) x0 x1 x2 = some true := by
  have hN : 2 ^ 64 ≤ (2 ^ 70 : Nat) := by decide
  unfold f_law09_SurveyGoes
  rw [awake_true, Option.bind_some, Bool.not_true, cond_false, brief_eq hN, Option.bind_some]
  cases hb : briefB x0 x1 with
  | false => rfl
  | true =>
    obtain ⟨b1, b2, b3⟩ := brief_of hb
    have ht : ∀ i, i < x1.length → x1[i]!.Readings.length < 1000000 := fun i hi => by have := b3 i hi; omega
    rw [Bool.not_true, cond_false, Next_eq (by omega) (by omega) ht hN, Option.bind_some]
    simp only [cmp_neq, cmp_eql, cmp_geq, cmp_gtr]
    by_cases he : (nxt x0 x1).2.2 = 0
    · rw [dT he, Bool.not_true, cond_false]
      unfold nxt at he ⊢
      by_cases hp2 : (paint x0 x1).2 = 0
      · rw [if_pos hp2] at he ⊢
        have hp := painted_iff.1 hp2
        have hlen := painted_len hp
        by_cases hn : x1.length = x0.length
        · rw [if_pos hn] at he; cases he
        · rw [if_neg hn] at he ⊢
          have hnl : x1.length < x0.length := by omega
          obtain ⟨s1, s2, s3⟩ := sch_of hp.sch
          obtain ⟨c1, c2⟩ := s3 x1.length hnl
          have hcc := coat_of c2
          have hx2 := gU16 h2
          -- the time within which the next coat may begin
          have key : ∀ a b : Int, 0 ≤ a → a ≤ b → b ≤ 1000000 → (x1.length = 0 → a = 0 ∧ b = 1000000) → (0 < x1.length → a = x1[x1.length - 1]!.Start + x0[x1.length]!.Soonest ∧ b = min (x1[x1.length - 1]!.Start + x0[x1.length]!.Latest) 1000000) →
              ((bif (decide ((x0.length : Int) ≤ (x1.length : Int)) || decide (b < a)) then (some false) else ((idx x0 (List.length x1 : Int)).bind fun v4 => (remI (IntKind.i64.wrap x2) (IntKind.i64.wrap ((IntKind.i64.wrap (b - a)) + 1))).bind fun v5 => (idx x0 (List.length x1 : Int)).bind fun v6 => (app ([] : (List GPainting)) x1).bind fun v7 => (app v7 [(⟨v4.Name, (IntKind.i64.wrap (a + v5)), [v6.Nominal]⟩ : GPainting)]).bind fun v8 => (f_survey_Paint (2 ^ 70) x0 v8).bind fun v9 => bif ((!decide (v9.1 = (IntKind.i64.wrap ((List.length x1 : Int) + 1)))) || (!decide (v9.2 = 0))) then (some false) else (bif (decide ((List.length x1 : Int) = 0)) then (some true) else ((app ([] : (List GPainting)) x1).bind fun v10 => (app v10 [(⟨v4.Name, (IntKind.i64.wrap (a - 1)), [v6.Nominal]⟩ : GPainting)]).bind fun v11 => (f_survey_Paint (2 ^ 70) x0 v11).bind fun v12 => (app ([] : (List GPainting)) x1).bind fun v13 => (app v13 [(⟨v4.Name, (IntKind.i64.wrap (b + 1)), [v6.Nominal]⟩ : GPainting)]).bind fun v14 => (f_survey_Paint (2 ^ 70) x0 v14).bind fun v15 => some ((!decide (v12.2 = 0)) && (!decide (v15.2 = 0))))))) : Option Bool) = some true := by
            intro a b ha hab hb1 hz0 hz1
            have happ : app ([] : List GPainting) x1 = some x1 := by rw [app_ok (by simp; unfold lim; omega)]; rfl
            have happ1 : ∀ y : GPainting, app x1 [y] = some (x1 ++ [y]) := fun y => app_ok (by simp; unfold lim; omega)
            have hpn : ∀ s : Int, f_survey_Paint (2 ^ 70) x0 (x1 ++ [⟨x0[x1.length]!.Name, s, [x0[x1.length]!.Nominal]⟩]) = some (paint x0 (x1 ++ [⟨x0[x1.length]!.Name, s, [x0[x1.length]!.Nominal]⟩])) := fun s => Paint_eq (by omega) (by simp; omega) (fun i hi => by
              by_cases hlt : i < x1.length
              · rw [app_at hlt]; exact ht i hlt
              · obtain rfl : i = x1.length := by simp at hi; omega
                rw [app_last]; simp) hN
            have hmod0 := Int.emod_nonneg x2 (show b - a + 1 ≠ 0 by omega)
            have hmod1 := Int.emod_lt_of_pos x2 (show 0 < b - a + 1 by omega)
            have hrem : remI (IntKind.i64.wrap x2) (IntKind.i64.wrap (IntKind.i64.wrap (b - a) + 1)) = some (x2 % (b - a + 1)) := by
              rw [w64i (n := x2) (by omega) (by omega), w64i (n := b - a) (by omega) (by omega), w64i (by omega) (by omega)]
              unfold remI
              rw [if_neg (by omega), Int.tmod_eq_emod_of_nonneg (by omega)]
            rw [dF (by omega), dF (by omega), Bool.or_self, cond_false, idxB hnl, hrem]
            simp only [Option.bind_some, happ, happ1]
            rw [w64i (n := a + x2 % (b - a + 1)) (by omega) (by omega), w64i (n := a - 1) (by omega) (by omega), w64i (n := b + 1) (by omega) (by omega), hpn, hpn, hpn]
            simp only [Option.bind_some]
            generalize hs : a + x2 % (b - a + 1) = s
            have hsr : a ≤ s ∧ s ≤ b := by omega
            have m1 := (more (x := ⟨x0[x1.length]!.Name, s, [x0[x1.length]!.Nominal]⟩) hp hnl rfl rfl).2 ⟨⟨by show 0 ≤ s; omega, by show s ≤ 1000000; omega⟩, fun h0 => by
              show x0[x1.length]!.Soonest ≤ s - x1[x1.length - 1]!.Start ∧ s - x1[x1.length - 1]!.Start ≤ x0[x1.length]!.Latest
              have := hz1 h0; omega⟩
            have m2 := paint_val (painted_iff.1 m1)
            rw [m2, w64s (by omega)]
            have hl1 : (((x1 ++ [(⟨x0[x1.length]!.Name, s, [x0[x1.length]!.Nominal]⟩ : GPainting)]).length : Nat) : Int) = ((x1.length + 1 : Nat) : Int) := by simp
            simp only [hl1, decide_true, Bool.not_true, Bool.or_self, cond_false]
            by_cases h00 : x1.length = 0
            · rw [dT (by omega)]; rfl
            · rw [dF (by omega), cond_false]
              have hz2 := hz1 (by omega)
              have st := hp.st (x1.length - 1) (by omega)
              have n1 : (paint x0 (x1 ++ [⟨x0[x1.length]!.Name, a - 1, [x0[x1.length]!.Nominal]⟩])).2 ≠ 0 := fun e => by
                have := (more hp hnl rfl rfl).1 e
                have h3 : x0[x1.length]!.Soonest ≤ (a - 1) - x1[x1.length - 1]!.Start := (this.2 (by omega)).1
                omega
              have n2 : (paint x0 (x1 ++ [⟨x0[x1.length]!.Name, b + 1, [x0[x1.length]!.Nominal]⟩])).2 ≠ 0 := fun e => by
                have := (more hp hnl rfl rfl).1 e
                have h3 : (b + 1) - x1[x1.length - 1]!.Start ≤ x0[x1.length]!.Latest := (this.2 (by omega)).2
                have h4 : b + 1 ≤ 1000000 := this.1.2
                omega
              rw [dF n1, dF n2]; rfl
          by_cases hz : x1.length = 0
          · rw [if_pos hz]
            exact key 0 1000000 (by omega) (by omega) (by omega) (fun _ => ⟨rfl, rfl⟩) (fun h => by omega)
          · rw [if_neg hz] at he ⊢
            by_cases hbig : 1000000 < x1[x1.length - 1]!.Start + x0[x1.length]!.Soonest
            · rw [if_pos hbig] at he; cases he
            · rw [if_neg hbig]
              have st := hp.st (x1.length - 1) (by omega)
              refine key (x1[x1.length - 1]!.Start + x0[x1.length]!.Soonest) (min (x1[x1.length - 1]!.Start + x0[x1.length]!.Latest) 1000000) (by omega) ?_ (by omega) (fun h => by omega) (fun _ => ⟨rfl, rfl⟩)
              rw [Int.le_min]
              omega
      · rw [if_neg hp2] at he; exact absurd he hp2
    · rw [dF he, Bool.not_false, cond_true]
      unfold nxt at he ⊢
      by_cases hp2 : (paint x0 x1).2 = 0
      · rw [if_pos hp2] at he ⊢
        by_cases hn : x1.length = x0.length
        · rw [if_pos hn]; rfl
        · rw [if_neg hn] at he ⊢
          by_cases hz : x1.length = 0
          · rw [if_pos hz] at he; exact absurd rfl he
          · rw [if_neg hz] at he ⊢
            by_cases hbig : 1000000 < x1[x1.length - 1]!.Start + x0[x1.length]!.Soonest
            · rw [if_pos hbig]; rfl
            · rw [if_neg hbig] at he; exact absurd rfl he
      · rw [if_neg hp2]; rfl
end Go.KB
