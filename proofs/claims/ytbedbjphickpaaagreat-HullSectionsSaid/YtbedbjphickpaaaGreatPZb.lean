/- Plain laws: names. Plain laws: maps as sets of names, texts that are compared, rows of numbers that are the same. Plain laws: the errors of ships, of the program and of the reference. Plain laws: Check of the program and of the reference, copies of ships, small ships. No condition. -/
import Derived.Test.YtbedbjphickpaaaGreatPZa
import Derived.KernelRfl
namespace Go.KB
set_option linter.unusedVariables false
end Go.KB
namespace Go.KB
set_option linter.unusedVariables false
def dup (nm : Nat → Str) : Nat → Str → Bool
 | 0, _ => false
 | i + 1, x => decide (x = nm i) || dup nm i x
def same (nm : Nat → Str) (x : Str) (j : Nat) : Int := if nm j = x then 5 else 0
end Go.KB
namespace Go.KB
set_option linter.unusedVariables false
set_option maxRecDepth 100000
instance : Inhabited GStation := ⟨⟨0, 0, [], []⟩⟩
instance : Inhabited GLoad := ⟨⟨[], 0, 0, 0, 0⟩⟩
theorem between_eq {N : Nat} {n lo hi : Int} : f_hull_between N n lo hi = some (inR lo hi n) := rfl
theorem rwithin_eq {N : Nat} {n lo hi : Int} : f_ref02_within N n lo hi = some (inR lo hi n) := rfl
def levE (t : GStation) (i : Nat) : Int := if inR 0 100000 t.Levels[i]! = true then (if 0 < i ∧ t.Levels[i]! ≤ t.Levels[i - 1]! then 10 else 0) else 2
def halE (t : GStation) (i : Nat) : Int := if inR 0 100000 t.Halves[i]! = true then 0 else 2
def formErr (t : GStation) : Int :=
 if t.Levels.length < 2 ∨ 30 < t.Levels.length ∨ t.Halves.length + 1 ≠ t.Levels.length then 11
 else if firstErr (levE t) t.Levels.length 0 = 0 then firstErr (halE t) t.Halves.length 0 else firstErr (levE t) t.Levels.length 0
def placeErr (t : GStation) : Int := if inR (-1000000) 1000000 t.X = true ∧ inR 1 100000 t.Width = true then 0 else 2
def nextErr (b t : GStation) : Int := if t.X ≤ b.X then 10 else if 2 * (t.X - b.X) < t.Width + b.Width then 17 else 0
theorem hLev_loop {N : Nat} {t : GStation} (hl : t.Levels.length < 1000000) (hN : 2 ^ 64 ≤ N) : loopN (f_hull_checkStation_L2 N t) N 0 = some (errOr (Sum.inl ()) (fun z => Sum.inr z) (firstErr (levE t) t.Levels.length 0)) := by
  refine loop_err (f := f_hull_checkStation_L2 N t) (e := levE t) (n := t.Levels.length) (fin := Sum.inl ()) (err := fun z => Sum.inr z) (fun i hi _ => ?_) (fun _ => ?_) (by omega)
  · unfold f_hull_checkStation_L2
    simp only [cmp_lss, cmp_gtr, cmp_leq]
    rw [dT (by omega), cond_true, idxB hi, bS, between_eq, bS, w64s (by omega)]
    cases h1 : inR 0 100000 t.Levels[i]! with
    | false =>
      have e : levE t i = 2 := by unfold levE; rw [h1]; rfl
      rw [e]; rfl
    | true =>
      rw [Bool.not_true, cond_false]
      by_cases h0 : i = 0
      · subst h0
        have e : levE t 0 = 0 := by unfold levE; rw [h1, if_pos rfl]; exact if_neg (by omega)
        rw [dF (by omega), cond_false, bS, Bool.false_and, e]; rfl
      · rw [dT (by omega), cond_true, idxP hi h0 hl, bS, Bool.true_and]
        by_cases hc : t.Levels[i]! ≤ t.Levels[i - 1]!
        · have e : levE t i = 10 := by unfold levE; rw [h1, if_pos rfl]; exact if_pos ⟨by omega, hc⟩
          rw [dT hc, e]; rfl
        · have e : levE t i = 0 := by unfold levE; rw [h1, if_pos rfl]; exact if_neg (fun h => hc h.2)
          rw [dF hc, e]; rfl
  · unfold f_hull_checkStation_L2
    simp only [cmp_lss]
    rw [dF (by omega)]; rfl
theorem hHal_loop {N : Nat} {t : GStation} (hl : t.Halves.length < 1000000) (hN : 2 ^ 64 ≤ N) : loopN (f_hull_checkStation_L1 N t) N 0 = some (errOr (Sum.inl ()) (fun z => Sum.inr z) (firstErr (halE t) t.Halves.length 0)) := by
 refine loop_err (f := f_hull_checkStation_L1 N t) (e := halE t) (n := t.Halves.length) (fin := Sum.inl ()) (err := fun z => Sum.inr z) (fun i hi _ => ?_) (fun _ => ?_) (by omega)
 ·unfold f_hull_checkStation_L1 halE
  simp only [cmp_lss]
  rw [dT (by omega), cond_true, idxB hi, bS, between_eq, bS, w64s (by omega)]
  cases inR 0 100000 t.Halves[i]! <;> rfl
 ·unfold f_hull_checkStation_L1
  simp only [cmp_lss]
  rw [dF (by omega)]; rfl
theorem rLev_loop {N : Nat} {t : GStation} (hl : t.Levels.length < 1000000) (hN : 2 ^ 64 ≤ N) : loopN (f_ref02_FormErr_L2 N t) N 0 = some (errOr (Sum.inl ()) (fun z => Sum.inr z) (firstErr (levE t) t.Levels.length 0)) := by
  refine loop_err (f := f_ref02_FormErr_L2 N t) (e := levE t) (n := t.Levels.length) (fin := Sum.inl ()) (err := fun z => Sum.inr z) (fun i hi _ => ?_) (fun _ => ?_) (by omega)
  · unfold f_ref02_FormErr_L2
    simp only [cmp_lss, cmp_gtr, cmp_leq]
    rw [dT (by omega), cond_true, idxB hi, bS, rwithin_eq, bS, w64s (by omega)]
    cases h1 : inR 0 100000 t.Levels[i]! with
    | false =>
      have e : levE t i = 2 := by unfold levE; rw [h1]; rfl
      rw [e]; rfl
    | true =>
      rw [Bool.not_true, cond_false]
      by_cases h0 : i = 0
      · subst h0
        have e : levE t 0 = 0 := by unfold levE; rw [h1, if_pos rfl]; exact if_neg (by omega)
        rw [dF (by omega), cond_false, bS, cond_false, bS, Bool.false_and, e]; rfl
      · rw [dT (by omega), cond_true, bS, cond_true, idxP hi h0 hl, bS, Bool.true_and]
        by_cases hc : t.Levels[i]! ≤ t.Levels[i - 1]!
        · have e : levE t i = 10 := by unfold levE; rw [h1, if_pos rfl]; exact if_pos ⟨by omega, hc⟩
          rw [dT hc, e]; rfl
        · have e : levE t i = 0 := by unfold levE; rw [h1, if_pos rfl]; exact if_neg (fun h => hc h.2)
          rw [dF hc, e]; rfl
  · unfold f_ref02_FormErr_L2
    simp only [cmp_lss]
    rw [dF (by omega)]; rfl
theorem rHal_loop {N : Nat} {t : GStation} (hl : t.Halves.length < 1000000) (hN : 2 ^ 64 ≤ N) : loopN (f_ref02_FormErr_L1 N t) N 0 = some (errOr (Sum.inl ()) (fun z => Sum.inr z) (firstErr (halE t) t.Halves.length 0)) := by
 refine loop_err (f := f_ref02_FormErr_L1 N t) (e := halE t) (n := t.Halves.length) (fin := Sum.inl ()) (err := fun z => Sum.inr z) (fun i hi _ => ?_) (fun _ => ?_) (by omega)
 ·unfold f_ref02_FormErr_L1 halE
  simp only [cmp_lss]
  rw [dT (by omega), cond_true, idxB hi, bS, rwithin_eq, bS, w64s (by omega)]
  cases inR 0 100000 t.Halves[i]! <;> rfl
 ·unfold f_ref02_FormErr_L1
  simp only [cmp_lss]
  rw [dF (by omega)]; rfl
theorem rForm_eq {N : Nat} {t : GStation} (hl : t.Levels.length < 1000000) (hh : t.Halves.length < 1000000) (hN : 2 ^ 64 ≤ N) : f_ref02_FormErr N t = some (formErr t) := by
  unfold f_ref02_FormErr
  simp only [cmp_lss, cmp_gtr, cmp_neq]
  rw [w64i (n := (t.Levels.length : Int) - 1) (by omega) (by omega)]
  by_cases hc : t.Levels.length < 2 ∨ 30 < t.Levels.length ∨ t.Halves.length + 1 ≠ t.Levels.length
  · have e : formErr t = 11 := by unfold formErr; exact if_pos hc
    rw [show (decide ((t.Levels.length : Int) < 2) || decide ((30 : Int) < (t.Levels.length : Int)) || !decide ((t.Halves.length : Int) = (t.Levels.length : Int) - 1)) = true by simp; omega, e]; rfl
  · have e : formErr t = if firstErr (levE t) t.Levels.length 0 = 0 then firstErr (halE t) t.Halves.length 0 else firstErr (levE t) t.Levels.length 0 := by unfold formErr; exact if_neg hc
    rw [show (decide ((t.Levels.length : Int) < 2) || decide ((30 : Int) < (t.Levels.length : Int)) || !decide ((t.Halves.length : Int) = (t.Levels.length : Int) - 1)) = false by simp; omega, cond_false, rLev_loop hl hN, bS, rHal_loop hh hN, e]
    unfold errOr
    by_cases h1 : firstErr (levE t) t.Levels.length 0 = 0
    · rw [if_pos h1, if_pos h1, Sum.elim_inl, bS]
      by_cases h2 : firstErr (halE t) t.Halves.length 0 = 0
      · rw [if_pos h2, h2]; rfl
      · rw [if_neg h2]; rfl
    · rw [if_neg h1, if_neg h1]; rfl
theorem hForm_eq {N : Nat} {t : GStation} (hl : t.Levels.length < 1000000) (hh : t.Halves.length < 1000000) (hN : 2 ^ 64 ≤ N) :
    ((f_hull_between N (List.length t.Levels : Int) 2 30).bind fun v12 => bif ((!v12) || (cmpI .neq (List.length t.Halves : Int) (IntKind.i64.wrap ((List.length t.Levels : Int) - 1)))) then (some 11) else ((loopN (f_hull_checkStation_L2 N t) N 0).bind fun o20 => Sum.elim (fun l22 => (loopN (f_hull_checkStation_L1 N t) N 0).bind fun o29 => Sum.elim (fun l31 => some 0) (fun r32 => some r32) o29) (fun r23 => some r23) o20) : Option Int) = some (formErr t) := by
  rw [between_eq, bS, cmp_neq, w64i (n := (t.Levels.length : Int) - 1) (by omega) (by omega)]
  by_cases hc : t.Levels.length < 2 ∨ 30 < t.Levels.length ∨ t.Halves.length + 1 ≠ t.Levels.length
  · have e : formErr t = 11 := by unfold formErr; exact if_pos hc
    rw [show ((!inR 2 30 (t.Levels.length : Int)) || !decide ((t.Halves.length : Int) = (t.Levels.length : Int) - 1)) = true by simp [inR]; omega, e]; rfl
  · have e : formErr t = if firstErr (levE t) t.Levels.length 0 = 0 then firstErr (halE t) t.Halves.length 0 else firstErr (levE t) t.Levels.length 0 := by unfold formErr; exact if_neg hc
    rw [show ((!inR 2 30 (t.Levels.length : Int)) || !decide ((t.Halves.length : Int) = (t.Levels.length : Int) - 1)) = false by simp [inR]; omega, cond_false, hLev_loop hl hN, bS, hHal_loop hh hN, e]
    unfold errOr
    by_cases h1 : firstErr (levE t) t.Levels.length 0 = 0
    · rw [if_pos h1, if_pos h1, Sum.elim_inl, bS]
      by_cases h2 : firstErr (halE t) t.Halves.length 0 = 0
      · rw [if_pos h2, h2]; rfl
      · rw [if_neg h2]; rfl
    · rw [if_neg h1, if_neg h1]; rfl
theorem place_of {t : GStation} (h : placeErr t = 0) : -1000000 ≤ t.X ∧ t.X ≤ 1000000 ∧ 1 ≤ t.Width ∧ t.Width ≤ 100000 := by
 unfold placeErr at h
 split at h
 ·rename_i hc; simp [inR] at hc; omega
 ·cases h
end Go.KB
namespace Go.KB
set_option linter.unusedVariables false
set_option maxRecDepth 100000
def staErr1 (b : Option GStation) (t : GStation) : Int :=
 if placeErr t = 0 then (match b with | none => formErr t | some x => if nextErr x t = 0 then formErr t else nextErr x t) else placeErr t
theorem place_bool (t : GStation) : placeErr t = if (inR (-1000000) 1000000 t.X && inR 1 100000 t.Width) = true then 0 else 2 := by
 unfold placeErr
 simp only [Bool.and_eq_true]
theorem checkStation_eq {N : Nat} {t : GStation} {b : Option GStation} (hl : t.Levels.length < 1000000) (hh : t.Halves.length < 1000000) (hb : ∀ x, b = some x → placeErr x = 0) (hN : 2 ^ 64 ≤ N) : f_hull_checkStation N t b = some (staErr1 b t) := by
  unfold f_hull_checkStation staErr1
  rw [between_eq, bS, between_eq]
  have hf := hForm_eq (t := t) hl hh hN
  cases h1 : inR (-1000000) 1000000 t.X with
  | false =>
    have e : placeErr t = 2 := by rw [place_bool, h1]; rfl
    rw [e]; rfl
  | true =>
    rw [Bool.not_true, Bool.not_false, cond_true, bS, Bool.false_or]
    cases h2 : inR 1 100000 t.Width with
    | false =>
      have e : placeErr t = 2 := by rw [place_bool, h1, h2]; rfl
      rw [e]; rfl
    | true =>
      have e : placeErr t = 0 := by rw [place_bool, h1, h2]; rfl
      have pt := place_of e
      rw [e, if_pos rfl, Bool.not_true, cond_false]
      cases b with
      | none => exact hf
      | some x =>
        have px := place_of (hb x rfl)
        simp only [Option.isSome_some, cond_true, bS, cmp_leq, cmp_lss]
        rw [w64i (n := t.X - x.X) (by omega) (by omega), w64i (n := 2 * (t.X - x.X)) (by omega) (by omega), w64i (n := t.Width + x.Width) (by omega) (by omega)]
        by_cases h3 : t.X ≤ x.X
        · have e3 : nextErr x t = 10 := by unfold nextErr; exact if_pos h3
          rw [dT (by omega), e3]; rfl
        · rw [dF (by omega), cond_false]
          by_cases h4 : 2 * (t.X - x.X) < t.Width + x.Width
          · have e4 : nextErr x t = 17 := by unfold nextErr; rw [if_neg h3]; exact if_pos h4
            rw [dT h4, e4]; rfl
          · have e4 : nextErr x t = 0 := by unfold nextErr; rw [if_neg h3]; exact if_neg h4
            rw [dF h4, e4, if_pos rfl]
            exact hf
def staErr (l : List GStation) (i : Nat) : Int := staErr1 (if i = 0 then none else some l[i - 1]!) l[i]!
def numErr (l : GLoad) (least : Int) : Int := if (inR least 1000000000 l.Mass && inR (-1000000) 1000000 l.X && inR (-100000) 100000 l.Z && inR 0 1000000000 l.Free) = true then 0 else 2
def nmF (s : GShip) : Nat → Str
 | 0 => s.Light.Name
 | k + 1 => s.Items[k]!.Name
def itErr (s : GShip) (i : Nat) : Int := if isName s.Items[i]!.Name = true then (if dup (nmF s) (i + 1) s.Items[i]!.Name = true then 5 else numErr s.Items[i]! 0) else 4
def ldsErr (s : GShip) : Int := if isName s.Light.Name = true then (if numErr s.Light 1 = 0 then (if 60 < s.Items.length then 8 else firstErr (itErr s) s.Items.length 0) else numErr s.Light 1) else 4
def shpErr (s : GShip) : Int :=
 if isName s.Name = true then (if (inR 1 1000000 s.Length && inR 1 40 (s.Stations.length : Int)) = true then (if firstErr (staErr s.Stations) s.Stations.length 0 = 0 then ldsErr s else firstErr (staErr s.Stations) s.Stations.length 0) else 2) else 4
structure Tame (s : GShip) : Prop where
 st : s.Stations.length < 1000000
 it : s.Items.length < 1000000
 lv : ∀ i, i < s.Stations.length → s.Stations[i]!.Levels.length < 1000000
 hv : ∀ i, i < s.Stations.length → s.Stations[i]!.Halves.length < 1000000
 s6 : s.Stations.length ≤ 6 ∨ 40 < s.Stations.length
 i8 : s.Items.length ≤ 8 ∨ 60 < s.Items.length
 l8 : ∀ i, i < s.Stations.length → s.Stations[i]!.Levels.length ≤ 8 ∨ 30 < s.Stations[i]!.Levels.length
theorem rPlace_eq {N : Nat} {t : GStation} : f_ref02_StationErr N t = some (placeErr t) := by
 unfold f_ref02_StationErr
 rw [rwithin_eq, bS, rwithin_eq, place_bool]
 cases inR (-1000000) 1000000 t.X <;> cases inR 1 100000 t.Width <;> rfl
theorem awake_true : f_law02_awake (2 ^ 70) = some true := by kernel_rfl
end Go.KB
