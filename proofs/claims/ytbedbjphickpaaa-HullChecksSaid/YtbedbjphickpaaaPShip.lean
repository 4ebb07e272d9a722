/- Plain laws: the errors of ships, of the program and of the reference. No condition. -/
import Derived.Test.YtbedbjphickpaaaPSet
import Derived.Test.YtbedbjphickpaaaPNam
namespace Go.KB
set_option linter.unusedVariables false
set_option maxRecDepth 100000

instance : Inhabited GStation := ⟨⟨0, 0, [], []⟩⟩
instance : Inhabited GLoad := ⟨⟨[], 0, 0, 0, 0⟩⟩
theorem idx_map {α β : Type} (f : α → β) (l : List α) (n : Int) : idx (l.map f) n = (idx l n).map f := by
  unfold idx
  split
  · rfl
  · rw [List.getElem?_map]
theorem hName_loop {N : Nat} {s : Str} : f_hull_isName_L1 N s = f_base_IsName_L1 N s := by
  funext i
  unfold f_hull_isName_L1 f_base_IsName_L1
  rw [show (bytesI s).length = s.length by unfold bytesI; rw [List.length_map]]
  unfold bytesI
  rw [idx_map]
  cases idx s i <;> rfl
theorem hName_eq {N : Nat} {s : Str} (hN : 13 ≤ N) : f_hull_isName N s = some (isName s) := by
  rw [← IsName_eq hN]
  unfold f_hull_isName f_base_IsName
  rw [hName_loop]
/- stations -/
theorem between_eq {N : Nat} {n lo hi : Int} : f_hull_between N n lo hi = some (inR lo hi n) := rfl
theorem rwithin_eq {N : Nat} {n lo hi : Int} : f_ref02_within N n lo hi = some (inR lo hi n) := rfl
def levE (t : GStation) (i : Nat) : Int := if inR 0 100000 t.Levels[i]! = true then (if 0 < i ∧ t.Levels[i]! ≤ t.Levels[i - 1]! then 10 else 0) else 2
def halE (t : GStation) (i : Nat) : Int := if inR 0 100000 t.Halves[i]! = true then 0 else 2
def formErr (t : GStation) : Int :=
  if t.Levels.length < 2 ∨ 30 < t.Levels.length ∨ t.Halves.length + 1 ≠ t.Levels.length then 11
  else if firstErr (levE t) t.Levels.length 0 = 0 then firstErr (halE t) t.Halves.length 0 else firstErr (levE t) t.Levels.length 0
def placeErr (t : GStation) : Int := if inR (-1000000) 1000000 t.X = true ∧ inR 1 100000 t.Width = true then 0 else 2
def nextErr (b t : GStation) : Int := if t.X ≤ b.X then 10 else if 2 * (t.X - b.X) < t.Width + b.Width then 17 else 0
theorem hLev_loop {N : Nat} {t : GStation} (hl : t.Levels.length < 1000000) (hN : 2 ^ 64 ≤ N) : loopN (f_hull_checkStation_L2 N t) N 0 = some (errOr (Sum.inl ()) (fun z => Sum.inr z) (firstErr (levE t) t.Levels.length 0)) := by
  refine loop_err (f := f_hull_checkStation_L2 N t) (e := levE t) (n := t.Levels.length) (fin := Sum.inl ()) (err := fun z => Sum.inr z) (fun i hi _ => ?_) (fun _ => ?_) (by omega)
  · unfold f_hull_checkStation_L2
    simp only [cmp_lss, cmp_gtr, cmp_leq]
    rw [dT (by omega), cond_true, idxB hi, Option.bind_some, between_eq, Option.bind_some, w64s (by omega)]
    cases h1 : inR 0 100000 t.Levels[i]! with
    | false =>
      have e : levE t i = 2 := by unfold levE; rw [h1]; rfl
      rw [e]; rfl
    | true =>
      rw [Bool.not_true, cond_false]
      by_cases h0 : i = 0
      · subst h0
        have e : levE t 0 = 0 := by unfold levE; rw [h1, if_pos rfl]; exact if_neg (by omega)
        rw [dF (by omega), cond_false, Option.bind_some, Bool.false_and, e]; rfl
      · rw [dT (by omega), cond_true, idxP hi h0 hl, Option.bind_some, Bool.true_and]
        by_cases hc : t.Levels[i]! ≤ t.Levels[i - 1]!
        · have e : levE t i = 10 := by unfold levE; rw [h1, if_pos rfl]; exact if_pos ⟨by omega, hc⟩
          rw [dT hc, e]; rfl
        · have e : levE t i = 0 := by unfold levE; rw [h1, if_pos rfl]; exact if_neg (fun h => hc h.2)
          rw [dF hc, e]; rfl
  · unfold f_hull_checkStation_L2
    simp only [cmp_lss]
    rw [dF (by omega)]; rfl
theorem hHal_loop {N : Nat} {t : GStation} (hl : t.Halves.length < 1000000) (hN : 2 ^ 64 ≤ N) : loopN (f_hull_checkStation_L1 N t) N 0 = some (errOr (Sum.inl ()) (fun z => Sum.inr z) (firstErr (halE t) t.Halves.length 0)) := by
  refine loop_err (f := f_hull_checkStation_L1 N t) (e := halE t) (n := t.Halves.length) (fin := Sum.inl ()) (err := fun z => Sum.inr z) (fun i hi _ => ?_) (fun _ => ?_) (by omega)
  · unfold f_hull_checkStation_L1 halE
    simp only [cmp_lss]
    rw [dT (by omega), cond_true, idxB hi, Option.bind_some, between_eq, Option.bind_some, w64s (by omega)]
    cases inR 0 100000 t.Halves[i]! <;> rfl
  · unfold f_hull_checkStation_L1
    simp only [cmp_lss]
    rw [dF (by omega)]; rfl
theorem rLev_loop {N : Nat} {t : GStation} (hl : t.Levels.length < 1000000) (hN : 2 ^ 64 ≤ N) : loopN (f_ref02_FormErr_L2 N t) N 0 = some (errOr (Sum.inl ()) (fun z => Sum.inr z) (firstErr (levE t) t.Levels.length 0)) := by
  refine loop_err (f := f_ref02_FormErr_L2 N t) (e := levE t) (n := t.Levels.length) (fin := Sum.inl ()) (err := fun z => Sum.inr z) (fun i hi _ => ?_) (fun _ => ?_) (by omega)
  · unfold f_ref02_FormErr_L2
    simp only [cmp_lss, cmp_gtr, cmp_leq]
    rw [dT (by omega), cond_true, idxB hi, Option.bind_some, rwithin_eq, Option.bind_some, w64s (by omega)]
    cases h1 : inR 0 100000 t.Levels[i]! with
    | false =>
      have e : levE t i = 2 := by unfold levE; rw [h1]; rfl
      rw [e]; rfl
    | true =>
      rw [Bool.not_true, cond_false]
      by_cases h0 : i = 0
      · subst h0
        have e : levE t 0 = 0 := by unfold levE; rw [h1, if_pos rfl]; exact if_neg (by omega)
        rw [dF (by omega), cond_false, Option.bind_some, cond_false, Option.bind_some, Bool.false_and, e]; rfl
      · rw [dT (by omega), cond_true, Option.bind_some, cond_true, idxP hi h0 hl, Option.bind_some, Bool.true_and]
        by_cases hc : t.Levels[i]! ≤ t.Levels[i - 1]!
        · have e : levE t i = 10 := by unfold levE; rw [h1, if_pos rfl]; exact if_pos ⟨by omega, hc⟩
          rw [dT hc, e]; rfl
        · have e : levE t i = 0 := by unfold levE; rw [h1, if_pos rfl]; exact if_neg (fun h => hc h.2)
          rw [dF hc, e]; rfl
  · unfold f_ref02_FormErr_L2
    simp only [cmp_lss]
    rw [dF (by omega)]; rfl
theorem rHal_loop {N : Nat} {t : GStation} (hl : t.Halves.length < 1000000) (hN : 2 ^ 64 ≤ N) : loopN (f_ref02_FormErr_L1 N t) N 0 = some (errOr (Sum.inl ()) (fun z => Sum.inr z) (firstErr (halE t) t.Halves.length 0)) := by
  refine loop_err (f := f_ref02_FormErr_L1 N t) (e := halE t) (n := t.Halves.length) (fin := Sum.inl ()) (err := fun z => Sum.inr z) (fun i hi _ => ?_) (fun _ => ?_) (by omega)
  · unfold f_ref02_FormErr_L1 halE
    simp only [cmp_lss]
    rw [dT (by omega), cond_true, idxB hi, Option.bind_some, rwithin_eq, Option.bind_some, w64s (by omega)]
    cases inR 0 100000 t.Halves[i]! <;> rfl
  · unfold f_ref02_FormErr_L1
    simp only [cmp_lss]
    rw [dF (by omega)]; rfl
theorem rForm_eq {N : Nat} {t : GStation} (hl : t.Levels.length < 1000000) (hh : t.Halves.length < 1000000) (hN : 2 ^ 64 ≤ N) : f_ref02_FormErr N t = some (formErr t) := by
  unfold f_ref02_FormErr
  simp only [cmp_lss, cmp_gtr, cmp_neq]
  rw [w64i (n := (t.Levels.length : Int) - 1) (by omega) (by omega)]
  by_cases hc : t.Levels.length < 2 ∨ 30 < t.Levels.length ∨ t.Halves.length + 1 ≠ t.Levels.length
  · have e : formErr t = 11 := by unfold formErr; exact if_pos hc
    rw [show (decide ((t.Levels.length : Int) < 2) || decide ((30 : Int) < (t.Levels.length : Int)) || !decide ((t.Halves.length : Int) = (t.Levels.length : Int) - 1)) = true by simp; omega, e]; rfl
  · have e : formErr t = if firstErr (levE t) t.Levels.length 0 = 0 then firstErr (halE t) t.Halves.length 0 else firstErr (levE t) t.Levels.length 0 := by unfold formErr; exact if_neg hc
    rw [show (decide ((t.Levels.length : Int) < 2) || decide ((30 : Int) < (t.Levels.length : Int)) || !decide ((t.Halves.length : Int) = (t.Levels.length : Int) - 1)) = false by simp; omega, cond_false, rLev_loop hl hN, Option.bind_some, rHal_loop hh hN, e]
    unfold errOr
    by_cases h1 : firstErr (levE t) t.Levels.length 0 = 0
    · rw [if_pos h1, if_pos h1, Sum.elim_inl, Option.bind_some]
      by_cases h2 : firstErr (halE t) t.Halves.length 0 = 0
      · rw [if_pos h2, h2]; rfl
      · rw [if_neg h2]; rfl
    · rw [if_neg h1, if_neg h1]; rfl
theorem hForm_eq {N : Nat} {t : GStation} (hl : t.Levels.length < 1000000) (hh : t.Halves.length < 1000000) (hN : 2 ^ 64 ≤ N) :
    ((f_hull_between N (List.length t.Levels : Int) 2 30).bind fun v12 => bif ((!v12) || (cmpI .neq (List.length t.Halves : Int) (IntKind.i64.wrap ((List.length t.Levels : Int) - 1)))) then (some 11) else ((loopN (f_hull_checkStation_L2 N t) N 0).bind fun o20 => Sum.elim (fun l22 => (loopN (f_hull_checkStation_L1 N t) N 0).bind fun o29 => Sum.elim (fun l31 => some 0) (fun r32 => some r32) o29) (fun r23 => some r23) o20) : Option Int) = some (formErr t) := by
  rw [between_eq, Option.bind_some, cmp_neq, w64i (n := (t.Levels.length : Int) - 1) (by omega) (by omega)]
  by_cases hc : t.Levels.length < 2 ∨ 30 < t.Levels.length ∨ t.Halves.length + 1 ≠ t.Levels.length
  · have e : formErr t = 11 := by unfold formErr; exact if_pos hc
    rw [show ((!inR 2 30 (t.Levels.length : Int)) || !decide ((t.Halves.length : Int) = (t.Levels.length : Int) - 1)) = true by simp [inR]; omega, e]; rfl
  · have e : formErr t = if firstErr (levE t) t.Levels.length 0 = 0 then firstErr (halE t) t.Halves.length 0 else firstErr (levE t) t.Levels.length 0 := by unfold formErr; exact if_neg hc
    rw [show ((!inR 2 30 (t.Levels.length : Int)) || !decide ((t.Halves.length : Int) = (t.Levels.length : Int) - 1)) = false by simp [inR]; omega, cond_false, hLev_loop hl hN, Option.bind_some, hHal_loop hh hN, e]
    unfold errOr
    by_cases h1 : firstErr (levE t) t.Levels.length 0 = 0
    · rw [if_pos h1, if_pos h1, Sum.elim_inl, Option.bind_some]
      by_cases h2 : firstErr (halE t) t.Halves.length 0 = 0
      · rw [if_pos h2, h2]; rfl
      · rw [if_neg h2]; rfl
    · rw [if_neg h1, if_neg h1]; rfl
theorem place_of {t : GStation} (h : placeErr t = 0) : -1000000 ≤ t.X ∧ t.X ≤ 1000000 ∧ 1 ≤ t.Width ∧ t.Width ≤ 100000 := by
  unfold placeErr at h
  split at h
  · rename_i hc; simp [inR] at hc; omega
  · cases h
end Go.KB
