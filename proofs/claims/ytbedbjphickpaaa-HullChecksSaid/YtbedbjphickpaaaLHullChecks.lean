/- The plain law of HullChecks: it returns true for every ship. No condition. -/
import Derived.Test.YtbedbjphickpaaaPShip
import Derived.KernelRfl
namespace Go.KB
set_option linter.unusedVariables false
set_option maxRecDepth 100000

def staErr1 (b : Option GStation) (t : GStation) : Int :=
  if placeErr t = 0 then (match b with | none => formErr t | some x => if nextErr x t = 0 then formErr t else nextErr x t) else placeErr t
theorem place_bool (t : GStation) : placeErr t = if (inR (-1000000) 1000000 t.X && inR 1 100000 t.Width) = true then 0 else 2 := by
  unfold placeErr
  simp only [Bool.and_eq_true]
theorem checkStation_eq {N : Nat} {t : GStation} {b : Option GStation} (hl : t.Levels.length < 1000000) (hh : t.Halves.length < 1000000) (hb : ∀ x, b = some x → placeErr x = 0) (hN : 2 ^ 64 ≤ N) : f_hull_checkStation N t b = some (staErr1 b t) := by
  unfold f_hull_checkStation staErr1
  rw [between_eq, Option.bind_some, between_eq]
  have hf := hForm_eq (t := t) hl hh hN
  cases h1 : inR (-1000000) 1000000 t.X with
  | false =>
    have e : placeErr t = 2 := by rw [place_bool, h1]; rfl
    rw [e]; rfl
  | true =>
    rw [Bool.not_true, Bool.not_false, cond_true, Option.bind_some, Bool.false_or]
    cases h2 : inR 1 100000 t.Width with
    | false =>
      have e : placeErr t = 2 := by rw [place_bool, h1, h2]; rfl
      rw [e]; rfl
    | true =>
      have e : placeErr t = 0 := by rw [place_bool, h1, h2]; rfl
      have pt := place_of e
      rw [e, if_pos rfl, Bool.not_true, cond_false]
      cases b with
      | none => exact hf
      | some x =>
        have px := place_of (hb x rfl)
        simp only [Option.isSome_some, cond_true, Option.bind_some, cmp_leq, cmp_lss]
        rw [w64i (n := t.X - x.X) (by omega) (by omega), w64i (n := 2 * (t.X - x.X)) (by omega) (by omega), w64i (n := t.Width + x.Width) (by omega) (by omega)]
        by_cases h3 : t.X ≤ x.X
        · have e3 : nextErr x t = 10 := by unfold nextErr; exact if_pos h3
          rw [dT (by omega), e3]; rfl
        · rw [dF (by omega), cond_false]
          by_cases h4 : 2 * (t.X - x.X) < t.Width + x.Width
          · have e4 : nextErr x t = 17 := by unfold nextErr; rw [if_neg h3]; exact if_pos h4
            rw [dT h4, e4]; rfl
          · have e4 : nextErr x t = 0 := by unfold nextErr; rw [if_neg h3]; exact if_neg h4
            rw [dF h4, e4, if_pos rfl]
            exact hf
def staErr (l : List GStation) (i : Nat) : Int := staErr1 (if i = 0 then none else some l[i - 1]!) l[i]!
theorem sta_place {l : List GStation} {i : Nat} (h : staErr l i = 0) : placeErr l[i]! = 0 := by
  unfold staErr staErr1 at h
  split at h
  · assumption
  · exact h
/- loads -/
def numErr (l : GLoad) (least : Int) : Int := if (inR least 1000000000 l.Mass && inR (-1000000) 1000000 l.X && inR (-100000) 100000 l.Z && inR 0 1000000000 l.Free) = true then 0 else 2
theorem hNum_eq {N : Nat} {l : GLoad} {least : Int} : f_hull_checkNumbers N l least = some (numErr l least) := by
  unfold f_hull_checkNumbers numErr
  simp only [between_eq, Option.bind_some]
  cases inR least 1000000000 l.Mass <;> cases inR (-1000000) 1000000 l.X <;> cases inR (-100000) 100000 l.Z <;> cases inR 0 1000000000 l.Free <;> rfl
def nmF (s : GShip) : Nat → Str
  | 0 => s.Light.Name
  | k + 1 => s.Items[k]!.Name
def itErr (s : GShip) (i : Nat) : Int := if isName s.Items[i]!.Name = true then (if dup (nmF s) (i + 1) s.Items[i]!.Name = true then 5 else numErr s.Items[i]! 0) else 4
def ldsErr (s : GShip) : Int := if isName s.Light.Name = true then (if numErr s.Light 1 = 0 then (if 60 < s.Items.length then 8 else firstErr (itErr s) s.Items.length 0) else numErr s.Light 1) else 4
theorem hLoads_eq {N : Nat} {s : GShip} (hl : s.Items.length < 1000000) (hN : 2 ^ 64 ≤ N) : f_hull_checkLoads N s = some (ldsErr s) := by
  unfold f_hull_checkLoads ldsErr
  rw [hName_eq (by omega), Option.bind_some, hNum_eq, Option.bind_some, cmp_neq, cmp_gtr]
  cases isName s.Light.Name with
  | false => rfl
  | true =>
    rw [Bool.not_true, cond_false, if_pos rfl]
    by_cases h1 : numErr s.Light 1 = 0
    · rw [dT h1, Bool.not_true, cond_false, if_pos h1]
      by_cases h2 : 60 < s.Items.length
      · rw [dT (by omega), cond_true, if_pos h2]
      · rw [dF (by omega), cond_false, if_neg h2]
        have := loop_errG (f := f_hull_checkLoads_L1 N s) (e := itErr s) (N := N) (n := s.Items.length) (fin := Sum.inl ()) (err := fun z => Sum.inr z) (fun i => (seen (nmF s) (i + 1), (i : Int))) (fun i hi _ => by
          unfold f_hull_checkLoads_L1
          simp only [cmp_lss, cmp_neq]
          rw [dT (by omega), cond_true, idxB hi, Option.bind_some, hName_eq (by omega), Option.bind_some, seen_get, hNum_eq, Option.bind_some, w64s (by omega)]
          unfold itErr
          cases isName s.Items[i]!.Name with
          | false => rfl
          | true =>
            simp only [Bool.not_true, cond_false, if_true]
            cases dup (nmF s) (i + 1) s.Items[i]!.Name with
            | true => rfl
            | false =>
              simp only [cond_false, Bool.false_eq_true, if_false]
              by_cases h3 : numErr s.Items[i]! 0 = 0
              · rw [dT h3, if_pos h3]; rfl
              · rw [dF h3, if_neg h3]; rfl) (fun _ => by
          unfold f_hull_checkLoads_L1
          simp only [cmp_lss]
          rw [dF (by omega)]; rfl) (by omega)
        rw [show loopN (f_hull_checkLoads_L1 N s) N (mset ([] : (List (Str × Bool))) s.Light.Name true, 0) = _ from this, Option.bind_some]
        unfold errOr
        by_cases hz : firstErr (itErr s) s.Items.length 0 = 0
        · rw [if_pos hz, hz]; rfl
        · rw [if_neg hz]; rfl
    · rw [dF h1, if_neg h1]; rfl
theorem rLoad_eq {N : Nat} {l : GLoad} {x : List GLoad} {least : Int} (hx : x.length < 1000000) (hN : 2 ^ 64 ≤ N) :
    f_ref02_LoadErr N l x least = some (if isName l.Name = true then (if dup (fun j => x[j]!.Name) x.length l.Name = true then 5 else numErr l least) else 4) := by
  unfold f_ref02_LoadErr
  rw [IsName_eq (by omega), Option.bind_some]
  rw [loop_err (f := f_ref02_LoadErr_L1 N l x) (e := same (fun j => x[j]!.Name) l.Name) (n := x.length) (fin := Sum.inl ()) (err := fun z => Sum.inr 5) (fun j hj _ => by
    unfold f_ref02_LoadErr_L1
    simp only [cmp_lss]
    rw [dT (by omega), cond_true, idxB hj, Option.bind_some, cmpS_eql, w64s (by omega)]
    unfold same
    by_cases h : x[j]!.Name = l.Name
    · rw [dT h, if_pos h]; rfl
    · rw [dF h, if_neg h]; rfl) (fun _ => by
    unfold f_ref02_LoadErr_L1
    simp only [cmp_lss]
    rw [dF (by omega)]; rfl) (by omega), same_dup, Option.bind_some]
  cases isName l.Name with
  | false => rfl
  | true =>
    rw [Bool.not_true, cond_false, if_pos rfl]
    cases dup (fun j => x[j]!.Name) x.length l.Name with
    | true => rfl
    | false =>
      unfold errOr numErr
      simp only [Bool.false_eq_true, if_false, if_true, Sum.elim_inl, rwithin_eq, Option.bind_some]
      cases inR least 1000000000 l.Mass <;> cases inR (-1000000) 1000000 l.X <;> cases inR (-100000) 100000 l.Z <;> cases inR 0 1000000000 l.Free <;> rfl
def shpErr (s : GShip) : Int :=
  if isName s.Name = true then (if (inR 1 1000000 s.Length && inR 1 40 (s.Stations.length : Int)) = true then (if firstErr (staErr s.Stations) s.Stations.length 0 = 0 then ldsErr s else firstErr (staErr s.Stations) s.Stations.length 0) else 2) else 4
structure Tame (s : GShip) : Prop where
  st : s.Stations.length < 1000000
  it : s.Items.length < 1000000
  lv : ∀ i, i < s.Stations.length → s.Stations[i]!.Levels.length < 1000000
  hv : ∀ i, i < s.Stations.length → s.Stations[i]!.Halves.length < 1000000
theorem hCheck_eq {N : Nat} {s : GShip} (ht : Tame s) (hN : 2 ^ 64 ≤ N) : f_hull_Check N s = some (shpErr s) := by
  have h1 := ht.st
  unfold f_hull_Check shpErr
  rw [hName_eq (by omega), Option.bind_some, between_eq, Option.bind_some, between_eq]
  cases isName s.Name with
  | false => rfl
  | true =>
    rw [Bool.not_true, cond_false, if_pos rfl]
    cases inR 1 1000000 s.Length with
    | false => rfl
    | true =>
      rw [Bool.not_true, Bool.not_false, cond_true, Option.bind_some, Bool.false_or, Bool.true_and]
      cases inR 1 40 (s.Stations.length : Int) with
      | false => rfl
      | true =>
        rw [Bool.not_true, cond_false, if_pos rfl]
        have := loop_errG (f := f_hull_Check_L1 N s) (e := staErr s.Stations) (N := N) (n := s.Stations.length) (fin := Sum.inl ()) (err := fun z => Sum.inr z) (fun i => ((if i = 0 then none else some s.Stations[i - 1]!), (i : Int))) (fun i hi hz => by
          unfold f_hull_Check_L1
          simp only [cmp_lss, cmp_neq]
          rw [dT (by omega), cond_true, idxB hi, Option.bind_some, checkStation_eq (ht.lv i hi) (ht.hv i hi) (fun x hx => by
            by_cases h0 : i = 0
            · rw [if_pos h0] at hx; cases hx
            · rw [if_neg h0] at hx; cases hx; exact sta_place (hz (i - 1) (by omega))) hN, Option.bind_some, Option.bind_some, w64s (by omega)]
          rw [show staErr1 (if i = 0 then none else some s.Stations[i - 1]!) s.Stations[i]! = staErr s.Stations i from rfl]
          by_cases h3 : staErr s.Stations i = 0
          · rw [dT h3, if_pos h3, if_neg (by omega), Nat.add_sub_cancel]; rfl
          · rw [dF h3, if_neg h3]; rfl) (fun _ => by
          unfold f_hull_Check_L1
          simp only [cmp_lss]
          rw [dF (by omega)]; rfl) (by omega)
        rw [show loopN (f_hull_Check_L1 N s) N ((none : Option GStation), 0) = _ from this, Option.bind_some, hLoads_eq ht.it hN]
        unfold errOr
        by_cases hz : firstErr (staErr s.Stations) s.Stations.length 0 = 0
        · rw [if_pos hz, if_pos hz]; rfl
        · rw [if_neg hz, if_neg hz]; rfl
theorem dup_congr {f g : Nat → Str} {x : Str} : ∀ {n : Nat}, (∀ j, j < n → f j = g j) → dup f n x = dup g n x
  | 0, _ => rfl
  | n + 1, h => by rw [dup, dup, h n (by omega), dup_congr (fun j hj => h j (by omega))]
theorem rPlace_eq {N : Nat} {t : GStation} : f_ref02_StationErr N t = some (placeErr t) := by
  unfold f_ref02_StationErr
  rw [rwithin_eq, Option.bind_some, rwithin_eq, place_bool]
  cases inR (-1000000) 1000000 t.X <;> cases inR 1 100000 t.Width <;> rfl
theorem rCheck_eq {N : Nat} {s : GShip} (ht : Tame s) (hN : 2 ^ 64 ≤ N) : f_ref02_Check N s = some (shpErr s) := by
  have h1 := ht.st
  have h2 := ht.it
  unfold f_ref02_Check shpErr
  rw [IsName_eq (by omega), Option.bind_some, rwithin_eq, Option.bind_some, rwithin_eq]
  cases isName s.Name with
  | false => rfl
  | true =>
    rw [Bool.not_true, cond_false, if_pos rfl]
    cases inR 1 1000000 s.Length with
    | false => rfl
    | true =>
      rw [Bool.not_true, Bool.not_false, cond_true, Option.bind_some, Bool.false_or, Bool.true_and]
      cases inR 1 40 (s.Stations.length : Int) with
      | false => rfl
      | true =>
        rw [Bool.not_true, cond_false, if_pos rfl]
        rw [loop_err (f := f_ref02_Check_L2 N s) (e := staErr s.Stations) (n := s.Stations.length) (fin := Sum.inl ()) (err := fun z => Sum.inr z) (fun i hi hz => by
          unfold f_ref02_Check_L2
          simp only [cmp_lss, cmp_neq, cmp_gtr, cmp_leq]
          rw [dT (by omega), cond_true, idxB hi, Option.bind_some, rPlace_eq, Option.bind_some, rForm_eq (ht.lv i hi) (ht.hv i hi) hN, w64s (by omega)]
          by_cases hp : placeErr s.Stations[i]! = 0
          · rw [dT hp, Bool.not_true, cond_false]
            have pt := place_of hp
            have hfin : ((some (formErr s.Stations[i]!)).bind fun v10 => bif (!decide (v10 = 0)) then (some (.inr (Sum.inr v10))) else (some (.inl (((i + 1 : Nat) : Int)))) : Option (Int ⊕ (Unit ⊕ Int))) = if formErr s.Stations[i]! = 0 then some (.inl ((i + 1 : Nat) : Int)) else some (.inr (.inr (formErr s.Stations[i]!))) := by
              rw [Option.bind_some]
              by_cases hf : formErr s.Stations[i]! = 0
              · rw [dT hf, if_pos hf]; rfl
              · rw [dF hf, if_neg hf]; rfl
            by_cases h0 : i = 0
            · subst h0
              have e : staErr s.Stations 0 = formErr s.Stations[0]! := by
                unfold staErr staErr1; rw [if_pos hp]; rfl
              rw [dF (by omega)]
              simp only [cond_false, Option.bind_some, Bool.false_and]
              rw [e]; exact hfin
            · have px := place_of (sta_place (hz (i - 1) (by omega)))
              have e : staErr s.Stations i = if nextErr s.Stations[i - 1]! s.Stations[i]! = 0 then formErr s.Stations[i]! else nextErr s.Stations[i - 1]! s.Stations[i]! := by
                unfold staErr staErr1; rw [if_pos hp, if_neg h0]
              rw [dT (by omega)]
              simp only [cond_true, idxP hi h0 h1, Option.bind_some, Bool.true_and]
              rw [w64i (n := s.Stations[i]!.X - s.Stations[i - 1]!.X) (by omega) (by omega), w64i (n := 2 * (s.Stations[i]!.X - s.Stations[i - 1]!.X)) (by omega) (by omega), w64i (n := s.Stations[i]!.Width + s.Stations[i - 1]!.Width) (by omega) (by omega), e]
              by_cases h3 : s.Stations[i]!.X ≤ s.Stations[i - 1]!.X
              · have e3 : nextErr s.Stations[i - 1]! s.Stations[i]! = 10 := by unfold nextErr; exact if_pos h3
                rw [dT h3, e3]; rfl
              · rw [dF h3, cond_false]
                by_cases h4 : 2 * (s.Stations[i]!.X - s.Stations[i - 1]!.X) < s.Stations[i]!.Width + s.Stations[i - 1]!.Width
                · have e4 : nextErr s.Stations[i - 1]! s.Stations[i]! = 17 := by unfold nextErr; rw [if_neg h3]; exact if_pos h4
                  rw [dT h4, e4]; rfl
                · have e4 : nextErr s.Stations[i - 1]! s.Stations[i]! = 0 := by unfold nextErr; rw [if_neg h3]; exact if_neg h4
                  rw [dF h4, e4, cond_false, if_pos rfl]; exact hfin
          · have e : staErr s.Stations i = placeErr s.Stations[i]! := by unfold staErr staErr1; exact if_neg hp
            rw [dF hp, e, if_neg hp]; rfl) (fun _ => by
          unfold f_ref02_Check_L2
          simp only [cmp_lss]
          rw [dF (by omega)]; rfl) (by omega), Option.bind_some]
        unfold errOr
        by_cases hz : firstErr (staErr s.Stations) s.Stations.length 0 = 0
        · rw [if_pos hz, if_pos hz, Sum.elim_inl, rLoad_eq (by simp) hN, Option.bind_some, cmp_neq, cmp_gtr]
          unfold ldsErr
          cases isName s.Light.Name with
          | false => rfl
          | true =>
            simp only [if_true, List.length_nil, dup, Bool.false_eq_true, if_false]
            by_cases h3 : numErr s.Light 1 = 0
            · rw [dT h3, Bool.not_true, cond_false, if_pos h3]
              by_cases h4 : 60 < s.Items.length
              · rw [dT (by omega), cond_true, if_pos h4]
              · rw [dF (by omega), cond_false, if_neg h4]
                have := loop_errG (f := f_ref02_Check_L1 N s) (e := itErr s) (N := N) (n := s.Items.length) (fin := Sum.inl ()) (err := fun z => Sum.inr z) (fun i => (s.Light :: s.Items.take i, (i : Int))) (fun i hi _ => by
                  unfold f_ref02_Check_L1
                  simp only [cmp_lss, cmp_neq]
                  have hd : dup (fun j => (s.Light :: s.Items.take i)[j]!.Name) (s.Light :: s.Items.take i).length s.Items[i]!.Name = dup (nmF s) (i + 1) s.Items[i]!.Name := by
                    rw [show (s.Light :: s.Items.take i).length = i + 1 by simp; omega]
                    refine dup_congr fun j hj => ?_
                    cases j with
                    | zero => rfl
                    | succ j =>
                      show (s.Light :: s.Items.take i)[j + 1]!.Name = s.Items[j]!.Name
                      rw [bang (by simp; omega), bang (show j < s.Items.length by omega), List.getElem_cons_succ, List.getElem_take]
                  rw [dT (by omega), cond_true, idxB hi, Option.bind_some, rLoad_eq (by simp; omega) hN, Option.bind_some, Option.bind_some, app_ok (by simp; unfold lim; omega), Option.bind_some, w64s (by omega), hd]
                  rw [show (if isName s.Items[i]!.Name = true then (if dup (nmF s) (i + 1) s.Items[i]!.Name = true then (5 : Int) else numErr s.Items[i]! 0) else 4) = itErr s i from rfl]
                  rw [List.take_succ_eq_append_getElem hi, bang hi]
                  by_cases h5 : itErr s i = 0
                  · rw [dT h5, if_pos h5]; rfl
                  · rw [dF h5, if_neg h5]; rfl) (fun _ => by
                  unfold f_ref02_Check_L1
                  simp only [cmp_lss]
                  rw [dF (by omega)]; rfl) (by omega)
                rw [show loopN (f_ref02_Check_L1 N s) N ([s.Light], 0) = _ from this, Option.bind_some]
                unfold errOr
                by_cases hy : firstErr (itErr s) s.Items.length 0 = 0
                · rw [if_pos hy, hy]; rfl
                · rw [if_neg hy]; rfl
            · rw [dF h3, if_neg h3]; rfl
        · rw [if_neg hz, if_neg hz]; rfl
/- copies, small ships -/
theorem copied_eq {N : Nat} {s : GShip} (ht : Tame s) (hN : 2 ^ 64 ≤ N) : f_law02_copied N s = some s := by
  have h1 := ht.st
  have h2 := ht.it
  have happ : ∀ x : List Int, x.length < 1000000 → f_base_CopyInts N x = some x := fun x hx => by
    unfold f_base_CopyInts
    rw [app_ok (by simp; unfold lim; omega)]; rfl
  unfold f_law02_copied
  rw [app_ok (by simp; unfold lim; omega), Option.bind_some, List.nil_append]
  have := loop_errG (f := f_law02_copied_L1 N s) (e := fun _ => 0) (N := N) (n := s.Stations.length) (fin := s) (err := fun _ => s) (fun i => (({ s with Stations := s.Stations.take i } : GShip), (i : Int))) (fun i hi _ => by
    unfold f_law02_copied_L1
    simp only [cmp_lss]
    rw [dT (by omega), cond_true, idxB hi, Option.bind_some, happ _ (ht.lv i hi), Option.bind_some, happ _ (ht.hv i hi), Option.bind_some, app_ok (by simp; unfold lim; omega), Option.bind_some, w64s (by omega), List.take_succ_eq_append_getElem hi, bang hi]
    rfl) (fun _ => by
    unfold f_law02_copied_L1
    simp only [cmp_lss]
    rw [dF (by omega), List.take_length]; rfl) (by omega)
  rw [firstErr_nil] at this
  rw [show loopN (f_law02_copied_L1 N s) N (({ ({ s with Stations := ([] : (List GStation)) } : GShip) with Items := s.Items } : GShip), 0) = _ from this]; rfl
def smE (l : List GStation) (i : Nat) : Int := if (((decide ((8 : Int) < (l[i]!.Levels.length : Int)) && decide ((l[i]!.Levels.length : Int) ≤ 30)) || decide ((40 : Int) < (l[i]!.Levels.length : Int))) || decide ((40 : Int) < (l[i]!.Halves.length : Int))) = true then 1 else 0
def smI2 (l : List GLoad) (i : Nat) : Int := if decide ((40 : Int) < (l[i]!.Name.length : Int)) = true then 1 else 0
theorem small_eq {N : Nat} {s : GShip} (hN : 2 ^ 64 ≤ N) : ∃ b, f_law02_Small N s = some b ∧ (b = true → Tame s) := by
  unfold f_law02_Small
  simp only [cmp_gtr, cmp_leq]
  generalize hc : (decide ((40 : Int) < (s.Name.length : Int)) || decide ((40 : Int) < (s.Light.Name.length : Int)) || (decide ((6 : Int) < (s.Stations.length : Int)) && decide ((s.Stations.length : Int) ≤ 40)) || decide ((45 : Int) < (s.Stations.length : Int)) || (decide ((8 : Int) < (s.Items.length : Int)) && decide ((s.Items.length : Int) ≤ 60)) || decide ((205 : Int) < (s.Items.length : Int))) = c
  cases c with
  | true => exact ⟨false, rfl, fun h => by cases h⟩
  | false =>
    simp only [Bool.or_eq_false_iff, decide_eq_false_iff_not] at hc
    have h1 : s.Stations.length ≤ 45 := by omega
    have h2 : s.Items.length ≤ 205 := by omega
    rw [cond_false, loop_err (f := f_law02_Small_L2 N s) (e := smE s.Stations) (n := s.Stations.length) (fin := Sum.inl ()) (err := fun z => Sum.inr false) (fun i hi _ => by
      unfold f_law02_Small_L2
      simp only [cmp_lss, cmp_gtr, cmp_leq]
      rw [dT (by omega), cond_true, idxB hi, Option.bind_some, w64s (by omega)]
      unfold smE
      generalize (((decide ((8 : Int) < (s.Stations[i]!.Levels.length : Int)) && decide ((s.Stations[i]!.Levels.length : Int) ≤ 30)) || decide ((40 : Int) < (s.Stations[i]!.Levels.length : Int))) || decide ((40 : Int) < (s.Stations[i]!.Halves.length : Int))) = b
      cases b <;> rfl) (fun _ => by
      unfold f_law02_Small_L2
      simp only [cmp_lss]
      rw [dF (by omega)]; rfl) (by omega), Option.bind_some]
    unfold errOr
    by_cases hz : firstErr (smE s.Stations) s.Stations.length 0 = 0
    · rw [if_pos hz, Sum.elim_inl, loop_err (f := f_law02_Small_L1 N s) (e := smI2 s.Items) (n := s.Items.length) (fin := Sum.inl ()) (err := fun z => Sum.inr false) (fun i hi _ => by
        unfold f_law02_Small_L1
        simp only [cmp_lss, cmp_gtr]
        rw [dT (by omega), cond_true, idxB hi, Option.bind_some, w64s (by omega)]
        unfold smI2
        generalize decide ((40 : Int) < (s.Items[i]!.Name.length : Int)) = b
        cases b <;> rfl) (fun _ => by
        unfold f_law02_Small_L1
        simp only [cmp_lss]
        rw [dF (by omega)]; rfl) (by omega), Option.bind_some]
      unfold errOr
      have hs : ∀ i, i < s.Stations.length → s.Stations[i]!.Levels.length ≤ 40 ∧ s.Stations[i]!.Halves.length ≤ 40 := fun i hi => by
        have := firstErr_zero hz i (by omega) (by omega)
        unfold smE at this
        split at this
        · cases this
        · rename_i hn
          simp only [Bool.or_eq_true, decide_eq_true_eq, not_or] at hn
          omega
      by_cases hy : firstErr (smI2 s.Items) s.Items.length 0 = 0
      · rw [if_pos hy]
        exact ⟨true, rfl, fun _ => ⟨by omega, by omega, fun i hi => by have := hs i hi; omega, fun i hi => by have := hs i hi; omega⟩⟩
      · rw [if_neg hy]; exact ⟨false, rfl, fun h => by cases h⟩
    · rw [if_neg hz]; exact ⟨false, rfl, fun h => by cases h⟩
theorem awake_true : f_law02_awake (2 ^ 70) = some true := by kernel_rfl
theorem law_HullChecks (x0 : GShip) (h0 : x0.ok) : f_law02_HullChecks (2 ^ 70) x0 = some true := by
  have hN : 2 ^ 64 ≤ (2 ^ 70 : Nat) := by decide
  unfold f_law02_HullChecks
  rw [awake_true, Option.bind_some, Bool.not_true, cond_false]
  obtain ⟨b, hb, ht⟩ := small_eq (s := x0) hN
  rw [hb, Option.bind_some]
  cases b with
  | false => rfl
  | true =>
    have ht := ht rfl
    simp only [Bool.not_true, Bool.not_false, cond_true]
    rw [copied_eq ht hN, Option.bind_some, hCheck_eq ht hN, Option.bind_some, rCheck_eq ht hN, Option.bind_some]
    simp
end Go.KB
