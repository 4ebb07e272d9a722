/- The plain law of HullLoads: it returns true for every ship, load and name. No condition. -/
import Derived.Test.YtbedbjphickpaaaGreatPShp
namespace Go.KB
set_option linter.unusedVariables false
set_option maxRecDepth 100000

theorem self_eql (a : Int) : cmpI .eql a a = true := by rw [cmp_eql]; simp
theorem self_neq (a : Int) : cmpI .neq a a = false := by rw [cmp_neq]; simp
theorem law_HullLoads (x0 : GShip) (x1 : GLoad) (x2 : Str) (h0 : x0.ok) (h1 : x1.ok) (h2 : gS x2) : f_law02_HullLoads (2 ^ 70) x0 x1 x2 = some true := by
  have hN : 2 ^ 64 ≤ (2 ^ 70 : Nat) := by decide
  unfold f_law02_HullLoads
  rw [awake_true, bS, Bool.not_true, cond_false]
  obtain ⟨b, hb, ht⟩ := small_eq (s := x0) hN
  rw [hb, bS]
  cases b with
  | false => rfl
  | true =>
    have ht := ht rfl
    rw [Bool.not_true, Bool.false_or]
    generalize (cmpI .gtr (List.length x1.Name : Int) 40 || cmpI .gtr (List.length x2 : Int) 40) = c
    cases c with
    | true => rfl
    | false =>
      rw [cond_false, copied_eq ht hN, bS, Loads_eq ht hN, bS, bS, With_eq ht hN, bS, bS, Without_eq ht hN, bS, bS, Move_eq ht hN, bS, rCheck_eq ht hN, bS]
      by_cases h : shpErr x0 = 0
      · have hl := shp_lds h
        have h60 := (lds_ok hl).1
        rw [if_pos h, if_pos h, if_pos h, if_pos h, h, self_neq, cond_false]
        dsimp only
        rw [Bool.not_false, cond_true, rLoads_eq hl hN, bS, cond_true, tot_same hl hN, bS, Bool.not_true, Bool.or_self, cond_false, bS, app_ok (by simp; unfold lim; omega), bS, show ({ x0 with Items := x0.Items ++ [x1] } : GShip) = plus x0 x1 from rfl,
          rCheck_eq (s := plus x0 x1) (ht.items (by simp; omega)) hN, bS]
        have hw : ∀ (k : Unit ⊕ Bool → Option Bool), k (Sum.inl ()) = some true →
            ((bif cmpI .neq (shpErr (plus x0 x1)) 0 then
              (bif !(cmpI .neq (if shpErr (plus x0 x1) = 0 then (plus x0 x1, (0 : Int)) else (zeroShip, shpErr (plus x0 x1))).2 (shpErr (plus x0 x1))) then f_law02_none (2 ^ 70) (if shpErr (plus x0 x1) = 0 then (plus x0 x1, (0 : Int)) else (zeroShip, shpErr (plus x0 x1))).1 else some false).bind fun v23 =>
                bif (cmpI .neq (if shpErr (plus x0 x1) = 0 then (plus x0 x1, (0 : Int)) else (zeroShip, shpErr (plus x0 x1))).2 (shpErr (plus x0 x1)) || !v23) then (some (Sum.inr false)) else (some (Sum.inl ()))
             else
              (bif !(cmpI .neq (if shpErr (plus x0 x1) = 0 then (plus x0 x1, (0 : Int)) else (zeroShip, shpErr (plus x0 x1))).2 0) then f_law02_Same (2 ^ 70) (if shpErr (plus x0 x1) = 0 then (plus x0 x1, (0 : Int)) else (zeroShip, shpErr (plus x0 x1))).1 (plus x0 x1) else some false).bind fun v25 =>
                bif (cmpI .neq (if shpErr (plus x0 x1) = 0 then (plus x0 x1, (0 : Int)) else (zeroShip, shpErr (plus x0 x1))).2 0 || !v25) then (some (Sum.inr false)) else (some (Sum.inl ()))) : Option (Unit ⊕ Bool)).bind k = some true := by
          intro k hk
          by_cases h9 : shpErr (plus x0 x1) = 0
          · simp only [if_pos h9]
            rw [h9, self_neq, cond_false, Bool.not_false, cond_true, Same_refl (s := plus x0 x1) (ht.items (by simp; omega)) hN]
            exact hk
          · simp only [if_neg h9]
            rw [cmp_neq, dF h9, Bool.not_false, cond_true, self_neq, Bool.not_false, cond_true, none_eq hN]
            exact hk
        refine hw _ ?_
        rw [Sum.elim_inl, rFind_eq ht.it hN, bS, cmp_lss]
        rcases fnd_cases x0.Items x2 with h5 | ⟨i, hi, h5, hn, _⟩
        · rw [if_pos (show fnd x0.Items x2 < 0 by omega), if_pos (show fnd x0.Items x2 < 0 by omega), dT (show fnd x0.Items x2 < 0 by omega), cond_true]
          dsimp only
          rw [self_eql, Bool.and_self, cond_true, none_eq hN, bS, Bool.and_self, cond_true]; rfl
        · rw [if_neg (show ¬fnd x0.Items x2 < 0 by omega), if_neg (show ¬fnd x0.Items x2 < 0 by omega), dF (show ¬fnd x0.Items x2 < 0 by omega), cond_false, bS, h5, Int.toNat_natCast]
          have s1 : slc x0.Items 0 (i : Int) = some (x0.Items.take i) := by
            unfold slc
            rw [dT (by omega), dT (by omega), dT (by omega)]; simp
          have s2 : slc x0.Items (IntKind.i64.wrap ((i : Int) + 1)) (List.length x0.Items : Int) = some (x0.Items.drop (i + 1)) := by
            rw [w64s (by omega)]
            unfold slc
            rw [dT (by omega), dT (by omega), dT (by omega)]; simp
          have ei : ∀ (l : List GLoad) (y : GLoad), i < l.length → idx (l.set i y) (i : Int) = some y := fun l y hy => by
            rw [idx_nat (by simpa using hy)]; simp
          dsimp only
          rw [s1, bS, s2, bS, app_ok (by simp; unfold lim; omega), bS, self_neq, Bool.not_false, cond_true, show ({ x0 with Items := x0.Items.take i ++ x0.Items.drop (i + 1) } : GShip) = minus x0 i from rfl,
            Same_refl (s := minus x0 i) (ht.items (by simp; omega)) hN, bS, Bool.not_true, Bool.or_self, cond_false, bS, idxB hi, bS, ei _ _ hi, bS, List.set_set,
            show ({ x0 with Items := x0.Items.set i ({ ({ x0.Items[i]! with X := x1.X } : GLoad) with Z := x1.Z } : GLoad) } : GShip) = moved x0 i x1.X x1.Z from rfl, rCheck_eq (s := moved x0 i x1.X x1.Z) (ht.items (by simp; omega)) hN, bS, moved_err h hi]
          by_cases h9 : numErr (there x0.Items[i]! x1.X x1.Z) 0 = 0
          · rw [if_pos h9, h9, self_neq, cond_false]
            dsimp only
            rw [self_eql, cond_true, Same_refl (s := moved x0 i x1.X x1.Z) (ht.items (by simp; omega)) hN]; rfl
          · have h10 : numErr (there x0.Items[i]! x1.X x1.Z) 0 = 2 := by
              unfold numErr at h9 ⊢
              split
              · rename_i hh; exact absurd (if_pos hh) h9
              · rfl
            rw [if_neg h9, h10]
            dsimp only
            rw [cmp_neq, dF (by decide), Bool.not_false, cond_true, self_eql, cond_true, none_eq hN]; rfl
      · rw [if_neg h, if_neg h, if_neg h, if_neg h, cmp_neq, dF h, Bool.not_false, cond_true]
        dsimp only
        rw [self_eql, Bool.and_self, Bool.and_self, Bool.and_self, cond_true, show (⟨0, (⟨(⟨false, []⟩ : GInt), (⟨false, []⟩ : GInt)⟩ : GRat), (⟨(⟨false, []⟩ : GInt), (⟨false, []⟩ : GInt)⟩ : GRat), 0⟩ : GCentre) = zeroCen from rfl, zeroCen_same hN, bS, Bool.and_self, cond_true, none_eq hN, bS, Bool.and_self, cond_true]
        rfl
end Go.KB
