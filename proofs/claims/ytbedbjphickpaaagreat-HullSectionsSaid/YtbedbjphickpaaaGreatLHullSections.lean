/- The plain law of HullSections: it returns true for every station and attitude. No condition. -/
import Derived.Test.YtbedbjphickpaaaGreatPZf
namespace Go.KB
set_option linter.unusedVariables false
set_option maxRecDepth 100000

def oneErr (t : GStation) : Int := if placeErr t = 0 then formErr t else placeErr t
theorem one_fit {t : GStation} (h : oneErr t = 0) : Fit t := by
  unfold oneErr at h
  split at h
  · rename_i hp; exact Fit.of hp h
  · rename_i hp; exact absurd h hp
section
variable {N K : Nat} {t : GStation} {y : Rat} (hl : t.Levels.length < 1000000) (hh : t.Halves.length < 1000000) (hy : Sz K y) (hK : K ≤ 10000) (hN : 2 ^ 64 ≤ N)
include hl hh hN
theorem one_eq : f_hull_checkStation N t none = some (oneErr t) := checkStation_eq hl hh (fun x hx => by cases hx) hN
include hy hK
theorem hArea_eq : f_hull_Area N t (R y) = some (if oneErr t = 0 then (R (areaQ t y), 0) else (zeroR, oneErr t)) := by
  unfold f_hull_Area
  rw [one_eq hl hh hN, bS, cmp_neq]
  by_cases hz : oneErr t = 0
  · rw [dT hz, if_pos hz, Bool.not_true, cond_false, immersed_eq (one_fit hz) hy hK hN]; rfl
  · rw [dF hz, if_neg hz]; rfl
theorem hHalf_eq : f_hull_Half N t (R y) = some (if oneErr t = 0 then (halfQ t y, 0) else (0, oneErr t)) := by
  unfold f_hull_Half
  rw [one_eq hl hh hN, bS, cmp_neq]
  by_cases hz : oneErr t = 0
  · rw [dT hz, if_pos hz, Bool.not_true, cond_false, atWater_eq (one_fit hz) hy hK hN]; rfl
  · rw [dF hz, if_neg hz]; rfl
end
theorem rOne_eq {N : Nat} {t : GStation} (hl : t.Levels.length < 1000000) (hh : t.Halves.length < 1000000) (hN : 2 ^ 64 ≤ N) :
    (((f_ref02_StationErr N t).bind fun v8 => ((bif (cmpI .eql v8 0) then ((f_ref02_FormErr N t).bind fun v9 => some v9) else (some v8)) : Option Int))) = some (oneErr t) := by
  rw [rPlace_eq, bS, cmp_eql]
  unfold oneErr
  by_cases hp : placeErr t = 0
  · rw [dT hp, if_pos hp, cond_true, rForm_eq hl hh hN]; rfl
  · rw [dF hp, if_neg hp]; rfl
theorem law_HullSections (x0 : GStation) (x1 : GAttitude) (h0 : x0.ok) (h1 : x1.ok) : f_law02_HullSections (2 ^ 70) x0 x1 = some true := by
  have hN : 2 ^ 64 ≤ (2 ^ 70 : Nat) := by decide
  unfold f_law02_HullSections
  rw [awake_true, bS, Bool.not_true, cond_false]
  obtain ⟨c, hc, hq⟩ := att_eq (N := 2 ^ 70) h1
  rw [hc, bS]
  cases c with
  | false => rfl
  | true =>
    obtain ⟨q1, q2⟩ := hq rfl
    simp only [cmp_lss, cmp_gtr, cmp_leq, Bool.not_true, Bool.false_or]
    cases hg : (decide (x0.X < -2000000) || decide ((2000000 : Int) < x0.X) || (decide ((8 : Int) < (x0.Levels.length : Int)) && decide ((x0.Levels.length : Int) ≤ 30)) || decide ((40 : Int) < (x0.Levels.length : Int)) || decide ((40 : Int) < (x0.Halves.length : Int))) with
    | true => rfl
    | false =>
      simp only [Bool.or_eq_false_iff, decide_eq_false_iff_not] at hg
      have hl : x0.Levels.length < 1000000 := by omega
      have hh : x0.Halves.length < 1000000 := by omega
      have hy : Sz 162 (ySet (rv x1.Sink) (rv x1.Slope) x0.X) := (ySz q1 q2 (by omega) (by omega)).mono (by omega)
      rw [cond_false, Imm_eq q1 q2 (by omega) (by omega) (by omega) hN, bS, rImm_eq q1 q2 (by omega) (by omega) (by omega) hN, bS, SameRat_R hy (by omega) hN, bS, dT rfl, Bool.not_true, cond_false]
      generalize ySet (rv x1.Sink) (rv x1.Slope) x0.X = y at hy
      rw [hArea_eq hl hh hy (by omega) hN, bS, hHalf_eq hl hh hy (by omega) hN, bS]
      rw [← Option.bind_assoc, rOne_eq hl hh hN, bS, cmp_neq]
      by_cases hz : oneErr x0 = 0
      · have hf := one_fit hz
        have za : Sz 12000 (areaQ x0 y) := sumSz' (c := 162 + 192) (fun k hk => hf.arSz hy hk) (Nat.le_refl _) (Nat.le_trans (Nat.mul_le_mul_left _ (show _ ≤ 30 by have := hf.nh; have := hf.n3; omega)) (by omega))
        rw [dT hz, if_pos hz, if_pos hz, rArea_eq hf hy (by omega) hN, rHalf_eq hf hy (by omega) hN]
        simp only [cmp_eql, decide_true, Bool.and_self, Bool.not_true, cond_false, cond_true, bS]
        rw [SameRat_R za (by omega) hN]
        simp
      · rw [dF hz, if_neg hz, if_neg hz, Bool.not_false, cond_true]
        simp only [cmp_eql, decide_true, Bool.and_self, cond_true]
        rw [show (⟨⟨false, []⟩, ⟨false, []⟩⟩ : GRat) = zeroR from rfl, same_refl Len.zero hN]; rfl
end Go.KB
