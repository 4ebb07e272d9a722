/- The plain law of HullHydrostatics: it returns true for every ship, attitude and density. No condition. -/
import Derived.Test.YtbedbjphickpaaaGreatPZe
namespace Go.KB
set_option linter.unusedVariables false
set_option maxRecDepth 100000

theorem law_HullHydrostatics (x0 : GShip) (x1 : GAttitude) (x2 : Int) (h0 : x0.ok) (h1 : x1.ok) (h2 : gI .i64 x2) : f_law02_HullHydrostatics (2 ^ 70) x0 x1 x2 = some true := by
  have hN : 2 ^ 64 ≤ (2 ^ 70 : Nat) := by decide
  unfold f_law02_HullHydrostatics
  rw [awake_true, bS, Bool.not_true, cond_false]
  obtain ⟨b, hb, ht⟩ := small_eq (s := x0) hN
  obtain ⟨c, hc, hq⟩ := att_eq (N := 2 ^ 70) h1
  rw [hb, bS]
  cases b with
  | false => rfl
  | true =>
    rw [Bool.not_true, Bool.not_false, cond_true, hc, bS]
    cases c with
    | false => rfl
    | true =>
      have ht := ht rfl
      obtain ⟨q1, q2⟩ := hq rfl
      rw [Bool.not_true, Bool.or_false, cond_false, copied_eq ht hN, bS, Hyd_eq ht q1 q2 (by omega) hN, bS, both_eq ht hN, bS, cmp_neq]
      by_cases hz : bothE x0 x2 = 0
      · obtain ⟨hs, hd⟩ := both_ok hz
        have hf := Fits.of ht hs
        have hd := dens_ok hd
        rw [dT hz, if_pos hz, Bool.not_true, cond_false, rHyd_eq hf q1 q2 (by omega) (K := 2 * 32 + 98) (by omega) (hf.y32 q1 q2) (by omega) (by omega) hN, bS]
        by_cases hV : vQ x0 (rv x1.Sink) (rv x1.Slope) = 0
        · rw [if_pos hV, if_pos hV]
          show ((bif true then f_law02_SameHydro (2 ^ 70) zeroH zeroH else some false).bind fun v9 => some (true && v9)) = some true
          rw [cond_true, sameH_refl LenH.zero hN]; rfl
        · rw [if_neg hV, if_neg hV]
          show ((bif true then f_law02_SameHydro (2 ^ 70) (hydroQ x0 (rv x1.Sink) (rv x1.Slope) x2) (hydroQ x0 (rv x1.Sink) (rv x1.Slope) x2) else some false).bind fun v9 => some (true && v9)) = some true
          rw [cond_true, sameH_refl (hydro_len (K := 2 * 32 + 98) (by omega) (hf.y32 q1 q2) hf (by omega) (by omega)) hN]; rfl
      · rw [dF hz, if_neg hz, Bool.not_false, cond_true, cmp_eql, dT rfl]
        show ((bif true then f_law02_SameHydro (2 ^ 70) zeroH zeroH else some false).bind fun v9 => some (true && v9)) = some true
        rw [cond_true, sameH_refl LenH.zero hN]; rfl
end Go.KB
