/- The plain law of HullPrints: it returns true for every ship. No condition. -/
import Derived.Test.YtibkeigeifabmaaGreatDoorPHe
namespace Go.KB
set_option linter.unusedVariables false
set_option maxRecDepth 100000
theorem qZ3 {N : Nat} {s : GShip} {e : Int} (hc : jWd N s = some e) (h : e ≠ 0) : jKu N s = some ([], e) := by
  unfold jKu
  rw [hc, bS, jYp, dF h, Bool.not_false, cnT]
theorem law_HullPrints (x0 : GShip) (h0 : x0.ok) : jKz (2 ^ 70) x0 = some true := by
  have hN : 2 ^ 64 ≤ (2 ^ 70 : Nat) := by decide
  unfold jKz
  rw [qZx, bS, Bool.not_true, cnF]
  obtain ⟨b, hb, ht⟩ := qUu (s := x0) hN
  rw [hb, bS]
  cases b with
  | false => rfl
  | true =>
    have ht := ht rfl
    have hc := qVg ht hN
    simp only [Bool.not_true, cnF]
    rw [qVd ht hN, bS]
    by_cases h : jSy x0 = 0
    · have hs := jC8.of h
      rw [h] at hc
      rw [qYs hc hs hN, bS, jAc ht hN, bS, h, jYp, dT rfl, Bool.not_true, cnF]
      simp only []
      rw [qV8 hc hs hN, bS, qYh hs hN, jU3, dT rfl, cnT, bS, Bool.true_and, jDl, dT rfl, Bool.true_and, Bool.true_and, cnT, qY4 ht hN, bS]
      rfl
    · rw [qZ3 hc h, bS, jAc ht hN, bS, jYp, dF h, Bool.not_false, cnT, jU3, dT rfl]
      rfl
end Go.KB
