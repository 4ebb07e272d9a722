/- The plain law of HullParses: it returns true for every text. No condition. -/
import Derived.Test.YtcoggcadlinmdaaGreatDoorPZ2
namespace Go.KB
set_option linter.unusedVariables false
set_option maxRecDepth 100000
theorem qKg : qX4 jKz := ⟨by decide, by decide, fun i hi => absurd hi (Nat.not_lt_zero i), fun i hi => absurd hi (Nat.not_lt_zero i)⟩
theorem jC0 {N : Nat} (hN : 2 ^ 64 ≤ N) : jY6 N jKz = some true := by
  unfold jY6
  rw [show (⟨[], 0, [], (⟨[], 0, 0, 0, 0⟩ : jJ0), []⟩ : jJp) = jKz from rfl, jTa qKg hN]; rfl
theorem qKa {g : jJp} {n : Nat} (hn : n ≤ 100000) (h : GOk g n) : qX4 g := by
  have h1 := h.st
  have h2 := h.it
  refine ⟨by omega, by omega, fun i hi => ?_, fun i hi => ?_⟩
  · rw [qYm hi]; have := h.lv _ (List.getElem_mem hi); omega
  · rw [qYm hi]; have := h.lv _ (List.getElem_mem hi); omega
theorem len_of {l : List Str} {y z : Str} (hz : z ∈ l) : z.length ≤ (unl l ++ y).length := by
  have : z.length ≤ (unl l).length := by
    induction l with
    | nil => cases hz
    | cons a l ih =>
      rw [jH4]
      rcases List.mem_cons.1 hz with rfl | hz
      · simp only [List.length_append, List.length_cons]; omega
      · have := ih hz; simp only [List.length_append, List.length_cons]; omega
  rw [List.length_append]; omega
theorem law_HullParses (x0 : Str) (h0 : gS x0) : jYe (2 ^ 70) x0 = some true := by
  have hN : 2 ^ 64 ≤ (2 ^ 70 : Nat) := by decide
  unfold jYe
  rw [qZp, bS, Bool.not_true, cnF, jKv, jKv, jKv, jM0]
  by_cases h1 : (x0.length : Int) ≤ 60000
  · by_cases h2 : (600 : Int) < (x0.length : Int)
    · rw [dT h2, dT h1]; rfl
    · rw [dF h2, dF (show ¬ (60100 : Int) < (x0.length : Int) by omega), dF (show ¬ (60000 : Int) < (x0.length : Int) by omega), Bool.false_and, Bool.or_self, cnF]
      simp only [cnF]
      obtain ⟨l, y, g1, g2, g3, g4⟩ := qY2 x0
      have hx : x0.length ≤ 60000 := by omega
      have hxl : ∀ z ∈ l, z.length ≤ 60000 := fun z hz => by have := len_of (y := y) hz; rw [← g2] at this; omega
      have hll : l.length ≤ 60000 := by have := jAh (l := l); rw [g2] at hx; simp at hx; omega
      rw [qXe hx g2 g3 g4 hN, qVk hx g1 hxl hN]
      cases hp : jPp l y with
      | inr k =>
        simp only []
        rw [bS, bS]
        simp only [cnT]
        rw [show jJq .eql 7 7 = true from rfl, Bool.true_and, jW0, dT rfl, cnT, jC0 hN, bS]; rfl
      | inl s =>
        have hg : GOk s l.length := by
          unfold jPp at hp
          cases hr : qJp jKz 0 l 0 with
          | inr k => rw [hr] at hp; cases hp
          | inl p =>
            obtain ⟨g, st⟩ := p
            rw [hr] at hp
            have := qV2 (n := 0) hxl jSd hr
            rw [Nat.zero_add] at this
            simp only [] at hp
            split at hp
            · cases hp; exact this
            · cases hp
        have ht := qKa (by omega) hg
        simp only []
        rw [qZd ht hN, bS]
        by_cases h : jSg s = 0
        · rw [h, jYu, dT rfl, Bool.not_true, cnF]
          rw [bS, bS]
          simp only [cnF]
          rw [jTp ht hN, bS, h, jYu, dT rfl, Bool.not_true, cnF, show jJq .eql 0 0 = true from rfl, Bool.and_self, cnT, jTa ht hN]; rfl
        · rw [jYu, dF h, Bool.not_false, cnT]
          rw [bS, bS]
          simp only [cnF]
          rw [jTp ht hN, bS, jYu, dF h, Bool.not_false, cnT, jW0, dT rfl, Bool.true_and, show jJq .eql 0 0 = true from rfl, cnT, jC0 hN]; rfl
  · rw [dF h1, Bool.and_false, Bool.false_or]
    by_cases h3 : (60100 : Int) < (x0.length : Int)
    · rw [dT h3, cnT]
    · rw [dF h3, cnF]
      have e : jY4 (2 ^ 70) x0 = some (jKz, 0, 8) := by
        unfold jY4
        rw [jKv, dT (by omega), cnT]; rfl
      rw [e, bS, dT (show (60000 : Int) < (x0.length : Int) by omega), cnT]
      simp only []
      rw [show jJq .eql 8 8 = true from rfl, show jJq .eql 0 0 = true from rfl, Bool.and_self, cnT, jC0 hN]; rfl
end Go.KB
