/- Plain laws: what is immersed of a station, of the program. Plain laws: the hydrostatics that the program computes. Plain laws: errors of densities, the answer of Hydrostatics. No condition. -/
import Derived.Test.YthoopaegiclfaaaGreatPZd
import Derived.Test.YthoopaegiclfaaaGreatPZb
namespace Go.KB
set_option linter.unusedVariables false
set_option maxRecDepth 100000
structure Fit (t : jJy) : Prop where
 x0 : -1000000 ≤ t.X
 x1 : t.X ≤ 1000000
 w0 : 1 ≤ t.Width
 w1 : t.Width ≤ 100000
 n2 : 2 ≤ t.Levels.length
 n3 : t.Levels.length ≤ 30
 nh : t.Halves.length + 1 = t.Levels.length
 l0 : ∀ i, i < t.Levels.length → 0 ≤ t.Levels[i]! ∧ t.Levels[i]! ≤ 100000
 la : ∀ i, 0 < i → i < t.Levels.length → t.Levels[i - 1]! < t.Levels[i]!
 hb : ∀ i, i < t.Halves.length → 0 ≤ t.Halves[i]! ∧ t.Halves[i]! ≤ 100000
theorem jF3 {a b n : Int} : inR a b n = true ↔ a ≤ n ∧ n ≤ b := by unfold inR; simp
theorem Fit.of {t : jJy} (h1 : jKa t = 0) (h2 : jB8 t = 0) : Fit t := by
  unfold jKa at h1
  split at h1
  · rename_i hp
    rw [jF3, jF3] at hp
    unfold jB8 at h2
    split at h2
    · cases h2
    · rename_i hn
      split at h2
      · rename_i hl
        have h3 : ∀ i, i < t.Levels.length → (0 ≤ t.Levels[i]! ∧ t.Levels[i]! ≤ 100000) ∧ ¬(0 < i ∧ t.Levels[i]! ≤ t.Levels[i - 1]!) := fun i hi => by
          have := jGg hl i (by omega) (by omega)
          unfold jC1 at this
          split at this
          · rename_i h4
            rw [jF3] at h4
            split at this
            · cases this
            · rename_i h5; exact ⟨h4, h5⟩
          · cases this
        refine ⟨by omega, by omega, by omega, by omega, by omega, by omega, by omega, fun i hi => (h3 i hi).1, fun i h0 hi => ?_, fun i hi => ?_⟩
        · have := (h3 i hi).2
          omega
        · have := jGg h2 i (by omega) (by omega)
          unfold qYl at this
          split at this
          · rename_i h4; rwa [jF3] at h4
          · cases this
      · rename_i hl; exact absurd h2 hl
  · cases h1
end Go.KB
namespace Go.KB
set_option linter.unusedVariables false
set_option maxRecDepth 100000
structure Fits (s : GShip) : Prop where
 n1 : 1 ≤ s.Stations.length
 n6 : s.Stations.length ≤ 6
 fit : ∀ i, i < s.Stations.length → Fit s.Stations[i]!
 n8 : ∀ i, i < s.Stations.length → s.Stations[i]!.Levels.length ≤ 8
 len : 1 ≤ s.Length ∧ s.Length ≤ 1000000
 lds : jNq s = 0
theorem qW0 {l : List jJy} {i : Nat} (h : jL2 l i = 0) : jKa l[i]! = 0 ∧ jB8 l[i]! = 0 := by
 unfold jL2 jNd at h
 split at h
 ·rename_i hp
  refine ⟨hp, ?_⟩
  split at h
  ·exact h
  ·split at h
   ·exact h
   ·rename_i hn; exact absurd h hn
 ·rename_i hp; exact absurd h hp
theorem Fits.of {s : GShip} (ht : jN9 s) (h : jYd s = 0) : Fits s := by
 unfold jYd at h
 split at h
 ·split at h
  ·rename_i hl
   rw [Bool.and_eq_true, jF3, jF3] at hl
   split at h
   ·rename_i hz
    have hf : ∀ i, i < s.Stations.length → Fit s.Stations[i]! := fun i hi => by
     have := qW0 (jGg hz i (by omega) (by omega))
     exact Fit.of this.1 this.2
    refine ⟨by omega, ?_, hf, fun i hi => ?_, hl.1, h⟩
    ·have := ht.s6; omega
    ·have := ht.l8 i hi; have := (hf i hi).n3; omega
   ·rename_i hz; exact absurd h hz
  ·cases h
 ·cases h
theorem qZ0 {s : GShip} (h : jYd s = 0) : jNq s = 0 := by
 unfold jYd at h
 split at h
 ·split at h
  ·split at h
   ·exact h
   ·rename_i hz; exact absurd h hz
  ·cases h
 ·cases h
section
variable (s : GShip) (p q : Rat)
def yT (i : Nat) : Rat := ySet p q s.Stations[i]!.X
end
section
variable {s : GShip} {p q : Rat} {i : Nat}
variable {K : Nat} (hK : K ≤ 1000) (hy : ∀ i, i < s.Stations.length → Sz K (yT s p q i))
include hK hy
end
section
variable (s : GShip) (p q : Rat)
end
end Go.KB
namespace Go.KB
set_option linter.unusedVariables false
set_option maxRecDepth 100000
def jNr (d : Int) : Int := if inR 900 1100 d = true then 0 else 2
theorem qYx {N : Nat} {d : Int} : jWe N d = some (jNr d) := by
 unfold jWe jNr
 rw [jK9, bS]
 cases inR 900 1100 d <;> rfl
theorem qYj {d : Int} (h : jNr d = 0) : 900 ≤ d ∧ d ≤ 1100 := by
 unfold jNr at h
 split at h
 ·rename_i hd; rwa [jF3] at hd
 ·cases h
def qZm (s : GShip) (d : Int) : Int := if jYd s = 0 then jNr d else jYd s
theorem qQe {N : Nat} {s : GShip} {d : Int} (ht : jN9 s) (hN : 2 ^ 64 ≤ N) : jWd N s d = some (qZm s d) := by
 unfold jWd qZm
 rw [jMc ht hN, bS, jW5, qYx, bS]
 by_cases h : jYd s = 0
 ·rw [dT h, if_pos h]; rfl
 ·rw [dF h, if_neg h]; rfl
theorem both_ok {s : GShip} {d : Int} (h : qZm s d = 0) : jYd s = 0 ∧ jNr d = 0 := by
 unfold qZm at h
 split at h
 ·rename_i hs; exact ⟨hs, h⟩
 ·rename_i hs; exact absurd h hs
def Len (x : jQg) : Prop := x.Num.Limbs.length < 1000000 ∧ x.Den.Limbs.length < 1000000
section
variable {s : GShip} {p q : Rat} {K : Nat} (hK : K ≤ 1000) (hy : ∀ i, i < s.Stations.length → Sz K (yT s p q i))
include hK hy
end
end Go.KB
