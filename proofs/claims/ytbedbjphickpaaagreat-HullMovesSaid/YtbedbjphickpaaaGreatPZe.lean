/- Plain laws: what is immersed of a station, of the program. Plain laws: the hydrostatics that the program computes. Plain laws: errors of densities, the answer of Hydrostatics. No condition. -/
import Derived.Test.YtbedbjphickpaaaGreatPZd
import Derived.Test.YtbedbjphickpaaaGreatPZb
namespace Go.KB
set_option linter.unusedVariables false
set_option maxRecDepth 100000
def sumQ (f : Nat → Rat) : Nat → Rat
 | 0 => 0
 | n + 1 => sumQ f n + f n
theorem sumQ_congr {f g : Nat → Rat} : ∀ {n : Nat}, (∀ k, k < n → f k = g k) → sumQ f n = sumQ g n := by
 intro n
 induction n with
 | zero => intro _; rfl
 | succ n ih => intro h; rw [sumQ, sumQ, ih (fun k hk => h k (by omega)), h n (by omega)]
theorem sumSz {f : Nat → Rat} {c : Nat} : ∀ {n : Nat}, (∀ k, k < n → Sz c (f k)) → Sz (c * n) (sumQ f n) := by
 intro n
 induction n with
 | zero => intro _; exact Sz.zero
 | succ n ih => intro h; exact ((ih (fun k hk => h k (by omega))).add (h n (by omega))).mono (by rw [Nat.mul_succ]; exact Nat.le_refl _)
theorem sumSz' {f : Nat → Rat} {c n i m : Nat} (h : ∀ k, k < n → Sz c (f k)) (hi : i ≤ n) (hm : c * n ≤ m) : Sz m (sumQ f i) :=
 (sumSz (fun k hk => h k (by omega))).mono (Nat.le_trans (Nat.mul_le_mul_left c hi) hm)
structure Fit (t : GStation) : Prop where
 x0 : -1000000 ≤ t.X
 x1 : t.X ≤ 1000000
 w0 : 1 ≤ t.Width
 w1 : t.Width ≤ 100000
 n2 : 2 ≤ t.Levels.length
 n3 : t.Levels.length ≤ 30
 nh : t.Halves.length + 1 = t.Levels.length
 l0 : ∀ i, i < t.Levels.length → 0 ≤ t.Levels[i]! ∧ t.Levels[i]! ≤ 100000
 la : ∀ i, 0 < i → i < t.Levels.length → t.Levels[i - 1]! < t.Levels[i]!
 hb : ∀ i, i < t.Halves.length → 0 ≤ t.Halves[i]! ∧ t.Halves[i]! ≤ 100000
theorem inR_iff {a b n : Int} : inR a b n = true ↔ a ≤ n ∧ n ≤ b := by unfold inR; simp
theorem Fit.of {t : GStation} (h1 : placeErr t = 0) (h2 : formErr t = 0) : Fit t := by
  unfold placeErr at h1
  split at h1
  · rename_i hp
    rw [inR_iff, inR_iff] at hp
    unfold formErr at h2
    split at h2
    · cases h2
    · rename_i hn
      split at h2
      · rename_i hl
        have h3 : ∀ i, i < t.Levels.length → (0 ≤ t.Levels[i]! ∧ t.Levels[i]! ≤ 100000) ∧ ¬(0 < i ∧ t.Levels[i]! ≤ t.Levels[i - 1]!) := fun i hi => by
          have := firstErr_zero hl i (by omega) (by omega)
          unfold levE at this
          split at this
          · rename_i h4
            rw [inR_iff] at h4
            split at this
            · cases this
            · rename_i h5; exact ⟨h4, h5⟩
          · cases this
        refine ⟨by omega, by omega, by omega, by omega, by omega, by omega, by omega, fun i hi => (h3 i hi).1, fun i h0 hi => ?_, fun i hi => ?_⟩
        · have := (h3 i hi).2
          omega
        · have := firstErr_zero h2 i (by omega) (by omega)
          unfold halE at this
          split at this
          · rename_i h4; rwa [inR_iff] at h4
          · cases this
      · rename_i hl; exact absurd h2 hl
  · cases h1
end Go.KB
namespace Go.KB
set_option linter.unusedVariables false
set_option maxRecDepth 100000
structure Fits (s : GShip) : Prop where
 n1 : 1 ≤ s.Stations.length
 n6 : s.Stations.length ≤ 6
 fit : ∀ i, i < s.Stations.length → Fit s.Stations[i]!
 n8 : ∀ i, i < s.Stations.length → s.Stations[i]!.Levels.length ≤ 8
 len : 1 ≤ s.Length ∧ s.Length ≤ 1000000
 lds : ldsErr s = 0
theorem sta_fit {l : List GStation} {i : Nat} (h : staErr l i = 0) : placeErr l[i]! = 0 ∧ formErr l[i]! = 0 := by
 unfold staErr staErr1 at h
 split at h
 ·rename_i hp
  refine ⟨hp, ?_⟩
  split at h
  ·exact h
  ·split at h
   ·exact h
   ·rename_i hn; exact absurd h hn
 ·rename_i hp; exact absurd h hp
theorem Fits.of {s : GShip} (ht : Tame s) (h : shpErr s = 0) : Fits s := by
 unfold shpErr at h
 split at h
 ·split at h
  ·rename_i hl
   rw [Bool.and_eq_true, inR_iff, inR_iff] at hl
   split at h
   ·rename_i hz
    have hf : ∀ i, i < s.Stations.length → Fit s.Stations[i]! := fun i hi => by
     have := sta_fit (firstErr_zero hz i (by omega) (by omega))
     exact Fit.of this.1 this.2
    refine ⟨by omega, ?_, hf, fun i hi => ?_, hl.1, h⟩
    ·have := ht.s6; omega
    ·have := ht.l8 i hi; have := (hf i hi).n3; omega
   ·rename_i hz; exact absurd h hz
  ·cases h
 ·cases h
theorem shp_lds {s : GShip} (h : shpErr s = 0) : ldsErr s = 0 := by
 unfold shpErr at h
 split at h
 ·split at h
  ·split at h
   ·exact h
   ·rename_i hz; exact absurd h hz
  ·cases h
 ·cases h
section
variable (s : GShip) (p q : Rat)
def yT (i : Nat) : Rat := ySet p q s.Stations[i]!.X
end
section
variable {s : GShip} {p q : Rat} {i : Nat}
variable {K : Nat} (hK : K ≤ 1000) (hy : ∀ i, i < s.Stations.length → Sz K (yT s p q i))
include hK hy
end
section
variable (s : GShip) (p q : Rat)
end
end Go.KB
namespace Go.KB
set_option linter.unusedVariables false
set_option maxRecDepth 100000
def Len (x : GRat) : Prop := x.Num.Limbs.length < 1000000 ∧ x.Den.Limbs.length < 1000000
section
variable {s : GShip} {p q : Rat} {K : Nat} (hK : K ≤ 1000) (hy : ∀ i, i < s.Stations.length → Sz K (yT s p q i))
include hK hy
end
end Go.KB
