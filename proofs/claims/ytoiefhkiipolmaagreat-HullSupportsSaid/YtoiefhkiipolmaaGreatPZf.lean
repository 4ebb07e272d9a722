/- Plain laws: volumes of the reference. Plain laws: errors of densities, hydrostatics that are the same. No condition. -/
import Derived.Test.YtoiefhkiipolmaaGreatPZe
import Derived.Test.YtoiefhkiipolmaaGreatPZh
namespace Go.KB
set_option linter.unusedVariables false
set_option maxRecDepth 100000
theorem qUq {N k : Nat} {x : jQv} {q : Rat} {d : Int} (h : Qf k x q) (hs : Sz k q) (hk : k ≤ 400000) (h0 : -9223372036854775807 ≤ d) (h1 : d ≤ 9223372036854775807) (hN : 2 ^ 64 ≤ N) : jDj N x d = some (R (kgQ q d)) := by
 unfold jDj kgQ
 have hd := Sz.i64 (z := d) (by omega) h1
 have he := Sz.i64 (z := 1000000000) (by omega) (by omega)
 rw [Q_R h0 h1 (by omega) (by omega) (by omega) hN, bS, qVl h (Qf.R (hd.div he)) (by omega) hN]
 show some (R _) = some (R _)
 congr 2
 have := jUw (show (1000000000 : Int) ≠ 0 by omega)
 grind
section
variable {s : GShip} {p q : Rat} {K : Nat} (hK : K ≤ 1000) (hy : ∀ i, i < s.Stations.length → Sz K (yT s p q i))
include hK hy
end
end Go.KB
namespace Go.KB
set_option linter.unusedVariables false
set_option maxRecDepth 100000
theorem qUg {N : Nat} {d : Int} : jGj N d = some (jMs d) := by
 unfold jGj jMs
 rw [jHk, bS]
 cases inR 900 1100 d <;> rfl
theorem qH2 {N : Nat} {s : GShip} {d : Int} (ht : qG6 s) (hN : 2 ^ 64 ≤ N) : jB6 N s d = some (jRb s d) := by
 unfold jB6 jRb
 rw [qYf ht hN, bS, jVw, qUg, bS]
 by_cases h : jMt s = 0
 ·rw [dT h, if_pos h]; rfl
 ·rw [dF h, if_neg h]; rfl
theorem Len.R {k : Nat} {q : Rat} (h : Sz k q) (hk : k ≤ 4000000) : Len (KB.R q) := R_len h hk
theorem Len.zero : Len jNd := ⟨by decide, by decide⟩
end Go.KB
