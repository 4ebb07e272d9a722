/- Plain laws: volumes of the reference. Plain laws: errors of densities, hydrostatics that are the same. No condition. -/
import Derived.Test.YthoopaegiclfaaaGreatPZe
import Derived.Test.YthoopaegiclfaaaGreatPZh
namespace Go.KB
set_option linter.unusedVariables false
set_option maxRecDepth 100000
section
variable {s : GShip} {p q : Rat} {K : Nat} (hK : K ≤ 1000) (hy : ∀ i, i < s.Stations.length → Sz K (yT s p q i))
include hK hy
end
end Go.KB
namespace Go.KB
set_option linter.unusedVariables false
set_option maxRecDepth 100000
theorem Len.R {k : Nat} {q : Rat} (h : Sz k q) (hk : k ≤ 4000000) : Len (KB.R q) := R_len h hk
theorem Len.zero : Len jAz := ⟨by decide, by decide⟩
end Go.KB
