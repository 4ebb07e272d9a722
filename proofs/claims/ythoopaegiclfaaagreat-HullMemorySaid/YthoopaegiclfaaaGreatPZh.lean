/- Plain laws of the reference's long arithmetic: natural numbers. Plain laws of the reference's long arithmetic: quotients, integers, fractions. No condition. -/
import Derived.Test.YthoopaegiclfaaaGreatPZc
namespace Go.KB
set_option linter.unusedVariables false
end Go.KB
namespace Go.KB
set_option linter.unusedVariables false
theorem Sz.num {k : Nat} {q : Rat} (h : Sz k q) : nl q.num.natAbs ≤ k / 16 + 1 := qJs (by unfold Sz at h; omega)
theorem Sz.den {k : Nat} {q : Rat} (h : Sz k q) : nl ((q.den : Int)).natAbs ≤ k / 16 + 1 := qJs (by unfold Sz at h; rw [Int.natAbs_natCast]; omega)
end Go.KB
