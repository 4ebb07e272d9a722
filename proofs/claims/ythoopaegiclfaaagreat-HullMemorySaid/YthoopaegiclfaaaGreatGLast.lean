/- All walks that are printed. No condition. -/
import Derived.Test.YthoopaegiclfaaaGreatGProof3
