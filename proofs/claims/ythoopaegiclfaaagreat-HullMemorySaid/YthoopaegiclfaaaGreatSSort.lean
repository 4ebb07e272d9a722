/- slices.Sort and slices.Compact at int in this program. No condition. -/
import Derived.Test.YthoopaegiclfaaaGreatKSor
import Derived.Test.YthoopaegiclfaaaGreatGPure
import Derived.Test.YthoopaegiclfaaaGreatSLay
namespace Go.KB
open Go.Proofs
set_option linter.unusedVariables false
theorem jC7 (zs : List Int) : (Lib.compact zs).length ≤ zs.length := by
  unfold Lib.compact Lib.compactUpTo
  rw [List.length_map]
  exact Nat.le_trans (List.length_filter_le _ _) (by simp)
theorem jB7 (N : Nat) (K : Option qX0) (x0 : (List Int)) (r : (List Int)) (H : jHg N x0 = some r) : qQd Tryz.prog 64 [jJr.triv] 0 (jGn K 3 jQf x0) (jGn K 3 jQf r) (fT0) :=
  qZb K H (fun blk off cap zs w h1 h2 h3 => Any.slices_Sort_int Tryz.laysSort blk off cap zs w h1 h2 h3)
theorem jH2 (N : Nat) (x0 : (List Int)) (r : (List Int)) (H : jUc N x0 = some r) : jT5 Tryz.prog 65 [jJr.triv] 0 (jQs 3 jQf x0) (jQs 3 jQf r) jJr.triv :=
  qZa H (fun blk off cap zs w h1 h2 h3 => Any.slices_Compact_int Tryz.laysCompact blk off cap zs w h1 h2 h3) (jC7 x0)
end Go.KB
