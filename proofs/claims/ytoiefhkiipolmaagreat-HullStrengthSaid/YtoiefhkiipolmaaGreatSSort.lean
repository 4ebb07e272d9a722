/- slices.Sort and slices.Compact at int in this program. No condition. -/
import Derived.Test.YtoiefhkiipolmaaGreatKSor
import Derived.Test.YtoiefhkiipolmaaGreatGPure
import Derived.Test.YtoiefhkiipolmaaGreatSLay
namespace Go.KB
open Go.Proofs
set_option linter.unusedVariables false
theorem qX8 (zs : List Int) : (Lib.compact zs).length ≤ zs.length := by
  unfold Lib.compact Lib.compactUpTo
  rw [List.length_map]
  exact Nat.le_trans (List.length_filter_le _ _) (by simp)
theorem jG5 (N : Nat) (K : Option qUc) (x0 : (List Int)) (r : (List Int)) (H : jWf N x0 = some r) : qWy Tryz.prog 54 [jJl.triv] 0 (jBc K 3 r_i64 x0) (jBc K 3 r_i64 r) (fT0) :=
  qKv K H (fun blk off cap zs w h1 h2 h3 => Any.slices_Sort_int Tryz.laysSort blk off cap zs w h1 h2 h3)
theorem jD9 (N : Nat) (x0 : (List Int)) (r : (List Int)) (H : jHt N x0 = some r) : qHk Tryz.prog 125 [jJl.triv] 0 (jQ6 3 r_i64 x0) (jQ6 3 r_i64 r) jJl.triv :=
  qKe H (fun blk off cap zs w h1 h2 h3 => Any.slices_Compact_int Tryz.laysCompact blk off cap zs w h1 h2 h3) (qX8 x0)
end Go.KB
