/- slices.Sort and slices.Compact at int in this program. No condition. -/
import Derived.Test.YtoiefhkiipolmaaGreatKSor
import Derived.Test.YtoiefhkiipolmaaGreatGPure
import Derived.Test.YtoiefhkiipolmaaGreatSLay
namespace Go.KB
open Go.Proofs
set_option linter.unusedVariables false
theorem qXj (zs : List Int) : (Lib.compact zs).length ≤ zs.length := by
  unfold Lib.compact Lib.compactUpTo
  rw [List.length_map]
  exact Nat.le_trans (List.length_filter_le _ _) (by simp)
theorem jF7 (N : Nat) (K : Option qW1) (x0 : (List Int)) (r : (List Int)) (H : jBe N x0 = some r) : qZ7 Tryz.prog 54 [jJh.triv] 0 (jBq K 3 r_i64 x0) (jBq K 3 r_i64 r) (fT0) :=
  qYy K H (fun blk off cap zs w h1 h2 h3 => Any.slices_Sort_int Tryz.laysSort blk off cap zs w h1 h2 h3)
theorem jDl (N : Nat) (x0 : (List Int)) (r : (List Int)) (H : jHv N x0 = some r) : qUa Tryz.prog 125 [jJh.triv] 0 (jQ0 3 r_i64 x0) (jQ0 3 r_i64 r) jJh.triv :=
  qWf H (fun blk off cap zs w h1 h2 h3 => Any.slices_Compact_int Tryz.laysCompact blk off cap zs w h1 h2 h3) (qXj x0)
end Go.KB
