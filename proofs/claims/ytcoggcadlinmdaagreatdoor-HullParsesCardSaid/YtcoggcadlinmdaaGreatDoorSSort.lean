/- slices.Sort and slices.Compact at int in this program. No condition. -/
import Derived.Test.YtcoggcadlinmdaaGreatDoorKSor
import Derived.Test.YtcoggcadlinmdaaGreatDoorGPure
import Derived.Test.YtcoggcadlinmdaaGreatDoorSLay
namespace Go.KB
open Go.Proofs
set_option linter.unusedVariables false
theorem qJ5 (zs : List Int) : (Lib.compact zs).length ≤ zs.length := by
  unfold Lib.compact Lib.compactUpTo
  rw [List.length_map]
  exact Nat.le_trans (List.length_filter_le _ _) (by simp)
theorem jDx (N : Nat) (K : Option qW0) (x0 : (List Int)) (r : (List Int)) (H : jHj N x0 = some r) : qX5 Tryz.prog 70 [jJd.triv] 0 (jU8 K 3 jJf x0) (jU8 K 3 jJf r) (fT0) :=
  qVr K H (fun blk off cap zs w h1 h2 h3 => Any.slices_Sort_int Tryz.laysSort blk off cap zs w h1 h2 h3)
theorem jH9 (N : Nat) (x0 : (List Int)) (r : (List Int)) (H : jUq N x0 = some r) : qY1 Tryz.prog 71 [jJd.triv] 0 (jQ5 3 jJf x0) (jQ5 3 jJf r) jJd.triv :=
  qW5 H (fun blk off cap zs w h1 h2 h3 => Any.slices_Compact_int Tryz.laysCompact blk off cap zs w h1 h2 h3) (qJ5 x0)
end Go.KB
