/- slices.Sort and slices.Compact at int in this program. No condition. -/
import Derived.Test.YtibkeigeifabmaaGreatDoorKSor
import Derived.Test.YtibkeigeifabmaaGreatDoorGPure
import Derived.Test.YtibkeigeifabmaaGreatDoorSLay
namespace Go.KB
open Go.Proofs
set_option linter.unusedVariables false
theorem qQe (zs : List Int) : (Lib.compact zs).length ≤ zs.length := by
  unfold Lib.compact Lib.compactUpTo
  rw [List.length_map]
  exact Nat.le_trans (List.length_filter_le _ _) (by simp)
theorem jDe (N : Nat) (K : Option qY1) (x0 : (List Int)) (r : (List Int)) (H : jHs N x0 = some r) : qX8 Tryz.prog 77 [jJm.triv] 0 (jGh K 3 jJl x0) (jGh K 3 jJl r) (fT0) :=
  qYd K H (fun blk off cap zs w h1 h2 h3 => Any.slices_Sort_int Tryz.laysSort blk off cap zs w h1 h2 h3)
theorem jBd (N : Nat) (x0 : (List Int)) (r : (List Int)) (H : jUf N x0 = some r) : qKc Tryz.prog 78 [jJm.triv] 0 (jXv 3 jJl x0) (jXv 3 jJl r) jJm.triv :=
  qWg H (fun blk off cap zs w h1 h2 h3 => Any.slices_Compact_int Tryz.laysCompact blk off cap zs w h1 h2 h3) (qQe x0)
end Go.KB
