/- slices.Sort and slices.Compact at int in this program. No condition. -/
import Derived.Test.YtbedbjphickpaaaGreatKSor
import Derived.Test.YtbedbjphickpaaaGreatGPure
import Derived.Test.YtbedbjphickpaaaGreatSLay
namespace Go.KB
open Go.Proofs
set_option linter.unusedVariables false
theorem compact_len (zs : List Int) : (Lib.compact zs).length ≤ zs.length := by
  unfold Lib.compact Lib.compactUpTo
  rw [List.length_map]
  exact Nat.le_trans (List.length_filter_le _ _) (by simp)
theorem okM_f_slices_Sortlint_int (N : Nat) (K : Option SegK) (x0 : (List Int)) (r : (List Int)) (H : f_slices_Sortlint_int N x0 = some r) : FnOkM Tryz.prog 111 [Fact.triv] 0 (segE K 3 r_i64 x0) (segE K 3 r_i64 r) (fT0) :=
  okM_sortI K H (fun blk off cap zs w h1 h2 h3 => Any.slices_Sort_int Tryz.laysSort blk off cap zs w h1 h2 h3)
theorem okX_f_slices_Compactlint_int (N : Nat) (x0 : (List Int)) (r : (List Int)) (H : f_slices_Compactlint_int N x0 = some r) : FnOkX Tryz.prog 137 [Fact.triv] 0 (arrE 3 r_i64 x0) (arrE 3 r_i64 r) Fact.triv :=
  okX_compI H (fun blk off cap zs w h1 h2 h3 => Any.slices_Compact_int Tryz.laysCompact blk off cap zs w h1 h2 h3) (compact_len x0)
end Go.KB
