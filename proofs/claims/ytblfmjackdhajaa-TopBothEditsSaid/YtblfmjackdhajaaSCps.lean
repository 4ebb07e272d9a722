/- The library's contract of slices.Compact at string, at this dump: written by the kit's program lay-plain. No condition. -/
import Derived.Shelf.Slices.CompactS
import Derived.Test.YtblfmjackdhajaaProg
namespace Go.Proofs
open Go.Shelf
def Try.laysCps_ren : Go.Shelf.Ren := ⟨fun | 194 => 29 | n => n, fun | 31 => 26 | 9 => 9 | 3 => 3 | 4 => 4 | 0 => 0 | n => n, fun | n => n⟩
theorem Try.laysCps : Go.Proofs.Lays.n194 Try.prog Try.laysCps_ren := {
  mixed := by kernel_rfl
  f194 := Try.func29.trans (congrArg some (by kernel_rfl))
  t0 := Try.underlying0
  a0 := Try.isAgg0
  z0 := Try.sizeOf0
  v0 := Try.zeroValue0
  t3 := Try.underlying3
  a3 := Try.isAgg3
  z3 := Try.sizeOf3
  v3 := Try.zeroValue3
  t4 := Try.underlying4
  a4 := Try.isAgg4
  z4 := Try.sizeOf4
  v4 := Try.zeroValue4
  t9 := Try.underlying9
  a9 := Try.isAgg9
  z9 := Try.sizeOf9
  v9 := Try.zeroValue9
  t31 := Try.underlying26
  a31 := Try.isAgg26
  z31 := Try.sizeOf26
  v31 := Try.zeroValue26 }
end Go.Proofs
