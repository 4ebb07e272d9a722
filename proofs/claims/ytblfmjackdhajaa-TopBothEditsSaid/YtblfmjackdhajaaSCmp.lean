/- The library's contract of strings.Compare at this dump: written by the kit's program lay-plain. No condition. -/
import Derived.Shelf.Small.Strs
import Derived.Test.YtblfmjackdhajaaProg
import Derived.Test.YtblfmjackdhajaaKLib
namespace Go.Proofs
open Go.Shelf
def Try.laysCmp_ren : Go.Shelf.Ren := ⟨fun | 106 => 32 | 213 => 49 | 265 => 76 | n => n, fun | 9 => 9 | 3 => 3 | n => n, fun | n => n⟩
theorem Try.laysCmp : Go.Proofs.Lays.n106 Try.prog Try.laysCmp_ren := {
  mixed := by kernel_rfl
  f106 := Try.func32.trans (congrArg some (by kernel_rfl))
  f213 := Try.func49.trans (congrArg some (by kernel_rfl))
  f265 := Try.func76.trans (congrArg some (by kernel_rfl))
  t3 := Try.underlying3
  a3 := Try.isAgg3
  z3 := Try.sizeOf3
  v3 := Try.zeroValue3
  t9 := Try.underlying9
  a9 := Try.isAgg9
  z9 := Try.sizeOf9
  v9 := Try.zeroValue9 }
end Go.Proofs
