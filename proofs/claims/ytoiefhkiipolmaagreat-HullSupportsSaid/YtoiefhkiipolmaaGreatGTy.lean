/- What the translation says of its types. Printed by a program. No condition. -/
import Derived.Test.YtoiefhkiipolmaaGreatGTypes
import Derived.Test.YtoiefhkiipolmaaGreatProg
namespace Go.KB
open Go.Proofs
theorem jRj : jYt Tryz.prog 27 GShip.rep := ⟨fun _ => by kernel_rfl, fun _ => by kernel_rfl, fun _ => by kernel_rfl⟩
theorem ty3 : jYt Tryz.prog 3 r_i64 := ⟨fun _ => by kernel_rfl, fun _ => by kernel_rfl, fun _ => by kernel_rfl⟩
theorem jH3 : Tryz.prog.underlying 69 = some (.slice 3) := by kernel_rfl
theorem jDf : jYt Tryz.prog 88 jJy.rep := ⟨fun _ => by kernel_rfl, fun _ => by kernel_rfl, fun _ => by kernel_rfl⟩
theorem pl88 : jZu Tryz.prog 88 (fun i => [(0, 1), (1, 1), (2, 1), (3, 1)][i]?) := jZu.of (by kernel_rfl)
theorem jN6 : Tryz.prog.underlying 22 = some (.slice 88) := by kernel_rfl
theorem jRs : jYt Tryz.prog 24 jQ5.rep := ⟨fun _ => by kernel_rfl, fun _ => by kernel_rfl, fun _ => by kernel_rfl⟩
theorem pl24 : jZu Tryz.prog 24 (fun i => [(0, 1), (1, 1), (2, 1), (3, 1), (4, 1)][i]?) := jZu.of (by kernel_rfl)
theorem pl27 : jZu Tryz.prog 27 (fun i => [(0, 1), (1, 1), (2, 1), (3, 5), (8, 1)][i]?) := jZu.of (by kernel_rfl)
theorem jQg : jYt Tryz.prog 32 jQv.rep := ⟨fun _ => by kernel_rfl, fun _ => by kernel_rfl, fun _ => by kernel_rfl⟩
theorem jW7 : jYt Tryz.prog 30 jQr.rep := ⟨fun _ => by kernel_rfl, fun _ => by kernel_rfl, fun _ => by kernel_rfl⟩
theorem un3 : Tryz.prog.underlying 3 = some (.int .i64) := by kernel_rfl
theorem jLb : Tryz.prog.underlying 156 = some (.int .u64) := by kernel_rfl
theorem jV9 : Tryz.prog.underlying 157 = some (.int .u16) := by kernel_rfl
theorem jXz : jYt Tryz.prog 157 jJu := ⟨fun _ => by kernel_rfl, fun _ => by kernel_rfl, fun _ => by kernel_rfl⟩
theorem jVz : Tryz.prog.underlying 28 = some (.slice 157) := by kernel_rfl
theorem jN3 : jS8 Tryz.prog 157 jJu := by unfold jS8; kernel_rfl
theorem qHj : jZu Tryz.prog 30 (fun i => [(0, 1), (1, 1)][i]?) := jZu.of (by kernel_rfl)
theorem qW7 : jZu Tryz.prog 32 (fun i => [(0, 2), (2, 2)][i]?) := jZu.of (by kernel_rfl)
theorem qK0 : jYt Tryz.prog 34 GAttitude.rep := ⟨fun _ => by kernel_rfl, fun _ => by kernel_rfl, fun _ => by kernel_rfl⟩
theorem pl34 : jZu Tryz.prog 34 (fun i => [(0, 4), (4, 4)][i]?) := jZu.of (by kernel_rfl)
theorem jP9 : jYt Tryz.prog 78 jJz.rep := ⟨fun _ => by kernel_rfl, fun _ => by kernel_rfl, fun _ => by kernel_rfl⟩
theorem qYx : jQu Tryz.prog 27 0 0 := jQu.of (by kernel_rfl)
theorem ty9 : jYt Tryz.prog 9 Rep.str := ⟨fun _ => by kernel_rfl, fun _ => by kernel_rfl, fun _ => by kernel_rfl⟩
theorem un9 : Tryz.prog.underlying 9 = some (.string) := by kernel_rfl
theorem qBm : Tryz.prog.underlying 164 = some (.slice 5) := by kernel_rfl
theorem un5 : Tryz.prog.underlying 5 = some (.int .u8) := by kernel_rfl
theorem ty5 : jYt Tryz.prog 5 jMx := ⟨fun _ => by kernel_rfl, fun _ => by kernel_rfl, fun _ => by kernel_rfl⟩
theorem qG9 : jQu Tryz.prog 27 1 1 := jQu.of (by kernel_rfl)
theorem jUk : jQu Tryz.prog 27 2 2 := jQu.of (by kernel_rfl)
theorem jR3 : jYt Tryz.prog 22 (Rep.slice jJy.rep) := ⟨fun _ => by kernel_rfl, fun _ => by kernel_rfl, fun _ => by kernel_rfl⟩
theorem jLv : jQu Tryz.prog 88 0 0 := jQu.of (by kernel_rfl)
theorem jMz : jQu Tryz.prog 88 1 1 := jQu.of (by kernel_rfl)
theorem un137 : Tryz.prog.underlying 137 = some (.pointer (Tryz.prog.pointee 137)) := by kernel_rfl
theorem jGv : jQu Tryz.prog 88 2 2 := jQu.of (by kernel_rfl)
theorem jF9 : jYt Tryz.prog 69 (Rep.slice r_i64) := ⟨fun _ => by kernel_rfl, fun _ => by kernel_rfl, fun _ => by kernel_rfl⟩
theorem jL5 : jQu Tryz.prog 88 3 3 := jQu.of (by kernel_rfl)
theorem jTw : jQu Tryz.prog 27 3 3 := jQu.of (by kernel_rfl)
theorem jNp : jQu Tryz.prog 24 0 0 := jQu.of (by kernel_rfl)
theorem qJt : jQu Tryz.prog 24 1 1 := jQu.of (by kernel_rfl)
theorem qWy : jQu Tryz.prog 24 2 2 := jQu.of (by kernel_rfl)
theorem qWr : jQu Tryz.prog 24 3 3 := jQu.of (by kernel_rfl)
theorem qYw : jQu Tryz.prog 24 4 4 := jQu.of (by kernel_rfl)
theorem jFa : jQu Tryz.prog 27 4 8 := jQu.of (by kernel_rfl)
theorem jA0 : jYt Tryz.prog 25 (Rep.slice jQ5.rep) := ⟨fun _ => by kernel_rfl, fun _ => by kernel_rfl, fun _ => by kernel_rfl⟩
theorem jNn : Tryz.prog.underlying 25 = some (.slice 24) := by kernel_rfl
theorem ko9 : jCz Tryz.prog 9 Rep.str jAh := jCz.str un9
theorem qBf : Tryz.prog.underlying 165 = some (.map 9 4) := by kernel_rfl
theorem ty4 : jYt Tryz.prog 4 Rep.bool := ⟨fun _ => by kernel_rfl, fun _ => by kernel_rfl, fun _ => by kernel_rfl⟩
theorem pl78 : jZu Tryz.prog 78 (fun i => [(0, 4), (4, 4), (8, 4), (12, 4), (16, 4), (20, 4), (24, 4), (28, 4), (32, 4)][i]?) := jZu.of (by kernel_rfl)
theorem jUp : jQu Tryz.prog 30 1 1 := jQu.of (by kernel_rfl)
theorem jSq : jYt Tryz.prog 28 (Rep.slice jJu) := ⟨fun _ => by kernel_rfl, fun _ => by kernel_rfl, fun _ => by kernel_rfl⟩
theorem jGn : Tryz.prog.underlying 184 = some (.int .u32) := by kernel_rfl
theorem un2 : Tryz.prog.underlying 2 = some (.int .i64) := by kernel_rfl
theorem jKa : jQu Tryz.prog 30 0 0 := jQu.of (by kernel_rfl)
theorem un4 : Tryz.prog.underlying 4 = some (.bool) := by kernel_rfl
theorem qHz : jQu Tryz.prog 34 0 0 := jQu.of (by kernel_rfl)
theorem qGs : jQu Tryz.prog 34 1 4 := jQu.of (by kernel_rfl)
theorem jH6 : jQu Tryz.prog 32 0 0 := jQu.of (by kernel_rfl)
theorem jL7 : jQu Tryz.prog 32 1 2 := jQu.of (by kernel_rfl)
theorem qJx : jYt Tryz.prog 108 jJl.rep := ⟨fun _ => by kernel_rfl, fun _ => by kernel_rfl, fun _ => by kernel_rfl⟩
theorem pl108 : jZu Tryz.prog 108 (fun i => [(0, 4), (4, 4)][i]?) := jZu.of (by kernel_rfl)
theorem jNv : Tryz.prog.underlying 48 = some (.slice 32) := by kernel_rfl
theorem jAt : jQu Tryz.prog 108 0 0 := jQu.of (by kernel_rfl)
theorem qXy : jQu Tryz.prog 108 1 4 := jQu.of (by kernel_rfl)
theorem jSt : jQu Tryz.prog 78 0 0 := jQu.of (by kernel_rfl)
theorem qX9 : jQu Tryz.prog 78 2 8 := jQu.of (by kernel_rfl)
theorem qJ0 : jQu Tryz.prog 78 3 12 := jQu.of (by kernel_rfl)
theorem qJ3 : jQu Tryz.prog 78 4 16 := jQu.of (by kernel_rfl)
theorem jSp : jQu Tryz.prog 78 5 20 := jQu.of (by kernel_rfl)
theorem qKl : jQu Tryz.prog 78 6 24 := jQu.of (by kernel_rfl)
theorem qQy : jQu Tryz.prog 78 7 28 := jQu.of (by kernel_rfl)
theorem qWp : jQu Tryz.prog 78 1 4 := jQu.of (by kernel_rfl)
theorem qX6 : jQu Tryz.prog 78 8 32 := jQu.of (by kernel_rfl)
theorem qHh : jNw Tryz.prog 108 0 = some (32, 0) := by kernel_rfl
theorem el3 : jS8 Tryz.prog 3 r_i64 := by unfold jS8; kernel_rfl
theorem ty99 : jYt Tryz.prog 99 jK1.rep := ⟨fun _ => by kernel_rfl, fun _ => by kernel_rfl, fun _ => by kernel_rfl⟩
theorem pl99 : jZu Tryz.prog 99 (fun i => [(0, 1), (1, 4)][i]?) := jZu.of (by kernel_rfl)
theorem qQp : jYt Tryz.prog 95 jXs.rep := ⟨fun _ => by kernel_rfl, fun _ => by kernel_rfl, fun _ => by kernel_rfl⟩
theorem qGg : jQu Tryz.prog 99 0 0 := jQu.of (by kernel_rfl)
theorem pl95 : jZu Tryz.prog 95 (fun i => [(0, 4), (4, 4), (8, 4), (12, 4)][i]?) := jZu.of (by kernel_rfl)
theorem qH1 : jYt Tryz.prog 61 jQf.rep := ⟨fun _ => by kernel_rfl, fun _ => by kernel_rfl, fun _ => by kernel_rfl⟩
theorem qWt : Tryz.prog.underlying 172 = some (.slice 25) := by kernel_rfl
theorem el24 : jS8 Tryz.prog 24 jQ5.rep := by unfold jS8; kernel_rfl
theorem jTk : jQu Tryz.prog 61 0 0 := jQu.of (by kernel_rfl)
theorem qYu : jQu Tryz.prog 61 3 9 := jQu.of (by kernel_rfl)
theorem fo61_1 : jQu Tryz.prog 61 1 1 := jQu.of (by kernel_rfl)
theorem qWq : jQu Tryz.prog 61 2 5 := jQu.of (by kernel_rfl)
theorem qGe : jQu Tryz.prog 99 1 1 := jQu.of (by kernel_rfl)
theorem fo95_2 : jQu Tryz.prog 95 2 8 := jQu.of (by kernel_rfl)
theorem fo95_3 : jQu Tryz.prog 95 3 12 := jQu.of (by kernel_rfl)
abbrev jF6 : Rep (GShip × Value) := Rep.hole GShip.l4 rfl
theorem qQ1 : Lens jF6 (Rep.slice jJy.rep) 2 (fun x => x.1.Stations) (fun x y => ({ x.1 with Stations := y }, x.2)) := Lens.holeO GShip.l2 rfl (fun _ => rfl) (fun _ _ => rfl)
theorem h27_4_R : Lens jF6 Rep.raw 8 (fun x => x.2) (fun x v => (x.1, v)) := Lens.holeR
theorem el88 : jS8 Tryz.prog 88 jJy.rep := by unfold jS8; kernel_rfl
theorem qVv : jYt Tryz.prog 71 jQt.rep := ⟨fun _ => by kernel_rfl, fun _ => by kernel_rfl, fun _ => by kernel_rfl⟩
theorem pl71 : jZu Tryz.prog 71 (fun i => [(0, 1), (1, 1)][i]?) := jZu.of (by kernel_rfl)
theorem jFt : jQu Tryz.prog 71 1 1 := jQu.of (by kernel_rfl)
theorem qZr : jYt Tryz.prog 48 (Rep.slice jQv.rep) := ⟨fun _ => by kernel_rfl, fun _ => by kernel_rfl, fun _ => by kernel_rfl⟩
theorem el32 : jS8 Tryz.prog 32 jQv.rep := by unfold jS8; kernel_rfl
theorem qV8 : jYt Tryz.prog 73 jQ3.rep := ⟨fun _ => by kernel_rfl, fun _ => by kernel_rfl, fun _ => by kernel_rfl⟩
theorem pl73 : jZu Tryz.prog 73 (fun i => [(0, 1), (1, 4), (5, 2)][i]?) := jZu.of (by kernel_rfl)
theorem qQl : Tryz.prog.underlying 64 = some (.slice 73) := by kernel_rfl
theorem el73 : jS8 Tryz.prog 73 jQ3.rep := by unfold jS8; kernel_rfl
theorem jWd : Tryz.prog.underlying 148 = some (.slice 3) := by kernel_rfl
theorem qWb : jQu Tryz.prog 73 0 0 := jQu.of (by kernel_rfl)
theorem qGt : jQu Tryz.prog 73 1 1 := jQu.of (by kernel_rfl)
theorem qY5 : jQu Tryz.prog 73 2 5 := jQu.of (by kernel_rfl)
theorem jSe : jQu Tryz.prog 71 0 0 := jQu.of (by kernel_rfl)
theorem fv32_0 : jNw Tryz.prog 32 0 = some (30, 0) := by kernel_rfl
end Go.KB
