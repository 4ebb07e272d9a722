/- What the translation says of its types. Printed by a program. No condition. -/
import Derived.Test.YtoiefhkiipolmaaGreatGTypes
import Derived.Test.YtoiefhkiipolmaaGreatProg
namespace Go.KB
open Go.Proofs
theorem jN7 : jYd Tryz.prog 27 GShip.rep := ⟨fun _ => by kernel_rfl, fun _ => by kernel_rfl, fun _ => by kernel_rfl⟩
theorem ty3 : jYd Tryz.prog 3 r_i64 := ⟨fun _ => by kernel_rfl, fun _ => by kernel_rfl, fun _ => by kernel_rfl⟩
theorem jG4 : Tryz.prog.underlying 69 = some (.slice 3) := by kernel_rfl
theorem jBw : jYd Tryz.prog 88 jJu.rep := ⟨fun _ => by kernel_rfl, fun _ => by kernel_rfl, fun _ => by kernel_rfl⟩
theorem pl88 : jZj Tryz.prog 88 (fun i => [(0, 1), (1, 1), (2, 1), (3, 1)][i]?) := jZj.of (by kernel_rfl)
theorem jNs : Tryz.prog.underlying 22 = some (.slice 88) := by kernel_rfl
theorem jL3 : jYd Tryz.prog 24 jQ2.rep := ⟨fun _ => by kernel_rfl, fun _ => by kernel_rfl, fun _ => by kernel_rfl⟩
theorem pl24 : jZj Tryz.prog 24 (fun i => [(0, 1), (1, 1), (2, 1), (3, 1), (4, 1)][i]?) := jZj.of (by kernel_rfl)
theorem pl27 : jZj Tryz.prog 27 (fun i => [(0, 1), (1, 1), (2, 1), (3, 5), (8, 1)][i]?) := jZj.of (by kernel_rfl)
theorem jQk : jYd Tryz.prog 32 jQv.rep := ⟨fun _ => by kernel_rfl, fun _ => by kernel_rfl, fun _ => by kernel_rfl⟩
theorem jWt : jYd Tryz.prog 30 jQn.rep := ⟨fun _ => by kernel_rfl, fun _ => by kernel_rfl, fun _ => by kernel_rfl⟩
theorem un3 : Tryz.prog.underlying 3 = some (.int .i64) := by kernel_rfl
theorem jLr : Tryz.prog.underlying 156 = some (.int .u64) := by kernel_rfl
theorem jWx : Tryz.prog.underlying 157 = some (.int .u16) := by kernel_rfl
theorem jXk : jYd Tryz.prog 157 jJb := ⟨fun _ => by kernel_rfl, fun _ => by kernel_rfl, fun _ => by kernel_rfl⟩
theorem jVy : Tryz.prog.underlying 28 = some (.slice 157) := by kernel_rfl
theorem jPn : jTk Tryz.prog 157 jJb := by unfold jTk; kernel_rfl
theorem qBq : jZj Tryz.prog 30 (fun i => [(0, 1), (1, 1)][i]?) := jZj.of (by kernel_rfl)
theorem qY0 : jZj Tryz.prog 32 (fun i => [(0, 2), (2, 2)][i]?) := jZj.of (by kernel_rfl)
theorem qJc : jYd Tryz.prog 34 GAttitude.rep := ⟨fun _ => by kernel_rfl, fun _ => by kernel_rfl, fun _ => by kernel_rfl⟩
theorem pl34 : jZj Tryz.prog 34 (fun i => [(0, 4), (4, 4)][i]?) := jZj.of (by kernel_rfl)
theorem jSc : jYd Tryz.prog 78 jJv.rep := ⟨fun _ => by kernel_rfl, fun _ => by kernel_rfl, fun _ => by kernel_rfl⟩
theorem qY7 : jQd Tryz.prog 27 0 0 := jQd.of (by kernel_rfl)
theorem ty9 : jYd Tryz.prog 9 Rep.str := ⟨fun _ => by kernel_rfl, fun _ => by kernel_rfl, fun _ => by kernel_rfl⟩
theorem un9 : Tryz.prog.underlying 9 = some (.string) := by kernel_rfl
theorem qDc : Tryz.prog.underlying 164 = some (.slice 5) := by kernel_rfl
theorem un5 : Tryz.prog.underlying 5 = some (.int .u8) := by kernel_rfl
theorem ty5 : jYd Tryz.prog 5 jM3 := ⟨fun _ => by kernel_rfl, fun _ => by kernel_rfl, fun _ => by kernel_rfl⟩
theorem jAl : jQd Tryz.prog 27 1 1 := jQd.of (by kernel_rfl)
theorem jY4 : jQd Tryz.prog 27 2 2 := jQd.of (by kernel_rfl)
theorem jRt : jYd Tryz.prog 22 (Rep.slice jJu.rep) := ⟨fun _ => by kernel_rfl, fun _ => by kernel_rfl, fun _ => by kernel_rfl⟩
theorem jDb : jQd Tryz.prog 88 0 0 := jQd.of (by kernel_rfl)
theorem jMc : jQd Tryz.prog 88 1 1 := jQd.of (by kernel_rfl)
theorem un137 : Tryz.prog.underlying 137 = some (.pointer (Tryz.prog.pointee 137)) := by kernel_rfl
theorem jGt : jQd Tryz.prog 88 2 2 := jQd.of (by kernel_rfl)
theorem jN9 : jYd Tryz.prog 69 (Rep.slice r_i64) := ⟨fun _ => by kernel_rfl, fun _ => by kernel_rfl, fun _ => by kernel_rfl⟩
theorem jNq : jQd Tryz.prog 88 3 3 := jQd.of (by kernel_rfl)
theorem jSh : jQd Tryz.prog 27 3 3 := jQd.of (by kernel_rfl)
theorem jPw : jQd Tryz.prog 24 0 0 := jQd.of (by kernel_rfl)
theorem jPv : jQd Tryz.prog 24 1 1 := jQd.of (by kernel_rfl)
theorem jC4 : jQd Tryz.prog 24 2 2 := jQd.of (by kernel_rfl)
theorem qWx : jQd Tryz.prog 24 3 3 := jQd.of (by kernel_rfl)
theorem qV1 : jQd Tryz.prog 24 4 4 := jQd.of (by kernel_rfl)
theorem jFl : jQd Tryz.prog 27 4 8 := jQd.of (by kernel_rfl)
theorem jA9 : jYd Tryz.prog 25 (Rep.slice jQ2.rep) := ⟨fun _ => by kernel_rfl, fun _ => by kernel_rfl, fun _ => by kernel_rfl⟩
theorem jFk : Tryz.prog.underlying 25 = some (.slice 24) := by kernel_rfl
theorem ko9 : jPl Tryz.prog 9 Rep.str qQw := jPl.str un9
theorem qB4 : Tryz.prog.underlying 165 = some (.map 9 4) := by kernel_rfl
theorem ty4 : jYd Tryz.prog 4 Rep.bool := ⟨fun _ => by kernel_rfl, fun _ => by kernel_rfl, fun _ => by kernel_rfl⟩
theorem pl78 : jZj Tryz.prog 78 (fun i => [(0, 4), (4, 4), (8, 4), (12, 4), (16, 4), (20, 4), (24, 4), (28, 4), (32, 4)][i]?) := jZj.of (by kernel_rfl)
theorem jUm : jQd Tryz.prog 30 1 1 := jQd.of (by kernel_rfl)
theorem jTx : jYd Tryz.prog 28 (Rep.slice jJb) := ⟨fun _ => by kernel_rfl, fun _ => by kernel_rfl, fun _ => by kernel_rfl⟩
theorem jGc : Tryz.prog.underlying 184 = some (.int .u32) := by kernel_rfl
theorem un2 : Tryz.prog.underlying 2 = some (.int .i64) := by kernel_rfl
theorem jK5 : jQd Tryz.prog 30 0 0 := jQd.of (by kernel_rfl)
theorem un4 : Tryz.prog.underlying 4 = some (.bool) := by kernel_rfl
theorem qXj : jQd Tryz.prog 34 0 0 := jQd.of (by kernel_rfl)
theorem qQt : jQd Tryz.prog 34 1 4 := jQd.of (by kernel_rfl)
theorem jG3 : jQd Tryz.prog 32 0 0 := jQd.of (by kernel_rfl)
theorem jFh : jQd Tryz.prog 32 1 2 := jQd.of (by kernel_rfl)
theorem qJb : jYd Tryz.prog 108 jJp.rep := ⟨fun _ => by kernel_rfl, fun _ => by kernel_rfl, fun _ => by kernel_rfl⟩
theorem pl108 : jZj Tryz.prog 108 (fun i => [(0, 4), (4, 4)][i]?) := jZj.of (by kernel_rfl)
theorem jSa : Tryz.prog.underlying 48 = some (.slice 32) := by kernel_rfl
theorem qJm : jQd Tryz.prog 108 0 0 := jQd.of (by kernel_rfl)
theorem qZs : jQd Tryz.prog 108 1 4 := jQd.of (by kernel_rfl)
theorem jCm : jQd Tryz.prog 78 0 0 := jQd.of (by kernel_rfl)
theorem qVq : jQd Tryz.prog 78 2 8 := jQd.of (by kernel_rfl)
theorem qXc : jQd Tryz.prog 78 3 12 := jQd.of (by kernel_rfl)
theorem qXz : jQd Tryz.prog 78 4 16 := jQd.of (by kernel_rfl)
theorem jCq : jQd Tryz.prog 78 5 20 := jQd.of (by kernel_rfl)
theorem qUu : jQd Tryz.prog 78 6 24 := jQd.of (by kernel_rfl)
theorem qQh : jQd Tryz.prog 78 7 28 := jQd.of (by kernel_rfl)
theorem qBh : jQd Tryz.prog 78 1 4 := jQd.of (by kernel_rfl)
theorem qV0 : jQd Tryz.prog 78 8 32 := jQd.of (by kernel_rfl)
theorem qUb : jMu Tryz.prog 108 0 = some (32, 0) := by kernel_rfl
theorem el3 : jTk Tryz.prog 3 r_i64 := by unfold jTk; kernel_rfl
theorem ty99 : jYd Tryz.prog 99 jUz.rep := ⟨fun _ => by kernel_rfl, fun _ => by kernel_rfl, fun _ => by kernel_rfl⟩
theorem pl99 : jZj Tryz.prog 99 (fun i => [(0, 1), (1, 4)][i]?) := jZj.of (by kernel_rfl)
theorem qZm : jYd Tryz.prog 95 jXc.rep := ⟨fun _ => by kernel_rfl, fun _ => by kernel_rfl, fun _ => by kernel_rfl⟩
theorem qBv : jQd Tryz.prog 99 0 0 := jQd.of (by kernel_rfl)
theorem pl95 : jZj Tryz.prog 95 (fun i => [(0, 4), (4, 4), (8, 4), (12, 4)][i]?) := jZj.of (by kernel_rfl)
theorem qV4 : jYd Tryz.prog 61 jJt.rep := ⟨fun _ => by kernel_rfl, fun _ => by kernel_rfl, fun _ => by kernel_rfl⟩
theorem qYt : Tryz.prog.underlying 172 = some (.slice 25) := by kernel_rfl
theorem el24 : jTk Tryz.prog 24 jQ2.rep := by unfold jTk; kernel_rfl
theorem jNw : jQd Tryz.prog 61 0 0 := jQd.of (by kernel_rfl)
theorem qQl : jQd Tryz.prog 61 3 9 := jQd.of (by kernel_rfl)
theorem qH8 : jQd Tryz.prog 61 1 1 := jQd.of (by kernel_rfl)
theorem qVc : jQd Tryz.prog 61 2 5 := jQd.of (by kernel_rfl)
theorem qH6 : jQd Tryz.prog 99 1 1 := jQd.of (by kernel_rfl)
theorem fo95_2 : jQd Tryz.prog 95 2 8 := jQd.of (by kernel_rfl)
theorem fo95_3 : jQd Tryz.prog 95 3 12 := jQd.of (by kernel_rfl)
abbrev jLy : Rep (GShip × Value) := Rep.hole GShip.l4 rfl
theorem qZl : Lens jLy (Rep.slice jJu.rep) 2 (fun x => x.1.Stations) (fun x y => ({ x.1 with Stations := y }, x.2)) := Lens.holeO GShip.l2 rfl (fun _ => rfl) (fun _ _ => rfl)
theorem h27_4_R : Lens jLy Rep.raw 8 (fun x => x.2) (fun x v => (x.1, v)) := Lens.holeR
theorem el88 : jTk Tryz.prog 88 jJu.rep := by unfold jTk; kernel_rfl
theorem qGp : jYd Tryz.prog 38 (Rep.arr jQv.rep 3) := ⟨fun _ => by kernel_rfl, fun _ => by kernel_rfl, fun _ => by kernel_rfl⟩
theorem pl38 : jZj Tryz.prog 38 (fun i => some (i * 4, 4)) := jZj.mkArr (E := 32) (n := 3) (by kernel_rfl) (fun _ => by kernel_rfl)
theorem jAp : jYd Tryz.prog 105 Rep.rawM := ⟨fun _ => by kernel_rfl, fun _ => by kernel_rfl, fun _ => by kernel_rfl⟩
theorem ko3 : jPl Tryz.prog 3 r_i64 (jBr .i64) := jPl.int un3
theorem qHw : Tryz.prog.underlying 105 = some (.map 3 32) := by kernel_rfl
theorem jS4 : jYd Tryz.prog 56 jXy.rep := ⟨fun _ => by kernel_rfl, fun _ => by kernel_rfl, fun _ => by kernel_rfl⟩
theorem pl56 : jZj Tryz.prog 56 (fun i => [(0, 1), (1, 4), (5, 4)][i]?) := jZj.of (by kernel_rfl)
theorem qQg : Tryz.prog.underlying 43 = some (.slice 56) := by kernel_rfl
theorem el56 : jTk Tryz.prog 56 jXy.rep := by unfold jTk; kernel_rfl
theorem un38 : Tryz.prog.underlying 38 = some (.array 3 32) := by kernel_rfl
theorem el32 : jTk Tryz.prog 32 jQv.rep := by unfold jTk; kernel_rfl
theorem jWh : Tryz.prog.underlying 148 = some (.slice 3) := by kernel_rfl
theorem fv32_0 : jMu Tryz.prog 32 0 = some (30, 0) := by kernel_rfl
theorem qQm : jQd Tryz.prog 56 0 0 := jQd.of (by kernel_rfl)
theorem qVe : jQd Tryz.prog 56 1 1 := jQd.of (by kernel_rfl)
theorem qY6 : jQd Tryz.prog 56 2 5 := jQd.of (by kernel_rfl)
theorem pl61 : jZj Tryz.prog 61 (fun i => [(0, 1), (1, 4), (5, 4), (9, 1)][i]?) := jZj.of (by kernel_rfl)
theorem fv61_0 : jMu Tryz.prog 61 0 = some (3, 0) := by kernel_rfl
end Go.KB
