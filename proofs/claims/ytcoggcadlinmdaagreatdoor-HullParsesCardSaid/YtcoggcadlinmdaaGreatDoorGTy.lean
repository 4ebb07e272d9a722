/- What the translation says of its types. Printed by a program. No condition. -/
import Derived.Test.YtcoggcadlinmdaaGreatDoorGTypes
import Derived.Test.YtcoggcadlinmdaaGreatDoorProg
namespace Go.KB
open Go.Proofs
theorem jU6 : jYk Tryz.prog 28 jJp.rep := ⟨fun _ => by kernel_rfl, fun _ => by kernel_rfl, fun _ => by kernel_rfl⟩
theorem ty3 : jYk Tryz.prog 3 jJf := ⟨fun _ => by kernel_rfl, fun _ => by kernel_rfl, fun _ => by kernel_rfl⟩
theorem jY1 : Tryz.prog.underlying 72 = some (.slice 3) := by kernel_rfl
theorem jUz : jYk Tryz.prog 76 jJv.rep := ⟨fun _ => by kernel_rfl, fun _ => by kernel_rfl, fun _ => by kernel_rfl⟩
theorem pl76 : jZb Tryz.prog 76 (fun i => [(0, 1), (1, 1), (2, 1), (3, 1)][i]?) := jZb.of (by kernel_rfl)
theorem jP1 : Tryz.prog.underlying 23 = some (.slice 76) := by kernel_rfl
theorem jHz : jYk Tryz.prog 25 jJ0.rep := ⟨fun _ => by kernel_rfl, fun _ => by kernel_rfl, fun _ => by kernel_rfl⟩
theorem pl25 : jZb Tryz.prog 25 (fun i => [(0, 1), (1, 1), (2, 1), (3, 1), (4, 1)][i]?) := jZb.of (by kernel_rfl)
theorem qGt : jZb Tryz.prog 28 (fun i => [(0, 1), (1, 1), (2, 1), (3, 5), (8, 1)][i]?) := jZb.of (by kernel_rfl)
theorem jQs : jYk Tryz.prog 42 jQe.rep := ⟨fun _ => by kernel_rfl, fun _ => by kernel_rfl, fun _ => by kernel_rfl⟩
theorem jKp : jYk Tryz.prog 40 jXv.rep := ⟨fun _ => by kernel_rfl, fun _ => by kernel_rfl, fun _ => by kernel_rfl⟩
theorem un3 : Tryz.prog.underlying 3 = some (.int .i64) := by kernel_rfl
theorem jD8 : Tryz.prog.underlying 114 = some (.int .u64) := by kernel_rfl
theorem jV9 : Tryz.prog.underlying 126 = some (.int .u16) := by kernel_rfl
theorem jQ9 : jYk Tryz.prog 126 jJy := ⟨fun _ => by kernel_rfl, fun _ => by kernel_rfl, fun _ => by kernel_rfl⟩
theorem jVb : Tryz.prog.underlying 38 = some (.slice 126) := by kernel_rfl
theorem jNv : jS8 Tryz.prog 126 jJy := by unfold jS8; kernel_rfl
theorem qU4 : jZb Tryz.prog 40 (fun i => [(0, 1), (1, 1)][i]?) := jZb.of (by kernel_rfl)
theorem qUc : jZb Tryz.prog 42 (fun i => [(0, 2), (2, 2)][i]?) := jZb.of (by kernel_rfl)
theorem qGf : jYk Tryz.prog 49 jZk.rep := ⟨fun _ => by kernel_rfl, fun _ => by kernel_rfl, fun _ => by kernel_rfl⟩
theorem pl49 : jZb Tryz.prog 49 (fun i => [(0, 4), (4, 4)][i]?) := jZb.of (by kernel_rfl)
theorem jPh : jYk Tryz.prog 44 jJk.rep := ⟨fun _ => by kernel_rfl, fun _ => by kernel_rfl, fun _ => by kernel_rfl⟩
theorem jTs : jQy Tryz.prog 28 0 0 := jQy.of (by kernel_rfl)
theorem ty9 : jYk Tryz.prog 9 Rep.str := ⟨fun _ => by kernel_rfl, fun _ => by kernel_rfl, fun _ => by kernel_rfl⟩
theorem un9 : Tryz.prog.underlying 9 = some (.string) := by kernel_rfl
theorem qYw : Tryz.prog.underlying 136 = some (.slice 5) := by kernel_rfl
theorem un5 : Tryz.prog.underlying 5 = some (.int .u8) := by kernel_rfl
theorem ty5 : jYk Tryz.prog 5 jH0 := ⟨fun _ => by kernel_rfl, fun _ => by kernel_rfl, fun _ => by kernel_rfl⟩
theorem jTn : jQy Tryz.prog 28 1 1 := jQy.of (by kernel_rfl)
theorem jKa : jQy Tryz.prog 28 2 2 := jQy.of (by kernel_rfl)
theorem jS0 : jYk Tryz.prog 23 (Rep.slice jJv.rep) := ⟨fun _ => by kernel_rfl, fun _ => by kernel_rfl, fun _ => by kernel_rfl⟩
theorem jF0 : jQy Tryz.prog 76 0 0 := jQy.of (by kernel_rfl)
theorem jMg : jQy Tryz.prog 76 1 1 := jQy.of (by kernel_rfl)
theorem un106 : Tryz.prog.underlying 106 = some (.pointer (Tryz.prog.pointee 106)) := by kernel_rfl
theorem jKy : jQy Tryz.prog 76 2 2 := jQy.of (by kernel_rfl)
theorem jBt : jYk Tryz.prog 72 (Rep.slice jJf) := ⟨fun _ => by kernel_rfl, fun _ => by kernel_rfl, fun _ => by kernel_rfl⟩
theorem jD6 : jQy Tryz.prog 76 3 3 := jQy.of (by kernel_rfl)
theorem jMf : jQy Tryz.prog 28 3 3 := jQy.of (by kernel_rfl)
theorem jPn : jQy Tryz.prog 25 0 0 := jQy.of (by kernel_rfl)
theorem jAe : jQy Tryz.prog 25 1 1 := jQy.of (by kernel_rfl)
theorem qV6 : jQy Tryz.prog 25 2 2 := jQy.of (by kernel_rfl)
theorem qWv : jQy Tryz.prog 25 3 3 := jQy.of (by kernel_rfl)
theorem qVf : jQy Tryz.prog 25 4 4 := jQy.of (by kernel_rfl)
theorem jH1 : jQy Tryz.prog 28 4 8 := jQy.of (by kernel_rfl)
theorem jS7 : jYk Tryz.prog 26 (Rep.slice jJ0.rep) := ⟨fun _ => by kernel_rfl, fun _ => by kernel_rfl, fun _ => by kernel_rfl⟩
theorem jMx : Tryz.prog.underlying 26 = some (.slice 25) := by kernel_rfl
theorem ko9 : jRz Tryz.prog 9 Rep.str jCt := jRz.str un9
theorem qU8 : Tryz.prog.underlying 138 = some (.map 9 4) := by kernel_rfl
theorem ty4 : jYk Tryz.prog 4 Rep.bool := ⟨fun _ => by kernel_rfl, fun _ => by kernel_rfl, fun _ => by kernel_rfl⟩
theorem pl44 : jZb Tryz.prog 44 (fun i => [(0, 4), (4, 4), (8, 4), (12, 4), (16, 4), (20, 4), (24, 4), (28, 4), (32, 4)][i]?) := jZb.of (by kernel_rfl)
theorem jBk : jQy Tryz.prog 40 1 1 := jQy.of (by kernel_rfl)
theorem qJs : jYk Tryz.prog 38 (Rep.slice jJy) := ⟨fun _ => by kernel_rfl, fun _ => by kernel_rfl, fun _ => by kernel_rfl⟩
theorem jKf : Tryz.prog.underlying 164 = some (.int .u32) := by kernel_rfl
theorem un2 : Tryz.prog.underlying 2 = some (.int .i64) := by kernel_rfl
theorem jBp : jQy Tryz.prog 40 0 0 := jQy.of (by kernel_rfl)
theorem un4 : Tryz.prog.underlying 4 = some (.bool) := by kernel_rfl
theorem fo49_0 : jQy Tryz.prog 49 0 0 := jQy.of (by kernel_rfl)
theorem fo49_1 : jQy Tryz.prog 49 1 4 := jQy.of (by kernel_rfl)
theorem jFt : jQy Tryz.prog 42 0 0 := jQy.of (by kernel_rfl)
theorem qXp : jQy Tryz.prog 42 1 2 := jQy.of (by kernel_rfl)
theorem qK4 : jYk Tryz.prog 89 jJs.rep := ⟨fun _ => by kernel_rfl, fun _ => by kernel_rfl, fun _ => by kernel_rfl⟩
theorem pl89 : jZb Tryz.prog 89 (fun i => [(0, 4), (4, 4)][i]?) := jZb.of (by kernel_rfl)
theorem jLs : Tryz.prog.underlying 120 = some (.slice 42) := by kernel_rfl
theorem qQr : jQy Tryz.prog 89 0 0 := jQy.of (by kernel_rfl)
theorem qVq : jQy Tryz.prog 89 1 4 := jQy.of (by kernel_rfl)
theorem jSs : jQy Tryz.prog 44 0 0 := jQy.of (by kernel_rfl)
theorem qQ1 : jQy Tryz.prog 44 2 8 := jQy.of (by kernel_rfl)
theorem jAt : jQy Tryz.prog 44 3 12 := jQy.of (by kernel_rfl)
theorem jC6 : jQy Tryz.prog 44 4 16 := jQy.of (by kernel_rfl)
theorem jSm : jQy Tryz.prog 44 5 20 := jQy.of (by kernel_rfl)
theorem qW9 : jQy Tryz.prog 44 6 24 := jQy.of (by kernel_rfl)
theorem jAz : jQy Tryz.prog 44 7 28 := jQy.of (by kernel_rfl)
theorem qUd : jQy Tryz.prog 44 1 4 := jQy.of (by kernel_rfl)
theorem qQs : jQy Tryz.prog 44 8 32 := jQy.of (by kernel_rfl)
theorem fv89_0 : jG1 Tryz.prog 89 0 = some (42, 0) := by kernel_rfl
theorem el3 : jS8 Tryz.prog 3 jJf := by unfold jS8; kernel_rfl
theorem ty59 : jYk Tryz.prog 59 jYw.rep := ⟨fun _ => by kernel_rfl, fun _ => by kernel_rfl, fun _ => by kernel_rfl⟩
theorem pl59 : jZb Tryz.prog 59 (fun i => [(0, 1), (1, 4)][i]?) := jZb.of (by kernel_rfl)
theorem qQg : jYk Tryz.prog 55 jXr.rep := ⟨fun _ => by kernel_rfl, fun _ => by kernel_rfl, fun _ => by kernel_rfl⟩
theorem qUz : jQy Tryz.prog 59 0 0 := jQy.of (by kernel_rfl)
theorem pl55 : jZb Tryz.prog 55 (fun i => [(0, 4), (4, 4), (8, 4), (12, 4)][i]?) := jZb.of (by kernel_rfl)
theorem qG9 : jYk Tryz.prog 95 jQd.rep := ⟨fun _ => by kernel_rfl, fun _ => by kernel_rfl, fun _ => by kernel_rfl⟩
theorem qYy : Tryz.prog.underlying 175 = some (.slice 26) := by kernel_rfl
theorem el25 : jS8 Tryz.prog 25 jJ0.rep := by unfold jS8; kernel_rfl
theorem jSy : jQy Tryz.prog 95 0 0 := jQy.of (by kernel_rfl)
theorem qVc : jQy Tryz.prog 95 3 9 := jQy.of (by kernel_rfl)
theorem fo95_1 : jQy Tryz.prog 95 1 1 := jQy.of (by kernel_rfl)
theorem qVu : jQy Tryz.prog 95 2 5 := jQy.of (by kernel_rfl)
theorem qUl : jQy Tryz.prog 59 1 1 := jQy.of (by kernel_rfl)
theorem fo55_2 : jQy Tryz.prog 55 2 8 := jQy.of (by kernel_rfl)
theorem fo55_3 : jQy Tryz.prog 55 3 12 := jQy.of (by kernel_rfl)
theorem qKc : jYk Tryz.prog 29 jJf := ⟨fun _ => by kernel_rfl, fun _ => by kernel_rfl, fun _ => by kernel_rfl⟩
theorem un21 : Tryz.prog.underlying 21 = some (.int .i32) := by kernel_rfl
theorem jFh : jYk Tryz.prog 129 jJn.rep := ⟨fun _ => by kernel_rfl, fun _ => by kernel_rfl, fun _ => by kernel_rfl⟩
theorem jDd : Tryz.prog.underlying 66 = some (.slice 9) := by kernel_rfl
theorem qUe : jZb Tryz.prog 129 (fun i => [(0, 1), (1, 1), (2, 1)][i]?) := jZb.of (by kernel_rfl)
theorem qJb : jQy Tryz.prog 129 1 1 := jQy.of (by kernel_rfl)
theorem ue179 : Tryz.prog.underlying 179 = some (.interface (Tryz.prog.methodsAt 179)) := by kernel_rfl
theorem jBr : jQy Tryz.prog 129 2 2 := jQy.of (by kernel_rfl)
theorem qJm : jQy Tryz.prog 129 0 0 := jQy.of (by kernel_rfl)
theorem el76 : jS8 Tryz.prog 76 jJv.rep := by unfold jS8; kernel_rfl
theorem ty63 : jYk Tryz.prog 63 jVq.rep := ⟨fun _ => by kernel_rfl, fun _ => by kernel_rfl, fun _ => by kernel_rfl⟩
theorem pl63 : jZb Tryz.prog 63 (fun i => [(0, 1)][i]?) := jZb.of (by kernel_rfl)
theorem fv25_4 : jG1 Tryz.prog 25 4 = some (3, 4) := by kernel_rfl
theorem fv25_3 : jG1 Tryz.prog 25 3 = some (3, 3) := by kernel_rfl
theorem fv25_2 : jG1 Tryz.prog 25 2 = some (3, 2) := by kernel_rfl
theorem fv25_1 : jG1 Tryz.prog 25 1 = some (3, 1) := by kernel_rfl
theorem fv25_0 : jG1 Tryz.prog 25 0 = some (9, 0) := by kernel_rfl
theorem eq25 : jAy Tryz.prog 9999 25 jJ0.rep jJ0.eqb := jAy.struct rfl (by kernel_rfl) (by kernel_rfl) (jFa.cons jJ0.l0 fv25_0 (by kernel_rfl) ty9 (jAy.str un9) (jFa.cons jJ0.l1 fv25_1 (by kernel_rfl) ty3 (jAy.int un3) (jFa.cons jJ0.l2 fv25_2 (by kernel_rfl) ty3 (jAy.int un3) (jFa.cons jJ0.l3 fv25_3 (by kernel_rfl) ty3 (jAy.int un3) (jFa.cons jJ0.l4 fv25_4 (by kernel_rfl) ty3 (jAy.int un3) (jFa.nil (by kernel_rfl)))))))
theorem el9 : jS8 Tryz.prog 9 Rep.str := by unfold jS8; kernel_rfl
end Go.KB
