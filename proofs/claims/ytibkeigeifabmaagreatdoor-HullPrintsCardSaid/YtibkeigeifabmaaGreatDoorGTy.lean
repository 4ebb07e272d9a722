/- What the translation says of its types. Printed by a program. No condition. -/
import Derived.Test.YtibkeigeifabmaaGreatDoorGTypes
import Derived.Test.YtibkeigeifabmaaGreatDoorProg
namespace Go.KB
open Go.Proofs
theorem jH0 : jWm Tryz.prog 27 GShip.rep := ⟨fun _ => by kernel_rfl, fun _ => by kernel_rfl, fun _ => by kernel_rfl⟩
theorem ty3 : jWm Tryz.prog 3 jJl := ⟨fun _ => by kernel_rfl, fun _ => by kernel_rfl, fun _ => by kernel_rfl⟩
theorem jW4 : Tryz.prog.underlying 63 = some (.slice 3) := by kernel_rfl
theorem jKv : jWm Tryz.prog 65 jJv.rep := ⟨fun _ => by kernel_rfl, fun _ => by kernel_rfl, fun _ => by kernel_rfl⟩
theorem pl65 : jZw Tryz.prog 65 (fun i => [(0, 1), (1, 1), (2, 1), (3, 1)][i]?) := jZw.of (by kernel_rfl)
theorem jLx : Tryz.prog.underlying 22 = some (.slice 65) := by kernel_rfl
theorem jK9 : jWm Tryz.prog 24 jJc.rep := ⟨fun _ => by kernel_rfl, fun _ => by kernel_rfl, fun _ => by kernel_rfl⟩
theorem pl24 : jZw Tryz.prog 24 (fun i => [(0, 1), (1, 1), (2, 1), (3, 1), (4, 1)][i]?) := jZw.of (by kernel_rfl)
theorem pl27 : jZw Tryz.prog 27 (fun i => [(0, 1), (1, 1), (2, 1), (3, 5), (8, 1)][i]?) := jZw.of (by kernel_rfl)
theorem jQt : jWm Tryz.prog 43 jQ2.rep := ⟨fun _ => by kernel_rfl, fun _ => by kernel_rfl, fun _ => by kernel_rfl⟩
theorem jK5 : jWm Tryz.prog 41 jXu.rep := ⟨fun _ => by kernel_rfl, fun _ => by kernel_rfl, fun _ => by kernel_rfl⟩
theorem un3 : Tryz.prog.underlying 3 = some (.int .i64) := by kernel_rfl
theorem jFu : Tryz.prog.underlying 125 = some (.int .u64) := by kernel_rfl
theorem jV3 : Tryz.prog.underlying 135 = some (.int .u16) := by kernel_rfl
theorem jQ8 : jWm Tryz.prog 135 jJu := ⟨fun _ => by kernel_rfl, fun _ => by kernel_rfl, fun _ => by kernel_rfl⟩
theorem jVw : Tryz.prog.underlying 39 = some (.slice 135) := by kernel_rfl
theorem jNs : jCt Tryz.prog 135 jJu := by unfold jCt; kernel_rfl
theorem qH8 : jZw Tryz.prog 41 (fun i => [(0, 1), (1, 1)][i]?) := jZw.of (by kernel_rfl)
theorem qGr : jZw Tryz.prog 43 (fun i => [(0, 2), (2, 2)][i]?) := jZw.of (by kernel_rfl)
theorem qBv : jWm Tryz.prog 50 jZz.rep := ⟨fun _ => by kernel_rfl, fun _ => by kernel_rfl, fun _ => by kernel_rfl⟩
theorem pl50 : jZw Tryz.prog 50 (fun i => [(0, 4), (4, 4)][i]?) := jZw.of (by kernel_rfl)
theorem jP5 : jWm Tryz.prog 45 jJw.rep := ⟨fun _ => by kernel_rfl, fun _ => by kernel_rfl, fun _ => by kernel_rfl⟩
theorem jP1 : jQy Tryz.prog 27 0 0 := jQy.of (by kernel_rfl)
theorem ty9 : jWm Tryz.prog 9 Rep.str := ⟨fun _ => by kernel_rfl, fun _ => by kernel_rfl, fun _ => by kernel_rfl⟩
theorem un9 : Tryz.prog.underlying 9 = some (.string) := by kernel_rfl
theorem un68 : Tryz.prog.underlying 68 = some (.slice 5) := by kernel_rfl
theorem un5 : Tryz.prog.underlying 5 = some (.int .u8) := by kernel_rfl
theorem ty5 : jWm Tryz.prog 5 jDt := ⟨fun _ => by kernel_rfl, fun _ => by kernel_rfl, fun _ => by kernel_rfl⟩
theorem jR0 : jQy Tryz.prog 27 1 1 := jQy.of (by kernel_rfl)
theorem jWu : jQy Tryz.prog 27 2 2 := jQy.of (by kernel_rfl)
theorem jMp : jWm Tryz.prog 22 (Rep.slice jJv.rep) := ⟨fun _ => by kernel_rfl, fun _ => by kernel_rfl, fun _ => by kernel_rfl⟩
theorem jB5 : jQy Tryz.prog 65 0 0 := jQy.of (by kernel_rfl)
theorem jFx : jQy Tryz.prog 65 1 1 := jQy.of (by kernel_rfl)
theorem un101 : Tryz.prog.underlying 101 = some (.pointer (Tryz.prog.pointee 101)) := by kernel_rfl
theorem jYg : jQy Tryz.prog 65 2 2 := jQy.of (by kernel_rfl)
theorem jGa : jWm Tryz.prog 63 (Rep.slice jJl) := ⟨fun _ => by kernel_rfl, fun _ => by kernel_rfl, fun _ => by kernel_rfl⟩
theorem jHh : jQy Tryz.prog 65 3 3 := jQy.of (by kernel_rfl)
theorem jMv : jQy Tryz.prog 27 3 3 := jQy.of (by kernel_rfl)
theorem jDg : jQy Tryz.prog 24 0 0 := jQy.of (by kernel_rfl)
theorem jN0 : jQy Tryz.prog 24 1 1 := jQy.of (by kernel_rfl)
theorem jR4 : jQy Tryz.prog 24 2 2 := jQy.of (by kernel_rfl)
theorem jSa : jQy Tryz.prog 24 3 3 := jQy.of (by kernel_rfl)
theorem jRc : jQy Tryz.prog 24 4 4 := jQy.of (by kernel_rfl)
theorem jKn : jQy Tryz.prog 27 4 8 := jQy.of (by kernel_rfl)
theorem jPr : jWm Tryz.prog 25 (Rep.slice jJc.rep) := ⟨fun _ => by kernel_rfl, fun _ => by kernel_rfl, fun _ => by kernel_rfl⟩
theorem jHg : Tryz.prog.underlying 25 = some (.slice 24) := by kernel_rfl
theorem ko9 : jP8 Tryz.prog 9 Rep.str jCv := jP8.str un9
theorem qH7 : Tryz.prog.underlying 137 = some (.map 9 4) := by kernel_rfl
theorem ty4 : jWm Tryz.prog 4 Rep.bool := ⟨fun _ => by kernel_rfl, fun _ => by kernel_rfl, fun _ => by kernel_rfl⟩
theorem pl45 : jZw Tryz.prog 45 (fun i => [(0, 4), (4, 4), (8, 4), (12, 4), (16, 4), (20, 4), (24, 4), (28, 4), (32, 4)][i]?) := jZw.of (by kernel_rfl)
theorem jB4 : jQy Tryz.prog 41 1 1 := jQy.of (by kernel_rfl)
theorem qJc : jWm Tryz.prog 39 (Rep.slice jJu) := ⟨fun _ => by kernel_rfl, fun _ => by kernel_rfl, fun _ => by kernel_rfl⟩
theorem jKr : Tryz.prog.underlying 178 = some (.int .u32) := by kernel_rfl
theorem un2 : Tryz.prog.underlying 2 = some (.int .i64) := by kernel_rfl
theorem jB1 : jQy Tryz.prog 41 0 0 := jQy.of (by kernel_rfl)
theorem un4 : Tryz.prog.underlying 4 = some (.bool) := by kernel_rfl
theorem fo50_0 : jQy Tryz.prog 50 0 0 := jQy.of (by kernel_rfl)
theorem fo50_1 : jQy Tryz.prog 50 1 4 := jQy.of (by kernel_rfl)
theorem jLq : jQy Tryz.prog 43 0 0 := jQy.of (by kernel_rfl)
theorem qQ9 : jQy Tryz.prog 43 1 2 := jQy.of (by kernel_rfl)
theorem qUl : jWm Tryz.prog 92 jJs.rep := ⟨fun _ => by kernel_rfl, fun _ => by kernel_rfl, fun _ => by kernel_rfl⟩
theorem pl92 : jZw Tryz.prog 92 (fun i => [(0, 4), (4, 4)][i]?) := jZw.of (by kernel_rfl)
theorem jMx : Tryz.prog.underlying 131 = some (.slice 43) := by kernel_rfl
theorem qXw : jQy Tryz.prog 92 0 0 := jQy.of (by kernel_rfl)
theorem qV7 : jQy Tryz.prog 92 1 4 := jQy.of (by kernel_rfl)
theorem jRe : jQy Tryz.prog 45 0 0 := jQy.of (by kernel_rfl)
theorem qXs : jQy Tryz.prog 45 2 8 := jQy.of (by kernel_rfl)
theorem qJy : jQy Tryz.prog 45 3 12 := jQy.of (by kernel_rfl)
theorem jA8 : jQy Tryz.prog 45 4 16 := jQy.of (by kernel_rfl)
theorem jS0 : jQy Tryz.prog 45 5 20 := jQy.of (by kernel_rfl)
theorem qWx : jQy Tryz.prog 45 6 24 := jQy.of (by kernel_rfl)
theorem jAd : jQy Tryz.prog 45 7 28 := jQy.of (by kernel_rfl)
theorem qGk : jQy Tryz.prog 45 1 4 := jQy.of (by kernel_rfl)
theorem qXr : jQy Tryz.prog 45 8 32 := jQy.of (by kernel_rfl)
theorem fv92_0 : jHb Tryz.prog 92 0 = some (43, 0) := by kernel_rfl
theorem el3 : jCt Tryz.prog 3 jJl := by unfold jCt; kernel_rfl
theorem ty60 : jWm Tryz.prog 60 jYr.rep := ⟨fun _ => by kernel_rfl, fun _ => by kernel_rfl, fun _ => by kernel_rfl⟩
theorem pl60 : jZw Tryz.prog 60 (fun i => [(0, 1), (1, 4)][i]?) := jZw.of (by kernel_rfl)
theorem qJ6 : jWm Tryz.prog 56 jXs.rep := ⟨fun _ => by kernel_rfl, fun _ => by kernel_rfl, fun _ => by kernel_rfl⟩
theorem qGg : jQy Tryz.prog 60 0 0 := jQy.of (by kernel_rfl)
theorem pl56 : jZw Tryz.prog 56 (fun i => [(0, 4), (4, 4), (8, 4), (12, 4)][i]?) := jZw.of (by kernel_rfl)
theorem qHf : jWm Tryz.prog 98 jQd.rep := ⟨fun _ => by kernel_rfl, fun _ => by kernel_rfl, fun _ => by kernel_rfl⟩
theorem qW7 : Tryz.prog.underlying 139 = some (.slice 25) := by kernel_rfl
theorem el24 : jCt Tryz.prog 24 jJc.rep := by unfold jCt; kernel_rfl
theorem jS5 : jQy Tryz.prog 98 0 0 := jQy.of (by kernel_rfl)
theorem qYk : jQy Tryz.prog 98 3 9 := jQy.of (by kernel_rfl)
theorem fo98_1 : jQy Tryz.prog 98 1 1 := jQy.of (by kernel_rfl)
theorem qYz : jQy Tryz.prog 98 2 5 := jQy.of (by kernel_rfl)
theorem qG3 : jQy Tryz.prog 60 1 1 := jQy.of (by kernel_rfl)
theorem fo56_2 : jQy Tryz.prog 56 2 8 := jQy.of (by kernel_rfl)
theorem fo56_3 : jQy Tryz.prog 56 3 12 := jQy.of (by kernel_rfl)
abbrev jDa : Rep (GShip × Value) := Rep.hole GShip.l4 rfl
theorem qQp : Lens jDa (Rep.slice jJv.rep) 2 (fun x => x.1.Stations) (fun x y => ({ x.1 with Stations := y }, x.2)) := Lens.holeO GShip.l2 rfl (fun _ => rfl) (fun _ _ => rfl)
theorem h27_4_R : Lens jDa Rep.raw 8 (fun x => x.2) (fun x v => (x.1, v)) := Lens.holeR
theorem el65 : jCt Tryz.prog 65 jJv.rep := by unfold jCt; kernel_rfl
theorem jCd : Tryz.prog.underlying 72 = some (.slice 9) := by kernel_rfl
theorem qHr : jWm Tryz.prog 30 jJl := ⟨fun _ => by kernel_rfl, fun _ => by kernel_rfl, fun _ => by kernel_rfl⟩
theorem un21 : Tryz.prog.underlying 21 = some (.int .i32) := by kernel_rfl
theorem jF5 : jWm Tryz.prog 143 jJp.rep := ⟨fun _ => by kernel_rfl, fun _ => by kernel_rfl, fun _ => by kernel_rfl⟩
theorem qG5 : jZw Tryz.prog 143 (fun i => [(0, 1), (1, 1), (2, 1)][i]?) := jZw.of (by kernel_rfl)
theorem qQ0 : jQy Tryz.prog 143 1 1 := jQy.of (by kernel_rfl)
theorem ue104 : Tryz.prog.underlying 104 = some (.interface (Tryz.prog.methodsAt 104)) := by kernel_rfl
theorem jB8 : jQy Tryz.prog 143 2 2 := jQy.of (by kernel_rfl)
theorem qQx : jQy Tryz.prog 143 0 0 := jQy.of (by kernel_rfl)
theorem ty81 : jWm Tryz.prog 81 jKh.rep := ⟨fun _ => by kernel_rfl, fun _ => by kernel_rfl, fun _ => by kernel_rfl⟩
theorem pl81 : jZw Tryz.prog 81 (fun i => [(0, 1)][i]?) := jZw.of (by kernel_rfl)
theorem fv24_4 : jHb Tryz.prog 24 4 = some (3, 4) := by kernel_rfl
theorem fv24_3 : jHb Tryz.prog 24 3 = some (3, 3) := by kernel_rfl
theorem fv24_2 : jHb Tryz.prog 24 2 = some (3, 2) := by kernel_rfl
theorem fv24_1 : jHb Tryz.prog 24 1 = some (3, 1) := by kernel_rfl
theorem fv24_0 : jHb Tryz.prog 24 0 = some (9, 0) := by kernel_rfl
theorem eq24 : qJv Tryz.prog 9999 24 jJc.rep jJc.eqb := qJv.struct rfl (by kernel_rfl) (by kernel_rfl) (jLj.cons jJc.l0 fv24_0 (by kernel_rfl) ty9 (qJv.str un9) (jLj.cons jJc.l1 fv24_1 (by kernel_rfl) ty3 (qJv.int un3) (jLj.cons jJc.l2 fv24_2 (by kernel_rfl) ty3 (qJv.int un3) (jLj.cons jJc.l3 fv24_3 (by kernel_rfl) ty3 (qJv.int un3) (jLj.cons jJc.l4 fv24_4 (by kernel_rfl) ty3 (qJv.int un3) (jLj.nil (by kernel_rfl)))))))
end Go.KB
