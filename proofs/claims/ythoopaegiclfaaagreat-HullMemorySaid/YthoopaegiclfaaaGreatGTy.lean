/- What the translation says of its types. Printed by a program. No condition. -/
import Derived.Test.YthoopaegiclfaaaGreatGTypes
import Derived.Test.YthoopaegiclfaaaGreatProg
namespace Go.KB
open Go.Proofs
theorem jWz : jZf Tryz.prog 27 GShip.rep := ⟨fun _ => by kernel_rfl, fun _ => by kernel_rfl, fun _ => by kernel_rfl⟩
theorem ty3 : jZf Tryz.prog 3 jQf := ⟨fun _ => by kernel_rfl, fun _ => by kernel_rfl, fun _ => by kernel_rfl⟩
theorem jBj : Tryz.prog.underlying 40 = some (.slice 3) := by kernel_rfl
theorem jGb : jZf Tryz.prog 42 jJy.rep := ⟨fun _ => by kernel_rfl, fun _ => by kernel_rfl, fun _ => by kernel_rfl⟩
theorem pl42 : jX3 Tryz.prog 42 (fun i => [(0, 1), (1, 1), (2, 1), (3, 1)][i]?) := jX3.of (by kernel_rfl)
theorem jDj : Tryz.prog.underlying 22 = some (.slice 42) := by kernel_rfl
theorem jD6 : jZf Tryz.prog 24 GLoad.rep := ⟨fun _ => by kernel_rfl, fun _ => by kernel_rfl, fun _ => by kernel_rfl⟩
theorem pl24 : jX3 Tryz.prog 24 (fun i => [(0, 1), (1, 1), (2, 1), (3, 1), (4, 1)][i]?) := jX3.of (by kernel_rfl)
theorem qJ8 : jX3 Tryz.prog 27 (fun i => [(0, 1), (1, 1), (2, 1), (3, 5), (8, 1)][i]?) := jX3.of (by kernel_rfl)
theorem jQd : jZf Tryz.prog 50 jQg.rep := ⟨fun _ => by kernel_rfl, fun _ => by kernel_rfl, fun _ => by kernel_rfl⟩
theorem jUu : jZf Tryz.prog 48 jXz.rep := ⟨fun _ => by kernel_rfl, fun _ => by kernel_rfl, fun _ => by kernel_rfl⟩
theorem un3 : Tryz.prog.underlying 3 = some (.int .i64) := by kernel_rfl
theorem jFl : Tryz.prog.underlying 110 = some (.int .u64) := by kernel_rfl
theorem jWv : Tryz.prog.underlying 119 = some (.int .u16) := by kernel_rfl
theorem jQ5 : jZf Tryz.prog 119 jJu := ⟨fun _ => by kernel_rfl, fun _ => by kernel_rfl, fun _ => by kernel_rfl⟩
theorem jVd : Tryz.prog.underlying 46 = some (.slice 119) := by kernel_rfl
theorem jMn : jLt Tryz.prog 119 jJu := by unfold jLt; kernel_rfl
theorem qYa : jX3 Tryz.prog 48 (fun i => [(0, 1), (1, 1)][i]?) := jX3.of (by kernel_rfl)
theorem qWt : jX3 Tryz.prog 50 (fun i => [(0, 2), (2, 2)][i]?) := jX3.of (by kernel_rfl)
theorem qYu : jZf Tryz.prog 61 jZu.rep := ⟨fun _ => by kernel_rfl, fun _ => by kernel_rfl, fun _ => by kernel_rfl⟩
theorem pl61 : jX3 Tryz.prog 61 (fun i => [(0, 4), (4, 4)][i]?) := jX3.of (by kernel_rfl)
theorem jPq : jZf Tryz.prog 56 jJz.rep := ⟨fun _ => by kernel_rfl, fun _ => by kernel_rfl, fun _ => by kernel_rfl⟩
theorem qJm : jJ9 Tryz.prog 27 0 0 := jJ9.of (by kernel_rfl)
theorem ty9 : jZf Tryz.prog 9 Rep.str := ⟨fun _ => by kernel_rfl, fun _ => by kernel_rfl, fun _ => by kernel_rfl⟩
theorem un9 : Tryz.prog.underlying 9 = some (.string) := by kernel_rfl
theorem qW9 : Tryz.prog.underlying 120 = some (.slice 5) := by kernel_rfl
theorem un5 : Tryz.prog.underlying 5 = some (.int .u8) := by kernel_rfl
theorem ty5 : jZf Tryz.prog 5 jPd := ⟨fun _ => by kernel_rfl, fun _ => by kernel_rfl, fun _ => by kernel_rfl⟩
theorem qX9 : jJ9 Tryz.prog 27 1 1 := jJ9.of (by kernel_rfl)
theorem jV3 : jJ9 Tryz.prog 27 2 2 := jJ9.of (by kernel_rfl)
theorem jM7 : jZf Tryz.prog 22 (Rep.slice jJy.rep) := ⟨fun _ => by kernel_rfl, fun _ => by kernel_rfl, fun _ => by kernel_rfl⟩
theorem jFd : jJ9 Tryz.prog 42 0 0 := jJ9.of (by kernel_rfl)
theorem jFg : jJ9 Tryz.prog 42 1 1 := jJ9.of (by kernel_rfl)
theorem un99 : Tryz.prog.underlying 99 = some (.pointer (Tryz.prog.pointee 99)) := by kernel_rfl
theorem jUg : jJ9 Tryz.prog 42 2 2 := jJ9.of (by kernel_rfl)
theorem jMd : jZf Tryz.prog 40 (Rep.slice jQf) := ⟨fun _ => by kernel_rfl, fun _ => by kernel_rfl, fun _ => by kernel_rfl⟩
theorem jBr : jJ9 Tryz.prog 42 3 3 := jJ9.of (by kernel_rfl)
theorem jRu : jJ9 Tryz.prog 27 3 3 := jJ9.of (by kernel_rfl)
theorem jFs : jJ9 Tryz.prog 24 0 0 := jJ9.of (by kernel_rfl)
theorem jCe : jJ9 Tryz.prog 24 1 1 := jJ9.of (by kernel_rfl)
theorem qJg : jJ9 Tryz.prog 24 2 2 := jJ9.of (by kernel_rfl)
theorem qJb : jJ9 Tryz.prog 24 3 3 := jJ9.of (by kernel_rfl)
theorem qWn : jJ9 Tryz.prog 24 4 4 := jJ9.of (by kernel_rfl)
theorem jWx : jJ9 Tryz.prog 27 4 8 := jJ9.of (by kernel_rfl)
theorem jFn : jZf Tryz.prog 25 (Rep.slice GLoad.rep) := ⟨fun _ => by kernel_rfl, fun _ => by kernel_rfl, fun _ => by kernel_rfl⟩
theorem jGa : Tryz.prog.underlying 25 = some (.slice 24) := by kernel_rfl
theorem ko9 : jR7 Tryz.prog 9 Rep.str jTl := jR7.str un9
theorem qKj : Tryz.prog.underlying 121 = some (.map 9 4) := by kernel_rfl
theorem ty4 : jZf Tryz.prog 4 Rep.bool := ⟨fun _ => by kernel_rfl, fun _ => by kernel_rfl, fun _ => by kernel_rfl⟩
theorem pl56 : jX3 Tryz.prog 56 (fun i => [(0, 4), (4, 4), (8, 4), (12, 4), (16, 4), (20, 4), (24, 4), (28, 4), (32, 4)][i]?) := jX3.of (by kernel_rfl)
theorem jDw : jJ9 Tryz.prog 48 1 1 := jJ9.of (by kernel_rfl)
theorem qQa : jZf Tryz.prog 46 (Rep.slice jJu) := ⟨fun _ => by kernel_rfl, fun _ => by kernel_rfl, fun _ => by kernel_rfl⟩
theorem jUx : Tryz.prog.underlying 141 = some (.int .u32) := by kernel_rfl
theorem un2 : Tryz.prog.underlying 2 = some (.int .i64) := by kernel_rfl
theorem jBk : jJ9 Tryz.prog 48 0 0 := jJ9.of (by kernel_rfl)
theorem un4 : Tryz.prog.underlying 4 = some (.bool) := by kernel_rfl
theorem fo61_0 : jJ9 Tryz.prog 61 0 0 := jJ9.of (by kernel_rfl)
theorem fo61_1 : jJ9 Tryz.prog 61 1 4 := jJ9.of (by kernel_rfl)
theorem jFz : jJ9 Tryz.prog 50 0 0 := jJ9.of (by kernel_rfl)
theorem jA3 : jJ9 Tryz.prog 50 1 2 := jJ9.of (by kernel_rfl)
theorem qWq : jZf Tryz.prog 90 jJm.rep := ⟨fun _ => by kernel_rfl, fun _ => by kernel_rfl, fun _ => by kernel_rfl⟩
theorem pl90 : jX3 Tryz.prog 90 (fun i => [(0, 4), (4, 4)][i]?) := jX3.of (by kernel_rfl)
theorem jPb : Tryz.prog.underlying 43 = some (.slice 50) := by kernel_rfl
theorem qJp : jJ9 Tryz.prog 90 0 0 := jJ9.of (by kernel_rfl)
theorem qZ4 : jJ9 Tryz.prog 90 1 4 := jJ9.of (by kernel_rfl)
theorem jRj : jJ9 Tryz.prog 56 0 0 := jJ9.of (by kernel_rfl)
theorem qJa : jJ9 Tryz.prog 56 2 8 := jJ9.of (by kernel_rfl)
theorem jCu : jJ9 Tryz.prog 56 3 12 := jJ9.of (by kernel_rfl)
theorem jCg : jJ9 Tryz.prog 56 4 16 := jJ9.of (by kernel_rfl)
theorem jRe : jJ9 Tryz.prog 56 5 20 := jJ9.of (by kernel_rfl)
theorem qXq : jJ9 Tryz.prog 56 6 24 := jJ9.of (by kernel_rfl)
theorem jT2 : jJ9 Tryz.prog 56 7 28 := jJ9.of (by kernel_rfl)
theorem qWm : jJ9 Tryz.prog 56 1 4 := jJ9.of (by kernel_rfl)
theorem qJ0 : jJ9 Tryz.prog 56 8 32 := jJ9.of (by kernel_rfl)
theorem fv90_0 : jG9 Tryz.prog 90 0 = some (50, 0) := by kernel_rfl
theorem el3 : jLt Tryz.prog 3 jQf := by unfold jLt; kernel_rfl
theorem ty71 : jZf Tryz.prog 71 jKz.rep := ⟨fun _ => by kernel_rfl, fun _ => by kernel_rfl, fun _ => by kernel_rfl⟩
theorem pl71 : jX3 Tryz.prog 71 (fun i => [(0, 1), (1, 4)][i]?) := jX3.of (by kernel_rfl)
theorem jAq : jZf Tryz.prog 67 jXh.rep := ⟨fun _ => by kernel_rfl, fun _ => by kernel_rfl, fun _ => by kernel_rfl⟩
theorem qWh : jJ9 Tryz.prog 71 0 0 := jJ9.of (by kernel_rfl)
theorem pl67 : jX3 Tryz.prog 67 (fun i => [(0, 4), (4, 4), (8, 4), (12, 4)][i]?) := jX3.of (by kernel_rfl)
theorem qYc : jZf Tryz.prog 95 jQx.rep := ⟨fun _ => by kernel_rfl, fun _ => by kernel_rfl, fun _ => by kernel_rfl⟩
theorem qXg : Tryz.prog.underlying 153 = some (.slice 25) := by kernel_rfl
theorem qYb : jLt Tryz.prog 24 GLoad.rep := by unfold jLt; kernel_rfl
theorem jRs : jJ9 Tryz.prog 95 0 0 := jJ9.of (by kernel_rfl)
theorem qZd : jJ9 Tryz.prog 95 3 9 := jJ9.of (by kernel_rfl)
theorem fo95_1 : jJ9 Tryz.prog 95 1 1 := jJ9.of (by kernel_rfl)
theorem qZ5 : jJ9 Tryz.prog 95 2 5 := jJ9.of (by kernel_rfl)
theorem qWc : jJ9 Tryz.prog 71 1 1 := jJ9.of (by kernel_rfl)
theorem fo67_2 : jJ9 Tryz.prog 67 2 8 := jJ9.of (by kernel_rfl)
theorem fo67_3 : jJ9 Tryz.prog 67 3 12 := jJ9.of (by kernel_rfl)
abbrev jZr : Rep (GShip × Value) := Rep.hole GShip.l4 rfl
theorem jAl : Lens jZr (Rep.slice jJy.rep) 2 (fun x => x.1.Stations) (fun x y => ({ x.1 with Stations := y }, x.2)) := Lens.holeO GShip.l2 rfl (fun _ => rfl) (fun _ _ => rfl)
theorem jRw : Lens jZr Rep.raw 8 (fun x => x.2) (fun x v => (x.1, v)) := Lens.holeR
theorem el42 : jLt Tryz.prog 42 jJy.rep := by unfold jLt; kernel_rfl
theorem ty45 : jZf Tryz.prog 45 jX7.rep := ⟨fun _ => by kernel_rfl, fun _ => by kernel_rfl, fun _ => by kernel_rfl⟩
theorem pl45 : jX3 Tryz.prog 45 (fun i => [(0, 1), (1, 1)][i]?) := jX3.of (by kernel_rfl)
theorem jPx : jJ9 Tryz.prog 45 1 1 := jJ9.of (by kernel_rfl)
theorem qWu : jZf Tryz.prog 43 (Rep.slice jQg.rep) := ⟨fun _ => by kernel_rfl, fun _ => by kernel_rfl, fun _ => by kernel_rfl⟩
theorem el50 : jLt Tryz.prog 50 jQg.rep := by unfold jLt; kernel_rfl
theorem ty52 : jZf Tryz.prog 52 jX5.rep := ⟨fun _ => by kernel_rfl, fun _ => by kernel_rfl, fun _ => by kernel_rfl⟩
theorem pl52 : jX3 Tryz.prog 52 (fun i => [(0, 1), (1, 4), (5, 2)][i]?) := jX3.of (by kernel_rfl)
theorem qW5 : Tryz.prog.underlying 36 = some (.slice 52) := by kernel_rfl
theorem el52 : jLt Tryz.prog 52 jX5.rep := by unfold jLt; kernel_rfl
theorem ty39 : jZf Tryz.prog 39 (Rep.arr GShip.rep 2) := ⟨fun _ => by kernel_rfl, fun _ => by kernel_rfl, fun _ => by kernel_rfl⟩
theorem pl39 : jX3 Tryz.prog 39 (fun i => some (i * 9, 9)) := jX3.mkArr (E := 27) (n := 2) (by kernel_rfl) (fun _ => by kernel_rfl)
theorem un39 : Tryz.prog.underlying 39 = some (.array 2 27) := by kernel_rfl
theorem qWf : jJ9 Tryz.prog 52 2 5 := jJ9.of (by kernel_rfl)
theorem qWz : jJ9 Tryz.prog 45 0 0 := jJ9.of (by kernel_rfl)
theorem fv24_4 : jG9 Tryz.prog 24 4 = some (3, 4) := by kernel_rfl
theorem fv24_3 : jG9 Tryz.prog 24 3 = some (3, 3) := by kernel_rfl
theorem fv24_2 : jG9 Tryz.prog 24 2 = some (3, 2) := by kernel_rfl
theorem fv24_1 : jG9 Tryz.prog 24 1 = some (3, 1) := by kernel_rfl
theorem fv24_0 : jG9 Tryz.prog 24 0 = some (9, 0) := by kernel_rfl
theorem eq24 : jC0 Tryz.prog 9999 24 GLoad.rep GLoad.eqb := jC0.struct rfl (by kernel_rfl) (by kernel_rfl) (jFk.cons GLoad.l0 fv24_0 (by kernel_rfl) ty9 (jC0.str un9) (jFk.cons GLoad.l1 fv24_1 (by kernel_rfl) ty3 (jC0.int un3) (jFk.cons GLoad.l2 fv24_2 (by kernel_rfl) ty3 (jC0.int un3) (jFk.cons GLoad.l3 fv24_3 (by kernel_rfl) ty3 (jC0.int un3) (jFk.cons GLoad.l4 fv24_4 (by kernel_rfl) ty3 (jC0.int un3) (jFk.nil (by kernel_rfl)))))))
end Go.KB
