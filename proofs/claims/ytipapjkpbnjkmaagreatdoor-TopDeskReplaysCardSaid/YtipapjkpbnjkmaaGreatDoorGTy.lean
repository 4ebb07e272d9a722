/- What the translation says of its types. Printed by a program. No condition. -/
import Derived.Test.YtipapjkpbnjkmaaGreatDoorGTypes
import Derived.Test.YtipapjkpbnjkmaaGreatDoorProg
namespace Go.KB
open Go.Proofs
theorem jFc : Tryz.prog.underlying 22 = some (.slice 9) := by kernel_rfl
theorem un9 : Tryz.prog.underlying 9 = some (.string) := by kernel_rfl
theorem jWd : jKu Tryz.prog 47 jJu.rep := ⟨fun _ => by kernel_rfl, fun _ => by kernel_rfl, fun _ => by kernel_rfl⟩
theorem qZ3 : jVs Tryz.prog 47 (fun i => [(0, 1), (1, 1), (2, 1), (3, 1), (4, 1), (5, 1), (6, 1), (7, 1), (8, 1)][i]?) := jVs.of (by kernel_rfl)
theorem jBg : Tryz.prog.underlying 32 = some (.slice 47) := by kernel_rfl
theorem ty67 : jKu Tryz.prog 67 jJj.rep := ⟨fun _ => by kernel_rfl, fun _ => by kernel_rfl, fun _ => by kernel_rfl⟩
theorem pl67 : jVs Tryz.prog 67 (fun i => [(0, 1), (1, 1), (2, 1), (3, 1)][i]?) := jVs.of (by kernel_rfl)
theorem jAu : Tryz.prog.underlying 27 = some (.pointer (Tryz.prog.pointee 27)) := by kernel_rfl
theorem jGt : jQj Tryz.prog 47 0 0 := jQj.of (by kernel_rfl)
theorem ty3 : jKu Tryz.prog 3 jJy := ⟨fun _ => by kernel_rfl, fun _ => by kernel_rfl, fun _ => by kernel_rfl⟩
theorem jSt : jQj Tryz.prog 47 1 1 := jQj.of (by kernel_rfl)
theorem jFw : jKu Tryz.prog 90 Rep.rawP := ⟨fun _ => by kernel_rfl, fun _ => by kernel_rfl, fun _ => by kernel_rfl⟩
theorem jH5 : jQj Tryz.prog 47 7 7 := jQj.of (by kernel_rfl)
theorem jYa (sv : Value) : jKu Tryz.prog 94 (jJd.rep sv) := ⟨fun _ => by kernel_rfl, fun _ => by kernel_rfl, fun _ => by kernel_rfl⟩
theorem pl94 : jVs Tryz.prog 94 (fun i => [(0, 1), (1, 1), (2, 1), (3, 1)][i]?) := jVs.of (by kernel_rfl)
theorem jUa : jQj Tryz.prog 47 2 2 := jQj.of (by kernel_rfl)
theorem fo47_4 : jQj Tryz.prog 47 4 4 := jQj.of (by kernel_rfl)
theorem jPw : Tryz.prog.underlying 88 = some (.slice 94) := by kernel_rfl
theorem jDr : jQj Tryz.prog 47 3 3 := jQj.of (by kernel_rfl)
theorem qZk : jQj Tryz.prog 47 6 6 := jQj.of (by kernel_rfl)
theorem qJu : jQj Tryz.prog 47 5 5 := jQj.of (by kernel_rfl)
theorem fo47_8 : jQj Tryz.prog 47 8 8 := jQj.of (by kernel_rfl)
theorem jLf : jQj Tryz.prog 94 0 0 := jQj.of (by kernel_rfl)
theorem jRf (sv : Value) : jKu Tryz.prog 91 (Rep.poff sv) := ⟨fun _ => by kernel_rfl, fun _ => by kernel_rfl, fun _ => by kernel_rfl⟩
theorem un91 : Tryz.prog.underlying 91 = some (.pointer (Tryz.prog.pointee 91)) := by kernel_rfl
theorem ty9 : jKu Tryz.prog 9 Rep.str := ⟨fun _ => by kernel_rfl, fun _ => by kernel_rfl, fun _ => by kernel_rfl⟩
theorem un60 : Tryz.prog.underlying 60 = some (.slice 5) := by kernel_rfl
theorem un5 : Tryz.prog.underlying 5 = some (.int .u8) := by kernel_rfl
theorem ty5 : jKu Tryz.prog 5 jHq := ⟨fun _ => by kernel_rfl, fun _ => by kernel_rfl, fun _ => by kernel_rfl⟩
theorem jRz : jQj Tryz.prog 94 1 1 := jQj.of (by kernel_rfl)
theorem qJ0 (sv : Value) : jKu Tryz.prog 92 (Rep.poff sv) := ⟨fun _ => by kernel_rfl, fun _ => by kernel_rfl, fun _ => by kernel_rfl⟩
theorem un92 : Tryz.prog.underlying 92 = some (.pointer (Tryz.prog.pointee 92)) := by kernel_rfl
theorem fo94_2 : jQj Tryz.prog 94 2 2 := jQj.of (by kernel_rfl)
theorem fo94_3 : jQj Tryz.prog 94 3 3 := jQj.of (by kernel_rfl)
theorem jG7 : jQj Tryz.prog 67 0 0 := jQj.of (by kernel_rfl)
theorem jTn : jKu Tryz.prog 32 (Rep.slice jJu.rep) := ⟨fun _ => by kernel_rfl, fun _ => by kernel_rfl, fun _ => by kernel_rfl⟩
theorem jPa : jQj Tryz.prog 67 1 1 := jQj.of (by kernel_rfl)
theorem qQw : jKu Tryz.prog 63 Rep.rawM := ⟨fun _ => by kernel_rfl, fun _ => by kernel_rfl, fun _ => by kernel_rfl⟩
theorem ko9 : jBd Tryz.prog 9 Rep.str jXc := jBd.str un9
theorem qWz : Tryz.prog.underlying 63 = some (.map 9 3) := by kernel_rfl
theorem qYu : jQj Tryz.prog 67 3 3 := jQj.of (by kernel_rfl)
theorem tyr65 : jKu Tryz.prog 65 Rep.rawM := ⟨fun _ => by kernel_rfl, fun _ => by kernel_rfl, fun _ => by kernel_rfl⟩
theorem un3 : Tryz.prog.underlying 3 = some (.int .i64) := by kernel_rfl
theorem ko3 : jBd Tryz.prog 3 jJy (jXj .i64) := jBd.int un3
theorem ty4 : jKu Tryz.prog 4 Rep.bool := ⟨fun _ => by kernel_rfl, fun _ => by kernel_rfl, fun _ => by kernel_rfl⟩
theorem un65 : Tryz.prog.underlying 65 = some (.map 3 4) := by kernel_rfl
theorem jAb : jQj Tryz.prog 67 2 2 := jQj.of (by kernel_rfl)
theorem qV4 : jKu Tryz.prog 64 Rep.rawM := ⟨fun _ => by kernel_rfl, fun _ => by kernel_rfl, fun _ => by kernel_rfl⟩
theorem qWt : jKu Tryz.prog 100 jJz.rep := ⟨fun _ => by kernel_rfl, fun _ => by kernel_rfl, fun _ => by kernel_rfl⟩
theorem qVt : jVs Tryz.prog 100 (fun i => [(0, 1), (1, 1)][i]?) := jVs.of (by kernel_rfl)
theorem qUc : jKq Tryz.prog 100 1 = some (9, 1) := by kernel_rfl
theorem qKf : jKq Tryz.prog 100 0 = some (9, 0) := by kernel_rfl
theorem eq100 : jN4 Tryz.prog 9999 100 jJz.rep jJz.eqb := jN4.struct rfl (by kernel_rfl) (by kernel_rfl) (jG8.cons jJz.l0 qKf (by kernel_rfl) ty9 (jN4.str un9) (jG8.cons jJz.l1 qUc (by kernel_rfl) ty9 (jN4.str un9) (jG8.nil (by kernel_rfl))))
theorem qW9 : jBd Tryz.prog 100 jJz.rep jJw := jBd.struct eq100 (fs := Tryz.prog.fieldsOf 100) (by kernel_rfl) (fun x y => by cases x; cases y; unfold jJz.eqb; rw [Bool.eq_iff_iff]; simp) (fun {h u x} hv => by
  obtain ⟨cs, ⟨c0, d0, rfl, k0, c1, d1, rfl, k1, kk⟩, rfl⟩ := hv
  rw [show c0 = _ from k0, show c1 = _ from k1, show _ = _ from kk]; rfl) (fun h x => ⟨[jXc x.order, jXc x.item], ⟨_, _, rfl, rfl, _, _, rfl, rfl, rfl⟩, rfl⟩) (fun e w x => by kernel_rfl) (fun x => by simp [jJw, Instr.sameBits, jXc, qJ9])
theorem un64 : Tryz.prog.underlying 64 = some (.map 100 3) := by kernel_rfl
theorem jH7 : Tryz.prog.underlying 106 = some (.slice 3) := by kernel_rfl
theorem qY4 : jKq Tryz.prog 47 0 = some (3, 0) := by kernel_rfl
theorem el47 : jT9 Tryz.prog 47 jJu.rep := by unfold jT9; kernel_rfl
theorem jMe : jKu Tryz.prog 37 jJq.rep := ⟨fun _ => by kernel_rfl, fun _ => by kernel_rfl, fun _ => by kernel_rfl⟩
theorem pl37 : jVs Tryz.prog 37 (fun i => [(0, 1), (1, 1), (2, 1), (3, 1), (4, 1), (5, 1)][i]?) := jVs.of (by kernel_rfl)
theorem jTr : Tryz.prog.underlying 81 = some (.slice 84) := by kernel_rfl
theorem jPk : jKu Tryz.prog 84 jJn.rep := ⟨fun _ => by kernel_rfl, fun _ => by kernel_rfl, fun _ => by kernel_rfl⟩
theorem jPr : jQj Tryz.prog 37 0 0 := jQj.of (by kernel_rfl)
theorem qJv : jQj Tryz.prog 84 1 1 := jQj.of (by kernel_rfl)
theorem jPf : jQj Tryz.prog 37 1 1 := jQj.of (by kernel_rfl)
theorem jPs : jQj Tryz.prog 84 2 2 := jQj.of (by kernel_rfl)
theorem jRq : jQj Tryz.prog 37 2 2 := jQj.of (by kernel_rfl)
theorem jPc : jQj Tryz.prog 84 3 3 := jQj.of (by kernel_rfl)
theorem jNx : jQj Tryz.prog 37 3 3 := jQj.of (by kernel_rfl)
theorem jTh : jQj Tryz.prog 84 5 5 := jQj.of (by kernel_rfl)
theorem fv37_5 : jKq Tryz.prog 37 5 = some (3, 5) := by kernel_rfl
theorem fv37_4 : jKq Tryz.prog 37 4 = some (3, 4) := by kernel_rfl
theorem fv37_3 : jKq Tryz.prog 37 3 = some (3, 3) := by kernel_rfl
theorem fv37_2 : jKq Tryz.prog 37 2 = some (3, 2) := by kernel_rfl
theorem fv37_1 : jKq Tryz.prog 37 1 = some (3, 1) := by kernel_rfl
theorem fv37_0 : jKq Tryz.prog 37 0 = some (3, 0) := by kernel_rfl
theorem eq37 : jN4 Tryz.prog 9999 37 jJq.rep jJq.eqb := jN4.struct rfl (by kernel_rfl) (by kernel_rfl) (jG8.cons jJq.l0 fv37_0 (by kernel_rfl) ty3 (jN4.int un3) (jG8.cons jJq.l1 fv37_1 (by kernel_rfl) ty3 (jN4.int un3) (jG8.cons jJq.l2 fv37_2 (by kernel_rfl) ty3 (jN4.int un3) (jG8.cons jJq.l3 fv37_3 (by kernel_rfl) ty3 (jN4.int un3) (jG8.cons jJq.l4 fv37_4 (by kernel_rfl) ty3 (jN4.int un3) (jG8.cons jJq.l5 fv37_5 (by kernel_rfl) ty3 (jN4.int un3) (jG8.nil (by kernel_rfl))))))))
theorem un78 : Tryz.prog.underlying 78 = some (.map 3 3) := by kernel_rfl
theorem jFy : jKu Tryz.prog 27 Rep.rawP := ⟨fun _ => by kernel_rfl, fun _ => by kernel_rfl, fun _ => by kernel_rfl⟩
theorem el3 : jT9 Tryz.prog 3 jJy := by unfold jT9; kernel_rfl
theorem fv47_8 : jKq Tryz.prog 47 8 = some (3, 8) := by kernel_rfl
theorem qKu : jKq Tryz.prog 47 6 = some (3, 6) := by kernel_rfl
theorem pl84 : jVs Tryz.prog 84 (fun i => [(0, 1), (1, 1), (2, 1), (3, 1), (4, 1), (5, 1), (6, 1)][i]?) := jVs.of (by kernel_rfl)
theorem el84 : jT9 Tryz.prog 84 jJn.rep := by unfold jT9; kernel_rfl
theorem qZc : jQj Tryz.prog 84 4 4 := jQj.of (by kernel_rfl)
theorem qKy : jQj Tryz.prog 84 6 6 := jQj.of (by kernel_rfl)
theorem jTg : jQj Tryz.prog 37 4 4 := jQj.of (by kernel_rfl)
theorem qZf : jQj Tryz.prog 37 5 5 := jQj.of (by kernel_rfl)
theorem tydk49 : jKu Tryz.prog 49 Rep.dk := ⟨fun _ => by kernel_rfl, fun _ => by kernel_rfl, fun _ => by kernel_rfl⟩
theorem pl49 : jVs Tryz.prog 49 (fun i => [(0, 1)][i]?) := jVs.of (by kernel_rfl)
theorem un24 : Tryz.prog.underlying 24 = some (.pointer (Tryz.prog.pointee 24)) := by kernel_rfl
theorem ue71 : Tryz.prog.underlying 71 = some (.interface (Tryz.prog.methodsAt 71)) := by kernel_rfl
theorem el9 : jT9 Tryz.prog 9 Rep.str := by unfold jT9; kernel_rfl
theorem jL8 : jQj Tryz.prog 49 0 0 := jQj.of (by kernel_rfl)
theorem fo84_0 : jQj Tryz.prog 84 0 0 := jQj.of (by kernel_rfl)
theorem jMs : jKu Tryz.prog 108 jXy.rep := ⟨fun _ => by kernel_rfl, fun _ => by kernel_rfl, fun _ => by kernel_rfl⟩
theorem pl108 : jVs Tryz.prog 108 (fun i => [(0, 1), (1, 1), (2, 1), (3, 1), (4, 1)][i]?) := jVs.of (by kernel_rfl)
theorem jC2 : jQj Tryz.prog 108 2 2 := jQj.of (by kernel_rfl)
theorem qWr : jKu Tryz.prog 106 (Rep.slice jJy) := ⟨fun _ => by kernel_rfl, fun _ => by kernel_rfl, fun _ => by kernel_rfl⟩
theorem qUy : jQj Tryz.prog 108 0 0 := jQj.of (by kernel_rfl)
theorem qUh : jQj Tryz.prog 108 1 1 := jQj.of (by kernel_rfl)
theorem qUm : jQj Tryz.prog 108 3 3 := jQj.of (by kernel_rfl)
theorem qKt : jQj Tryz.prog 108 4 4 := jQj.of (by kernel_rfl)
theorem un21 : Tryz.prog.underlying 21 = some (.int .i32) := by kernel_rfl
end Go.KB
