/- What the translation says of its types. Printed by a program. No condition. -/
import Derived.Test.YtkflmfhgpjpepaaGreatDoorGTypes
import Derived.Test.YtkflmfhgpjpepaaGreatDoorProg
namespace Go.KB
open Go.Proofs
theorem jKj : Tryz.prog.underlying 22 = some (.slice 37) := by kernel_rfl
theorem jZv : jK9 Tryz.prog 37 GPost.rep := ⟨fun _ => by kernel_rfl, fun _ => by kernel_rfl, fun _ => by kernel_rfl⟩
theorem jWu : jQy Tryz.prog 37 2 2 := jQy.of (by kernel_rfl)
theorem ty9 : jK9 Tryz.prog 9 Rep.str := ⟨fun _ => by kernel_rfl, fun _ => by kernel_rfl, fun _ => by kernel_rfl⟩
theorem un9 : Tryz.prog.underlying 9 = some (.string) := by kernel_rfl
theorem jU4 : jQy Tryz.prog 37 3 3 := jQy.of (by kernel_rfl)
theorem jTx : jQy Tryz.prog 37 4 4 := jQy.of (by kernel_rfl)
theorem jFr : jQy Tryz.prog 37 5 5 := jQy.of (by kernel_rfl)
theorem qQb : jWy Tryz.prog 37 (fun i => [(0, 1), (1, 1), (2, 1), (3, 1), (4, 1), (5, 1), (6, 1), (7, 1), (8, 1)][i]?) := jWy.of (by kernel_rfl)
theorem ty58 : jK9 Tryz.prog 58 jJq.rep := ⟨fun _ => by kernel_rfl, fun _ => by kernel_rfl, fun _ => by kernel_rfl⟩
theorem pl58 : jWy Tryz.prog 58 (fun i => [(0, 1), (1, 1), (2, 1), (3, 1)][i]?) := jWy.of (by kernel_rfl)
theorem jCp : Tryz.prog.underlying 25 = some (.pointer (Tryz.prog.pointee 25)) := by kernel_rfl
theorem jWp : jQy Tryz.prog 37 0 0 := jQy.of (by kernel_rfl)
theorem ty3 : jK9 Tryz.prog 3 r_i64 := ⟨fun _ => by kernel_rfl, fun _ => by kernel_rfl, fun _ => by kernel_rfl⟩
theorem jLr : jQy Tryz.prog 37 1 1 := jQy.of (by kernel_rfl)
theorem jFl : jK9 Tryz.prog 96 Rep.rawP := ⟨fun _ => by kernel_rfl, fun _ => by kernel_rfl, fun _ => by kernel_rfl⟩
theorem jKq : jQy Tryz.prog 37 7 7 := jQy.of (by kernel_rfl)
theorem jZ4 (sv : Value) : jK9 Tryz.prog 100 (jJb.rep sv) := ⟨fun _ => by kernel_rfl, fun _ => by kernel_rfl, fun _ => by kernel_rfl⟩
theorem qWh : jWy Tryz.prog 100 (fun i => [(0, 1), (1, 1), (2, 1), (3, 1)][i]?) := jWy.of (by kernel_rfl)
theorem jPz : Tryz.prog.underlying 94 = some (.slice 100) := by kernel_rfl
theorem jNs : jQy Tryz.prog 37 6 6 := jQy.of (by kernel_rfl)
theorem jAa : jQy Tryz.prog 37 8 8 := jQy.of (by kernel_rfl)
theorem jB3 : jQy Tryz.prog 100 0 0 := jQy.of (by kernel_rfl)
theorem jRs (sv : Value) : jK9 Tryz.prog 97 (Rep.poff sv) := ⟨fun _ => by kernel_rfl, fun _ => by kernel_rfl, fun _ => by kernel_rfl⟩
theorem un97 : Tryz.prog.underlying 97 = some (.pointer (Tryz.prog.pointee 97)) := by kernel_rfl
theorem un51 : Tryz.prog.underlying 51 = some (.slice 5) := by kernel_rfl
theorem un5 : Tryz.prog.underlying 5 = some (.int .u8) := by kernel_rfl
theorem ty5 : jK9 Tryz.prog 5 jKu := ⟨fun _ => by kernel_rfl, fun _ => by kernel_rfl, fun _ => by kernel_rfl⟩
theorem jLe : jQy Tryz.prog 100 1 1 := jQy.of (by kernel_rfl)
theorem qQw (sv : Value) : jK9 Tryz.prog 98 (Rep.poff sv) := ⟨fun _ => by kernel_rfl, fun _ => by kernel_rfl, fun _ => by kernel_rfl⟩
theorem un98 : Tryz.prog.underlying 98 = some (.pointer (Tryz.prog.pointee 98)) := by kernel_rfl
theorem qUr : jQy Tryz.prog 100 2 2 := jQy.of (by kernel_rfl)
theorem qKt : jQy Tryz.prog 100 3 3 := jQy.of (by kernel_rfl)
theorem jG1 : jQy Tryz.prog 58 0 0 := jQy.of (by kernel_rfl)
theorem jTp : jK9 Tryz.prog 22 (Rep.slice GPost.rep) := ⟨fun _ => by kernel_rfl, fun _ => by kernel_rfl, fun _ => by kernel_rfl⟩
theorem jTg : jQy Tryz.prog 58 1 1 := jQy.of (by kernel_rfl)
theorem qQ2 : jK9 Tryz.prog 54 Rep.rawM := ⟨fun _ => by kernel_rfl, fun _ => by kernel_rfl, fun _ => by kernel_rfl⟩
theorem ko9 : jBg Tryz.prog 9 Rep.str jQt := jBg.str un9
theorem qYe : Tryz.prog.underlying 54 = some (.map 9 3) := by kernel_rfl
theorem qYh : jQy Tryz.prog 58 3 3 := jQy.of (by kernel_rfl)
theorem tyr56 : jK9 Tryz.prog 56 Rep.rawM := ⟨fun _ => by kernel_rfl, fun _ => by kernel_rfl, fun _ => by kernel_rfl⟩
theorem un3 : Tryz.prog.underlying 3 = some (.int .i64) := by kernel_rfl
theorem ko3 : jBg Tryz.prog 3 r_i64 (jQb .i64) := jBg.int un3
theorem ty4 : jK9 Tryz.prog 4 Rep.bool := ⟨fun _ => by kernel_rfl, fun _ => by kernel_rfl, fun _ => by kernel_rfl⟩
theorem un56 : Tryz.prog.underlying 56 = some (.map 3 4) := by kernel_rfl
theorem qZl : jQy Tryz.prog 58 2 2 := jQy.of (by kernel_rfl)
theorem qUy : jK9 Tryz.prog 55 Rep.rawM := ⟨fun _ => by kernel_rfl, fun _ => by kernel_rfl, fun _ => by kernel_rfl⟩
theorem ty77 : jK9 Tryz.prog 77 jJy.rep := ⟨fun _ => by kernel_rfl, fun _ => by kernel_rfl, fun _ => by kernel_rfl⟩
theorem pl77 : jWy Tryz.prog 77 (fun i => [(0, 1), (1, 1)][i]?) := jWy.of (by kernel_rfl)
theorem fv77_1 : jVn Tryz.prog 77 1 = some (9, 1) := by kernel_rfl
theorem fv77_0 : jVn Tryz.prog 77 0 = some (9, 0) := by kernel_rfl
theorem eq77 : jFd Tryz.prog 9999 77 jJy.rep jJy.eqb := jFd.struct rfl (by kernel_rfl) (by kernel_rfl) (jKx.cons jJy.l0 fv77_0 (by kernel_rfl) ty9 (jFd.str un9) (jKx.cons jJy.l1 fv77_1 (by kernel_rfl) ty9 (jFd.str un9) (jKx.nil (by kernel_rfl))))
theorem ko77 : jBg Tryz.prog 77 jJy.rep jJz := jBg.struct eq77 (fs := Tryz.prog.fieldsOf 77) (by kernel_rfl) (fun x y => by cases x; cases y; unfold jJy.eqb; rw [Bool.eq_iff_iff]; simp) (fun {h u x} hv => by
  obtain ⟨cs, ⟨c0, d0, rfl, k0, c1, d1, rfl, k1, kk⟩, rfl⟩ := hv
  rw [show c0 = _ from k0, show c1 = _ from k1, show _ = _ from kk]; rfl) (fun h x => ⟨[jQt x.order, jQt x.item], ⟨_, _, rfl, rfl, _, _, rfl, rfl, rfl⟩, rfl⟩) (fun e w x => by kernel_rfl) (fun x => by simp [jJz, Instr.sameBits, jQt, qQz])
theorem un55 : Tryz.prog.underlying 55 = some (.map 77 3) := by kernel_rfl
theorem jLk : Tryz.prog.underlying 115 = some (.slice 3) := by kernel_rfl
theorem qKy : jVn Tryz.prog 37 0 = some (3, 0) := by kernel_rfl
theorem el37 : jCh Tryz.prog 37 GPost.rep := by unfold jCh; kernel_rfl
theorem jLc : jK9 Tryz.prog 42 jJv.rep := ⟨fun _ => by kernel_rfl, fun _ => by kernel_rfl, fun _ => by kernel_rfl⟩
theorem pl42 : jWy Tryz.prog 42 (fun i => [(0, 1), (1, 1), (2, 1), (3, 1), (4, 1), (5, 1)][i]?) := jWy.of (by kernel_rfl)
theorem jSq : Tryz.prog.underlying 45 = some (.slice 49) := by kernel_rfl
theorem jN9 : jK9 Tryz.prog 49 jJh.rep := ⟨fun _ => by kernel_rfl, fun _ => by kernel_rfl, fun _ => by kernel_rfl⟩
theorem jAl : jQy Tryz.prog 42 0 0 := jQy.of (by kernel_rfl)
theorem qQs : jQy Tryz.prog 49 1 1 := jQy.of (by kernel_rfl)
theorem jC7 : jQy Tryz.prog 42 1 1 := jQy.of (by kernel_rfl)
theorem jS7 : jQy Tryz.prog 49 2 2 := jQy.of (by kernel_rfl)
theorem jA3 : jQy Tryz.prog 42 2 2 := jQy.of (by kernel_rfl)
theorem jTb : jQy Tryz.prog 49 3 3 := jQy.of (by kernel_rfl)
theorem jSp : jQy Tryz.prog 42 3 3 := jQy.of (by kernel_rfl)
theorem jAr : jQy Tryz.prog 49 5 5 := jQy.of (by kernel_rfl)
theorem fv42_5 : jVn Tryz.prog 42 5 = some (3, 5) := by kernel_rfl
theorem fv42_4 : jVn Tryz.prog 42 4 = some (3, 4) := by kernel_rfl
theorem fv42_3 : jVn Tryz.prog 42 3 = some (3, 3) := by kernel_rfl
theorem fv42_2 : jVn Tryz.prog 42 2 = some (3, 2) := by kernel_rfl
theorem fv42_1 : jVn Tryz.prog 42 1 = some (3, 1) := by kernel_rfl
theorem fv42_0 : jVn Tryz.prog 42 0 = some (3, 0) := by kernel_rfl
theorem eq42 : jFd Tryz.prog 9999 42 jJv.rep jJv.eqb := jFd.struct rfl (by kernel_rfl) (by kernel_rfl) (jKx.cons jJv.l0 fv42_0 (by kernel_rfl) ty3 (jFd.int un3) (jKx.cons jJv.l1 fv42_1 (by kernel_rfl) ty3 (jFd.int un3) (jKx.cons jJv.l2 fv42_2 (by kernel_rfl) ty3 (jFd.int un3) (jKx.cons jJv.l3 fv42_3 (by kernel_rfl) ty3 (jFd.int un3) (jKx.cons jJv.l4 fv42_4 (by kernel_rfl) ty3 (jFd.int un3) (jKx.cons jJv.l5 fv42_5 (by kernel_rfl) ty3 (jFd.int un3) (jKx.nil (by kernel_rfl))))))))
theorem un78 : Tryz.prog.underlying 78 = some (.map 3 3) := by kernel_rfl
theorem jSe : jK9 Tryz.prog 25 Rep.rawP := ⟨fun _ => by kernel_rfl, fun _ => by kernel_rfl, fun _ => by kernel_rfl⟩
theorem el3 : jCh Tryz.prog 3 r_i64 := by unfold jCh; kernel_rfl
theorem fv37_8 : jVn Tryz.prog 37 8 = some (3, 8) := by kernel_rfl
theorem qY6 : jVn Tryz.prog 37 6 = some (3, 6) := by kernel_rfl
theorem pl49 : jWy Tryz.prog 49 (fun i => [(0, 1), (1, 1), (2, 1), (3, 1), (4, 1), (5, 1), (6, 1)][i]?) := jWy.of (by kernel_rfl)
theorem el49 : jCh Tryz.prog 49 jJh.rep := by unfold jCh; kernel_rfl
theorem qYn : jQy Tryz.prog 49 4 4 := jQy.of (by kernel_rfl)
theorem fo49_6 : jQy Tryz.prog 49 6 6 := jQy.of (by kernel_rfl)
theorem qZj : jQy Tryz.prog 42 4 4 := jQy.of (by kernel_rfl)
theorem fo42_5 : jQy Tryz.prog 42 5 5 := jQy.of (by kernel_rfl)
theorem jSx : Tryz.prog.underlying 90 = some (.slice 9) := by kernel_rfl
theorem el9 : jCh Tryz.prog 9 Rep.str := by unfold jCh; kernel_rfl
theorem un21 : Tryz.prog.underlying 21 = some (.int .i32) := by kernel_rfl
theorem ue62 : Tryz.prog.underlying 62 = some (.interface (Tryz.prog.methodsAt 62)) := by kernel_rfl
theorem fv49_6 : jVn Tryz.prog 49 6 = some (3, 6) := by kernel_rfl
theorem fv49_5 : jVn Tryz.prog 49 5 = some (3, 5) := by kernel_rfl
theorem fv49_4 : jVn Tryz.prog 49 4 = some (3, 4) := by kernel_rfl
theorem fv49_3 : jVn Tryz.prog 49 3 = some (3, 3) := by kernel_rfl
theorem fv49_2 : jVn Tryz.prog 49 2 = some (3, 2) := by kernel_rfl
theorem fv49_1 : jVn Tryz.prog 49 1 = some (3, 1) := by kernel_rfl
theorem fv49_0 : jVn Tryz.prog 49 0 = some (9, 0) := by kernel_rfl
theorem eq49 : jFd Tryz.prog 9999 49 jJh.rep jJh.eqb := jFd.struct rfl (by kernel_rfl) (by kernel_rfl) (jKx.cons jJh.l0 fv49_0 (by kernel_rfl) ty9 (jFd.str un9) (jKx.cons jJh.l1 fv49_1 (by kernel_rfl) ty3 (jFd.int un3) (jKx.cons jJh.l2 fv49_2 (by kernel_rfl) ty3 (jFd.int un3) (jKx.cons jJh.l3 fv49_3 (by kernel_rfl) ty3 (jFd.int un3) (jKx.cons jJh.l4 fv49_4 (by kernel_rfl) ty3 (jFd.int un3) (jKx.cons jJh.l5 fv49_5 (by kernel_rfl) ty3 (jFd.int un3) (jKx.cons jJh.l6 fv49_6 (by kernel_rfl) ty3 (jFd.int un3) (jKx.nil (by kernel_rfl)))))))))
end Go.KB
