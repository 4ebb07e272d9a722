/- What the translation says of its types. Printed by a program. No condition. -/
import Derived.Test.YtblfmjackdhajaaGTypes
import Derived.Test.YtblfmjackdhajaaProg
namespace Go.KB
open Go.Proofs
theorem jB6 : Try.prog.underlying 22 = some (.slice 41) := by kernel_rfl
theorem jLj : jYc Try.prog 41 GSetting.rep := ⟨fun _ => by kernel_rfl, fun _ => by kernel_rfl, fun _ => by kernel_rfl⟩
theorem jBl : jJ7 Try.prog 41 0 0 := jJ7.of (by kernel_rfl)
theorem ty9 : jYc Try.prog 9 Rep.str := ⟨fun _ => by kernel_rfl, fun _ => by kernel_rfl, fun _ => by kernel_rfl⟩
theorem un9 : Try.prog.underlying 9 = some (.string) := by kernel_rfl
theorem jRw : jJ7 Try.prog 41 1 1 := jJ7.of (by kernel_rfl)
theorem jK3 : jYc Try.prog 46 jJ1.rep := ⟨fun _ => by kernel_rfl, fun _ => by kernel_rfl, fun _ => by kernel_rfl⟩
theorem pl46 : jX9 Try.prog 46 (fun i => [(0, 1), (1, 1), (2, 1), (3, 1), (4, 1), (5, 1), (6, 1), (7, 1), (8, 1)][i]?) := jX9.of (by kernel_rfl)
theorem jFj : Try.prog.underlying 47 = some (.slice 46) := by kernel_rfl
theorem ty73 : jYc Try.prog 73 jJv.rep := ⟨fun _ => by kernel_rfl, fun _ => by kernel_rfl, fun _ => by kernel_rfl⟩
theorem pl73 : jX9 Try.prog 73 (fun i => [(0, 1), (1, 1), (2, 1), (3, 1)][i]?) := jX9.of (by kernel_rfl)
theorem un42 : Try.prog.underlying 42 = some (.pointer (Try.prog.pointee 42)) := by kernel_rfl
theorem jG0 : jJ7 Try.prog 46 0 0 := jJ7.of (by kernel_rfl)
theorem ty3 : jYc Try.prog 3 jJa := ⟨fun _ => by kernel_rfl, fun _ => by kernel_rfl, fun _ => by kernel_rfl⟩
theorem jRm : jJ7 Try.prog 46 1 1 := jJ7.of (by kernel_rfl)
theorem jUn : jYc Try.prog 105 Rep.rawP := ⟨fun _ => by kernel_rfl, fun _ => by kernel_rfl, fun _ => by kernel_rfl⟩
theorem jBr : jJ7 Try.prog 46 7 7 := jJ7.of (by kernel_rfl)
theorem jZ7 (sv : Value) : jYc Try.prog 109 (jJg.rep sv) := ⟨fun _ => by kernel_rfl, fun _ => by kernel_rfl, fun _ => by kernel_rfl⟩
theorem jAj : jX9 Try.prog 109 (fun i => [(0, 1), (1, 1), (2, 1), (3, 1)][i]?) := jX9.of (by kernel_rfl)
theorem jUw : jJ7 Try.prog 46 2 2 := jJ7.of (by kernel_rfl)
theorem fo46_4 : jJ7 Try.prog 46 4 4 := jJ7.of (by kernel_rfl)
theorem jBe : Try.prog.underlying 103 = some (.slice 109) := by kernel_rfl
theorem jB8 : jJ7 Try.prog 46 3 3 := jJ7.of (by kernel_rfl)
theorem jCr : jJ7 Try.prog 46 6 6 := jJ7.of (by kernel_rfl)
theorem jP3 : jJ7 Try.prog 46 5 5 := jJ7.of (by kernel_rfl)
theorem fo46_8 : jJ7 Try.prog 46 8 8 := jJ7.of (by kernel_rfl)
theorem jFy : jJ7 Try.prog 109 0 0 := jJ7.of (by kernel_rfl)
theorem jMe (sv : Value) : jYc Try.prog 106 (Rep.poff sv) := ⟨fun _ => by kernel_rfl, fun _ => by kernel_rfl, fun _ => by kernel_rfl⟩
theorem un106 : Try.prog.underlying 106 = some (.pointer (Try.prog.pointee 106)) := by kernel_rfl
theorem un83 : Try.prog.underlying 83 = some (.slice 5) := by kernel_rfl
theorem un5 : Try.prog.underlying 5 = some (.int .u8) := by kernel_rfl
theorem ty5 : jYc Try.prog 5 jY0 := ⟨fun _ => by kernel_rfl, fun _ => by kernel_rfl, fun _ => by kernel_rfl⟩
theorem jMj : jJ7 Try.prog 109 1 1 := jJ7.of (by kernel_rfl)
theorem jRs (sv : Value) : jYc Try.prog 107 (Rep.poff sv) := ⟨fun _ => by kernel_rfl, fun _ => by kernel_rfl, fun _ => by kernel_rfl⟩
theorem un107 : Try.prog.underlying 107 = some (.pointer (Try.prog.pointee 107)) := by kernel_rfl
theorem qJ0 : jJ7 Try.prog 109 2 2 := jJ7.of (by kernel_rfl)
theorem qQm : jJ7 Try.prog 109 3 3 := jJ7.of (by kernel_rfl)
theorem jGe : jJ7 Try.prog 73 0 0 := jJ7.of (by kernel_rfl)
theorem jSh : jYc Try.prog 47 (Rep.slice jJ1.rep) := ⟨fun _ => by kernel_rfl, fun _ => by kernel_rfl, fun _ => by kernel_rfl⟩
theorem jM2 : jJ7 Try.prog 73 1 1 := jJ7.of (by kernel_rfl)
theorem jS0 : jYc Try.prog 69 Rep.rawM := ⟨fun _ => by kernel_rfl, fun _ => by kernel_rfl, fun _ => by kernel_rfl⟩
theorem ko9 : jU3 Try.prog 9 Rep.str jJc := jU3.str un9
theorem qQp : Try.prog.underlying 69 = some (.map 9 3) := by kernel_rfl
theorem qJv : jJ7 Try.prog 73 3 3 := jJ7.of (by kernel_rfl)
theorem tyr71 : jYc Try.prog 71 Rep.rawM := ⟨fun _ => by kernel_rfl, fun _ => by kernel_rfl, fun _ => by kernel_rfl⟩
theorem un3 : Try.prog.underlying 3 = some (.int .i64) := by kernel_rfl
theorem ko3 : jU3 Try.prog 3 jJa (jV5 .i64) := jU3.int un3
theorem ty4 : jYc Try.prog 4 Rep.bool := ⟨fun _ => by kernel_rfl, fun _ => by kernel_rfl, fun _ => by kernel_rfl⟩
theorem un71 : Try.prog.underlying 71 = some (.map 3 4) := by kernel_rfl
theorem jTy : jJ7 Try.prog 73 2 2 := jJ7.of (by kernel_rfl)
theorem qJ1 : jYc Try.prog 70 Rep.rawM := ⟨fun _ => by kernel_rfl, fun _ => by kernel_rfl, fun _ => by kernel_rfl⟩
theorem ty89 : jYc Try.prog 89 jJy.rep := ⟨fun _ => by kernel_rfl, fun _ => by kernel_rfl, fun _ => by kernel_rfl⟩
theorem pl89 : jX9 Try.prog 89 (fun i => [(0, 1), (1, 1)][i]?) := jX9.of (by kernel_rfl)
theorem fv89_1 : jZk Try.prog 89 1 = some (9, 1) := by kernel_rfl
theorem fv89_0 : jZk Try.prog 89 0 = some (9, 0) := by kernel_rfl
theorem eq89 : jHw Try.prog 9999 89 jJy.rep jJy.eqb := jHw.struct rfl (by kernel_rfl) (by kernel_rfl) (jV6.cons jJy.l0 fv89_0 (by kernel_rfl) ty9 (jHw.str un9) (jV6.cons jJy.l1 fv89_1 (by kernel_rfl) ty9 (jHw.str un9) (jV6.nil (by kernel_rfl))))
theorem ko89 : jU3 Try.prog 89 jJy.rep jQx := jU3.struct eq89 (fs := Try.prog.fieldsOf 89) (by kernel_rfl) (fun x y => by cases x; cases y; unfold jJy.eqb; rw [Bool.eq_iff_iff]; simp) (fun {h u x} hv => by
  obtain ⟨cs, ⟨c0, d0, rfl, k0, c1, d1, rfl, k1, kk⟩, rfl⟩ := hv
  rw [show c0 = _ from k0, show c1 = _ from k1, show _ = _ from kk]; rfl) (fun h x => ⟨[jJc x.order, jJc x.item], ⟨_, _, rfl, rfl, _, _, rfl, rfl, rfl⟩, rfl⟩) (fun e w x => by kernel_rfl) (fun x => by simp [jQx, Instr.sameBits, jJc, jV5, jSf])
theorem un70 : Try.prog.underlying 70 = some (.map 89 3) := by kernel_rfl
theorem jMh : Try.prog.underlying 112 = some (.slice 3) := by kernel_rfl
theorem jA8 : jZk Try.prog 46 0 = some (3, 0) := by kernel_rfl
theorem el46 : jMb Try.prog 46 jJ1.rep := by unfold jMb; kernel_rfl
theorem jF7 : jYc Try.prog 49 jJz.rep := ⟨fun _ => by kernel_rfl, fun _ => by kernel_rfl, fun _ => by kernel_rfl⟩
theorem pl49 : jX9 Try.prog 49 (fun i => [(0, 1), (1, 1), (2, 1), (3, 1), (4, 1), (5, 1)][i]?) := jX9.of (by kernel_rfl)
theorem jT5 : Try.prog.underlying 65 = some (.slice 68) := by kernel_rfl
theorem jNs : jYc Try.prog 68 jQv.rep := ⟨fun _ => by kernel_rfl, fun _ => by kernel_rfl, fun _ => by kernel_rfl⟩
theorem jR1 : jJ7 Try.prog 49 0 0 := jJ7.of (by kernel_rfl)
theorem qJx : jJ7 Try.prog 68 1 1 := jJ7.of (by kernel_rfl)
theorem jRu : jJ7 Try.prog 49 1 1 := jJ7.of (by kernel_rfl)
theorem jRk : jJ7 Try.prog 68 2 2 := jJ7.of (by kernel_rfl)
theorem jRr : jJ7 Try.prog 49 2 2 := jJ7.of (by kernel_rfl)
theorem qJm : jJ7 Try.prog 68 3 3 := jJ7.of (by kernel_rfl)
theorem jNp : jJ7 Try.prog 49 3 3 := jJ7.of (by kernel_rfl)
theorem qJf : jJ7 Try.prog 68 5 5 := jJ7.of (by kernel_rfl)
theorem fv49_5 : jZk Try.prog 49 5 = some (3, 5) := by kernel_rfl
theorem fv49_4 : jZk Try.prog 49 4 = some (3, 4) := by kernel_rfl
theorem fv49_3 : jZk Try.prog 49 3 = some (3, 3) := by kernel_rfl
theorem fv49_2 : jZk Try.prog 49 2 = some (3, 2) := by kernel_rfl
theorem fv49_1 : jZk Try.prog 49 1 = some (3, 1) := by kernel_rfl
theorem fv49_0 : jZk Try.prog 49 0 = some (3, 0) := by kernel_rfl
theorem eq49 : jHw Try.prog 9999 49 jJz.rep jJz.eqb := jHw.struct rfl (by kernel_rfl) (by kernel_rfl) (jV6.cons jJz.l0 fv49_0 (by kernel_rfl) ty3 (jHw.int un3) (jV6.cons jJz.l1 fv49_1 (by kernel_rfl) ty3 (jHw.int un3) (jV6.cons jJz.l2 fv49_2 (by kernel_rfl) ty3 (jHw.int un3) (jV6.cons jJz.l3 fv49_3 (by kernel_rfl) ty3 (jHw.int un3) (jV6.cons jJz.l4 fv49_4 (by kernel_rfl) ty3 (jHw.int un3) (jV6.cons jJz.l5 fv49_5 (by kernel_rfl) ty3 (jHw.int un3) (jV6.nil (by kernel_rfl))))))))
theorem un91 : Try.prog.underlying 91 = some (.map 3 3) := by kernel_rfl
theorem tyr42 : jYc Try.prog 42 Rep.rawP := ⟨fun _ => by kernel_rfl, fun _ => by kernel_rfl, fun _ => by kernel_rfl⟩
theorem el3 : jMb Try.prog 3 jJa := by unfold jMb; kernel_rfl
theorem fv46_8 : jZk Try.prog 46 8 = some (3, 8) := by kernel_rfl
theorem jA4 : jZk Try.prog 46 6 = some (3, 6) := by kernel_rfl
theorem pl68 : jX9 Try.prog 68 (fun i => [(0, 1), (1, 1), (2, 1), (3, 1), (4, 1), (5, 1), (6, 1)][i]?) := jX9.of (by kernel_rfl)
theorem el68 : jMb Try.prog 68 jQv.rep := by unfold jMb; kernel_rfl
theorem fo68_6 : jJ7 Try.prog 68 6 6 := jJ7.of (by kernel_rfl)
theorem jT6 : jJ7 Try.prog 49 4 4 := jJ7.of (by kernel_rfl)
theorem fo49_5 : jJ7 Try.prog 49 5 5 := jJ7.of (by kernel_rfl)
theorem ty22 : jYc Try.prog 22 (Rep.slice GSetting.rep) := ⟨fun _ => by kernel_rfl, fun _ => by kernel_rfl, fun _ => by kernel_rfl⟩
theorem un75 : Try.prog.underlying 75 = some (.slice 22) := by kernel_rfl
theorem jLq : jYc Try.prog 58 jJq.rep := ⟨fun _ => by kernel_rfl, fun _ => by kernel_rfl, fun _ => by kernel_rfl⟩
theorem pl58 : jX9 Try.prog 58 (fun i => [(0, 1), (1, 1)][i]?) := jX9.of (by kernel_rfl)
theorem jDy : Try.prog.underlying 54 = some (.map 9 58) := by kernel_rfl
theorem jD5 : jYc Try.prog 54 Rep.rawM := ⟨fun _ => by kernel_rfl, fun _ => by kernel_rfl, fun _ => by kernel_rfl⟩
theorem jC5 : Try.prog.underlying 76 = some (.slice 54) := by kernel_rfl
theorem jNd : Try.prog.underlying 26 = some (.slice 9) := by kernel_rfl
theorem el9 : jMb Try.prog 9 Rep.str := by unfold jMb; kernel_rfl
theorem un4 : Try.prog.underlying 4 = some (.bool) := by kernel_rfl
theorem jTl : jZk Try.prog 58 1 = some (4, 1) := by kernel_rfl
theorem jTa : jZk Try.prog 58 0 = some (9, 0) := by kernel_rfl
theorem eq58 : jHw Try.prog 9999 58 jJq.rep jJq.eqb := jHw.struct rfl (by kernel_rfl) (by kernel_rfl) (jV6.cons jJq.l0 jTa (by kernel_rfl) ty9 (jHw.str un9) (jV6.cons jJq.l1 jTl (by kernel_rfl) ty4 (jHw.bool un4) (jV6.nil (by kernel_rfl))))
theorem fo58_1 : jJ7 Try.prog 58 1 1 := jJ7.of (by kernel_rfl)
theorem fo58_0 : jJ7 Try.prog 58 0 0 := jJ7.of (by kernel_rfl)
theorem pl41 : jX9 Try.prog 41 (fun i => [(0, 1), (1, 1)][i]?) := jX9.of (by kernel_rfl)
theorem el41 : jMb Try.prog 41 GSetting.rep := by unfold jMb; kernel_rfl
theorem jRa : jYc Try.prog 34 jQp.rep := ⟨fun _ => by kernel_rfl, fun _ => by kernel_rfl, fun _ => by kernel_rfl⟩
theorem pl34 : jX9 Try.prog 34 (fun i => [(0, 1), (1, 1), (2, 1), (3, 1), (4, 1)][i]?) := jX9.of (by kernel_rfl)
theorem jSz : Try.prog.underlying 30 = some (.slice 34) := by kernel_rfl
theorem el34 : jMb Try.prog 34 jQp.rep := by unfold jMb; kernel_rfl
theorem fv34_4 : jZk Try.prog 34 4 = some (4, 4) := by kernel_rfl
theorem fv34_3 : jZk Try.prog 34 3 = some (4, 3) := by kernel_rfl
theorem fv34_2 : jZk Try.prog 34 2 = some (9, 2) := by kernel_rfl
theorem fv34_1 : jZk Try.prog 34 1 = some (9, 1) := by kernel_rfl
theorem fv34_0 : jZk Try.prog 34 0 = some (9, 0) := by kernel_rfl
theorem eq34 : jHw Try.prog 9999 34 jQp.rep jQp.eqb := jHw.struct rfl (by kernel_rfl) (by kernel_rfl) (jV6.cons jQp.l0 fv34_0 (by kernel_rfl) ty9 (jHw.str un9) (jV6.cons jQp.l1 fv34_1 (by kernel_rfl) ty9 (jHw.str un9) (jV6.cons jQp.l2 fv34_2 (by kernel_rfl) ty9 (jHw.str un9) (jV6.cons jQp.l3 fv34_3 (by kernel_rfl) ty4 (jHw.bool un4) (jV6.cons jQp.l4 fv34_4 (by kernel_rfl) ty4 (jHw.bool un4) (jV6.nil (by kernel_rfl)))))))
theorem jLd : jJ7 Try.prog 34 0 0 := jJ7.of (by kernel_rfl)
theorem jTf : jJ7 Try.prog 34 1 1 := jJ7.of (by kernel_rfl)
theorem jS2 : jJ7 Try.prog 34 2 2 := jJ7.of (by kernel_rfl)
theorem jTx : jJ7 Try.prog 34 3 3 := jJ7.of (by kernel_rfl)
theorem jTw : jJ7 Try.prog 34 4 4 := jJ7.of (by kernel_rfl)
theorem fv41_1 : jZk Try.prog 41 1 = some (9, 1) := by kernel_rfl
theorem fv41_0 : jZk Try.prog 41 0 = some (9, 0) := by kernel_rfl
theorem eq41 : jHw Try.prog 9999 41 GSetting.rep GSetting.eqb := jHw.struct rfl (by kernel_rfl) (by kernel_rfl) (jV6.cons GSetting.l0 fv41_0 (by kernel_rfl) ty9 (jHw.str un9) (jV6.cons GSetting.l1 fv41_1 (by kernel_rfl) ty9 (jHw.str un9) (jV6.nil (by kernel_rfl))))
end Go.KB
