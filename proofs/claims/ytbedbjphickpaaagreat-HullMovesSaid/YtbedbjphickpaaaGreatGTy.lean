/- What the translation says of its types. Printed by a program. No condition. -/
import Derived.Test.YtbedbjphickpaaaGreatGTypes
import Derived.Test.YtbedbjphickpaaaGreatProg
namespace Go.KB
open Go.Proofs
theorem ty27 : TyOk Tryz.prog 27 GShip.rep := ⟨fun _ => by kernel_rfl, fun _ => by kernel_rfl, fun _ => by kernel_rfl⟩
theorem ty3 : TyOk Tryz.prog 3 r_i64 := ⟨fun _ => by kernel_rfl, fun _ => by kernel_rfl, fun _ => by kernel_rfl⟩
theorem un73 : Tryz.prog.underlying 73 = some (.slice 3) := by kernel_rfl
theorem ty75 : TyOk Tryz.prog 75 GStation.rep := ⟨fun _ => by kernel_rfl, fun _ => by kernel_rfl, fun _ => by kernel_rfl⟩
theorem pl75 : PlacesOk Tryz.prog 75 (fun i => [(0, 1), (1, 1), (2, 1), (3, 1)][i]?) := PlacesOk.of (by kernel_rfl)
theorem un22 : Tryz.prog.underlying 22 = some (.slice 75) := by kernel_rfl
theorem ty24 : TyOk Tryz.prog 24 GLoad.rep := ⟨fun _ => by kernel_rfl, fun _ => by kernel_rfl, fun _ => by kernel_rfl⟩
theorem pl24 : PlacesOk Tryz.prog 24 (fun i => [(0, 1), (1, 1), (2, 1), (3, 1), (4, 1)][i]?) := PlacesOk.of (by kernel_rfl)
theorem pl27 : PlacesOk Tryz.prog 27 (fun i => [(0, 1), (1, 1), (2, 1), (3, 5), (8, 1)][i]?) := PlacesOk.of (by kernel_rfl)
theorem ty32 : TyOk Tryz.prog 32 GRat.rep := ⟨fun _ => by kernel_rfl, fun _ => by kernel_rfl, fun _ => by kernel_rfl⟩
theorem ty30 : TyOk Tryz.prog 30 GInt.rep := ⟨fun _ => by kernel_rfl, fun _ => by kernel_rfl, fun _ => by kernel_rfl⟩
theorem un3 : Tryz.prog.underlying 3 = some (.int .i64) := by kernel_rfl
theorem un194 : Tryz.prog.underlying 194 = some (.int .u64) := by kernel_rfl
theorem un191 : Tryz.prog.underlying 191 = some (.int .u16) := by kernel_rfl
theorem ty191 : TyOk Tryz.prog 191 r_u16 := ⟨fun _ => by kernel_rfl, fun _ => by kernel_rfl, fun _ => by kernel_rfl⟩
theorem un28 : Tryz.prog.underlying 28 = some (.slice 191) := by kernel_rfl
theorem el191 : ElOk Tryz.prog 191 r_u16 := by unfold ElOk; kernel_rfl
theorem pl30 : PlacesOk Tryz.prog 30 (fun i => [(0, 1), (1, 1)][i]?) := PlacesOk.of (by kernel_rfl)
theorem pl32 : PlacesOk Tryz.prog 32 (fun i => [(0, 2), (2, 2)][i]?) := PlacesOk.of (by kernel_rfl)
theorem ty34 : TyOk Tryz.prog 34 GAttitude.rep := ⟨fun _ => by kernel_rfl, fun _ => by kernel_rfl, fun _ => by kernel_rfl⟩
theorem pl34 : PlacesOk Tryz.prog 34 (fun i => [(0, 4), (4, 4)][i]?) := PlacesOk.of (by kernel_rfl)
theorem ty39 : TyOk Tryz.prog 39 GHydro.rep := ⟨fun _ => by kernel_rfl, fun _ => by kernel_rfl, fun _ => by kernel_rfl⟩
theorem fo27_0 : FieldOk Tryz.prog 27 0 0 := FieldOk.of (by kernel_rfl)
theorem ty9 : TyOk Tryz.prog 9 Rep.str := ⟨fun _ => by kernel_rfl, fun _ => by kernel_rfl, fun _ => by kernel_rfl⟩
theorem un9 : Tryz.prog.underlying 9 = some (.string) := by kernel_rfl
theorem un217 : Tryz.prog.underlying 217 = some (.slice 5) := by kernel_rfl
theorem un5 : Tryz.prog.underlying 5 = some (.int .u8) := by kernel_rfl
theorem ty5 : TyOk Tryz.prog 5 r_u8 := ⟨fun _ => by kernel_rfl, fun _ => by kernel_rfl, fun _ => by kernel_rfl⟩
theorem fo27_1 : FieldOk Tryz.prog 27 1 1 := FieldOk.of (by kernel_rfl)
theorem fo27_2 : FieldOk Tryz.prog 27 2 2 := FieldOk.of (by kernel_rfl)
theorem ty22 : TyOk Tryz.prog 22 (Rep.slice GStation.rep) := ⟨fun _ => by kernel_rfl, fun _ => by kernel_rfl, fun _ => by kernel_rfl⟩
theorem fo75_0 : FieldOk Tryz.prog 75 0 0 := FieldOk.of (by kernel_rfl)
theorem fo75_1 : FieldOk Tryz.prog 75 1 1 := FieldOk.of (by kernel_rfl)
theorem un197 : Tryz.prog.underlying 197 = some (.pointer (Tryz.prog.pointee 197)) := by kernel_rfl
theorem fo75_2 : FieldOk Tryz.prog 75 2 2 := FieldOk.of (by kernel_rfl)
theorem ty73 : TyOk Tryz.prog 73 (Rep.slice r_i64) := ⟨fun _ => by kernel_rfl, fun _ => by kernel_rfl, fun _ => by kernel_rfl⟩
theorem fo75_3 : FieldOk Tryz.prog 75 3 3 := FieldOk.of (by kernel_rfl)
theorem fo27_3 : FieldOk Tryz.prog 27 3 3 := FieldOk.of (by kernel_rfl)
theorem fo24_0 : FieldOk Tryz.prog 24 0 0 := FieldOk.of (by kernel_rfl)
theorem fo24_1 : FieldOk Tryz.prog 24 1 1 := FieldOk.of (by kernel_rfl)
theorem fo24_2 : FieldOk Tryz.prog 24 2 2 := FieldOk.of (by kernel_rfl)
theorem fo24_3 : FieldOk Tryz.prog 24 3 3 := FieldOk.of (by kernel_rfl)
theorem fo24_4 : FieldOk Tryz.prog 24 4 4 := FieldOk.of (by kernel_rfl)
theorem fo27_4 : FieldOk Tryz.prog 27 4 8 := FieldOk.of (by kernel_rfl)
theorem ty25 : TyOk Tryz.prog 25 (Rep.slice GLoad.rep) := ⟨fun _ => by kernel_rfl, fun _ => by kernel_rfl, fun _ => by kernel_rfl⟩
theorem un25 : Tryz.prog.underlying 25 = some (.slice 24) := by kernel_rfl
theorem ko9 : KeyOk Tryz.prog 9 Rep.str kStr := KeyOk.str un9
theorem un218 : Tryz.prog.underlying 218 = some (.map 9 4) := by kernel_rfl
theorem ty4 : TyOk Tryz.prog 4 Rep.bool := ⟨fun _ => by kernel_rfl, fun _ => by kernel_rfl, fun _ => by kernel_rfl⟩
theorem pl39 : PlacesOk Tryz.prog 39 (fun i => [(0, 4), (4, 4), (8, 4), (12, 4), (16, 4), (20, 4), (24, 4), (28, 4), (32, 4)][i]?) := PlacesOk.of (by kernel_rfl)
theorem fo30_1 : FieldOk Tryz.prog 30 1 1 := FieldOk.of (by kernel_rfl)
theorem ty28 : TyOk Tryz.prog 28 (Rep.slice r_u16) := ⟨fun _ => by kernel_rfl, fun _ => by kernel_rfl, fun _ => by kernel_rfl⟩
theorem un231 : Tryz.prog.underlying 231 = some (.int .u32) := by kernel_rfl
theorem un2 : Tryz.prog.underlying 2 = some (.int .i64) := by kernel_rfl
theorem fo30_0 : FieldOk Tryz.prog 30 0 0 := FieldOk.of (by kernel_rfl)
theorem un4 : Tryz.prog.underlying 4 = some (.bool) := by kernel_rfl
theorem fo34_0 : FieldOk Tryz.prog 34 0 0 := FieldOk.of (by kernel_rfl)
theorem fo34_1 : FieldOk Tryz.prog 34 1 4 := FieldOk.of (by kernel_rfl)
theorem fo32_0 : FieldOk Tryz.prog 32 0 0 := FieldOk.of (by kernel_rfl)
theorem fo32_1 : FieldOk Tryz.prog 32 1 2 := FieldOk.of (by kernel_rfl)
theorem ty156 : TyOk Tryz.prog 156 Ghull_section.rep := ⟨fun _ => by kernel_rfl, fun _ => by kernel_rfl, fun _ => by kernel_rfl⟩
theorem pl156 : PlacesOk Tryz.prog 156 (fun i => [(0, 4), (4, 4)][i]?) := PlacesOk.of (by kernel_rfl)
theorem un118 : Tryz.prog.underlying 118 = some (.slice 32) := by kernel_rfl
theorem fo156_0 : FieldOk Tryz.prog 156 0 0 := FieldOk.of (by kernel_rfl)
theorem fo156_1 : FieldOk Tryz.prog 156 1 4 := FieldOk.of (by kernel_rfl)
theorem fo39_0 : FieldOk Tryz.prog 39 0 0 := FieldOk.of (by kernel_rfl)
theorem fo39_2 : FieldOk Tryz.prog 39 2 8 := FieldOk.of (by kernel_rfl)
theorem fo39_3 : FieldOk Tryz.prog 39 3 12 := FieldOk.of (by kernel_rfl)
theorem fo39_4 : FieldOk Tryz.prog 39 4 16 := FieldOk.of (by kernel_rfl)
theorem fo39_5 : FieldOk Tryz.prog 39 5 20 := FieldOk.of (by kernel_rfl)
theorem fo39_6 : FieldOk Tryz.prog 39 6 24 := FieldOk.of (by kernel_rfl)
theorem fo39_7 : FieldOk Tryz.prog 39 7 28 := FieldOk.of (by kernel_rfl)
theorem fo39_1 : FieldOk Tryz.prog 39 1 4 := FieldOk.of (by kernel_rfl)
theorem fo39_8 : FieldOk Tryz.prog 39 8 32 := FieldOk.of (by kernel_rfl)
theorem fv156_0 : fieldAtB Tryz.prog 156 0 = some (32, 0) := by kernel_rfl
theorem el3 : ElOk Tryz.prog 3 r_i64 := by unfold ElOk; kernel_rfl
theorem un201 : Tryz.prog.underlying 201 = some (.int .u64) := by kernel_rfl
theorem ty60 : TyOk Tryz.prog 60 GRaised.rep := ⟨fun _ => by kernel_rfl, fun _ => by kernel_rfl, fun _ => by kernel_rfl⟩
theorem pl60 : PlacesOk Tryz.prog 60 (fun i => [(0, 1), (1, 4)][i]?) := PlacesOk.of (by kernel_rfl)
theorem ty63 : TyOk Tryz.prog 63 GStable.rep := ⟨fun _ => by kernel_rfl, fun _ => by kernel_rfl, fun _ => by kernel_rfl⟩
theorem fo60_0 : FieldOk Tryz.prog 60 0 0 := FieldOk.of (by kernel_rfl)
theorem pl63 : PlacesOk Tryz.prog 63 (fun i => [(0, 4), (4, 4), (8, 4), (12, 4)][i]?) := PlacesOk.of (by kernel_rfl)
theorem ty68 : TyOk Tryz.prog 68 GCentre.rep := ⟨fun _ => by kernel_rfl, fun _ => by kernel_rfl, fun _ => by kernel_rfl⟩
theorem un219 : Tryz.prog.underlying 219 = some (.slice 25) := by kernel_rfl
theorem el24 : ElOk Tryz.prog 24 GLoad.rep := by unfold ElOk; kernel_rfl
theorem fo68_0 : FieldOk Tryz.prog 68 0 0 := FieldOk.of (by kernel_rfl)
theorem fo68_3 : FieldOk Tryz.prog 68 3 9 := FieldOk.of (by kernel_rfl)
theorem fo68_1 : FieldOk Tryz.prog 68 1 1 := FieldOk.of (by kernel_rfl)
theorem fo68_2 : FieldOk Tryz.prog 68 2 5 := FieldOk.of (by kernel_rfl)
theorem fo60_1 : FieldOk Tryz.prog 60 1 1 := FieldOk.of (by kernel_rfl)
theorem fo63_2 : FieldOk Tryz.prog 63 2 8 := FieldOk.of (by kernel_rfl)
theorem fo63_3 : FieldOk Tryz.prog 63 3 12 := FieldOk.of (by kernel_rfl)
theorem fo146_0 : FieldOk Tryz.prog 146 0 0 := FieldOk.of (by kernel_rfl)
theorem fo146_1 : FieldOk Tryz.prog 146 1 9 := FieldOk.of (by kernel_rfl)
theorem el75 : ElOk Tryz.prog 75 GStation.rep := by unfold ElOk; kernel_rfl
abbrev h27_4 : Rep (GShip × Value) := Rep.hole GShip.l4 rfl
theorem h27_4_R : Lens h27_4 Rep.raw 8 (fun x => x.2) (fun x v => (x.1, v)) := Lens.holeR
theorem fv24_4 : fieldAtB Tryz.prog 24 4 = some (3, 4) := by kernel_rfl
theorem fv24_3 : fieldAtB Tryz.prog 24 3 = some (3, 3) := by kernel_rfl
theorem fv24_2 : fieldAtB Tryz.prog 24 2 = some (3, 2) := by kernel_rfl
theorem fv24_1 : fieldAtB Tryz.prog 24 1 = some (3, 1) := by kernel_rfl
theorem fv24_0 : fieldAtB Tryz.prog 24 0 = some (9, 0) := by kernel_rfl
theorem eq24 : EqOk Tryz.prog 9999 24 GLoad.rep GLoad.eqb := EqOk.struct rfl (by kernel_rfl) (by kernel_rfl) (EqTail.cons GLoad.l0 fv24_0 (by kernel_rfl) ty9 (EqOk.str un9) (EqTail.cons GLoad.l1 fv24_1 (by kernel_rfl) ty3 (EqOk.int un3) (EqTail.cons GLoad.l2 fv24_2 (by kernel_rfl) ty3 (EqOk.int un3) (EqTail.cons GLoad.l3 fv24_3 (by kernel_rfl) ty3 (EqOk.int un3) (EqTail.cons GLoad.l4 fv24_4 (by kernel_rfl) ty3 (EqOk.int un3) (EqTail.nil (by kernel_rfl)))))))
theorem fo146_2 : FieldOk Tryz.prog 146 2 14 := FieldOk.of (by kernel_rfl)
theorem fo146_3 : FieldOk Tryz.prog 146 3 15 := FieldOk.of (by kernel_rfl)
theorem pl68 : PlacesOk Tryz.prog 68 (fun i => [(0, 1), (1, 4), (5, 4), (9, 1)][i]?) := PlacesOk.of (by kernel_rfl)
end Go.KB
