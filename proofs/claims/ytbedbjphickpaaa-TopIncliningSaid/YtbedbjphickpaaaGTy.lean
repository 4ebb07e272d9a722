/- What the translation says of its types. Printed by a program. No condition. -/
import Derived.Test.YtbedbjphickpaaaGTypes
import Derived.Test.YtbedbjphickpaaaProg
namespace Go.KB
open Go.Proofs
theorem ty27 : TyOk Try.prog 27 GShip.rep := ⟨fun _ => by kernel_rfl, fun _ => by kernel_rfl, fun _ => by kernel_rfl⟩
theorem ty3 : TyOk Try.prog 3 r_i64 := ⟨fun _ => by kernel_rfl, fun _ => by kernel_rfl, fun _ => by kernel_rfl⟩
theorem un69 : Try.prog.underlying 69 = some (.slice 3) := by kernel_rfl
theorem ty71 : TyOk Try.prog 71 GStation.rep := ⟨fun _ => by kernel_rfl, fun _ => by kernel_rfl, fun _ => by kernel_rfl⟩
theorem pl71 : PlacesOk Try.prog 71 (fun i => [(0, 1), (1, 1), (2, 1), (3, 1)][i]?) := PlacesOk.of (by kernel_rfl)
theorem un22 : Try.prog.underlying 22 = some (.slice 71) := by kernel_rfl
theorem ty24 : TyOk Try.prog 24 GLoad.rep := ⟨fun _ => by kernel_rfl, fun _ => by kernel_rfl, fun _ => by kernel_rfl⟩
theorem pl24 : PlacesOk Try.prog 24 (fun i => [(0, 1), (1, 1), (2, 1), (3, 1), (4, 1)][i]?) := PlacesOk.of (by kernel_rfl)
theorem pl27 : PlacesOk Try.prog 27 (fun i => [(0, 1), (1, 1), (2, 1), (3, 5), (8, 1)][i]?) := PlacesOk.of (by kernel_rfl)
theorem ty32 : TyOk Try.prog 32 GRat.rep := ⟨fun _ => by kernel_rfl, fun _ => by kernel_rfl, fun _ => by kernel_rfl⟩
theorem ty30 : TyOk Try.prog 30 GInt.rep := ⟨fun _ => by kernel_rfl, fun _ => by kernel_rfl, fun _ => by kernel_rfl⟩
theorem un3 : Try.prog.underlying 3 = some (.int .i64) := by kernel_rfl
theorem un109 : Try.prog.underlying 109 = some (.int .u64) := by kernel_rfl
theorem un35 : Try.prog.underlying 35 = some (.int .u16) := by kernel_rfl
theorem ty35 : TyOk Try.prog 35 r_u16 := ⟨fun _ => by kernel_rfl, fun _ => by kernel_rfl, fun _ => by kernel_rfl⟩
theorem un28 : Try.prog.underlying 28 = some (.slice 35) := by kernel_rfl
theorem el35 : ElOk Try.prog 35 r_u16 := by unfold ElOk; kernel_rfl
theorem pl30 : PlacesOk Try.prog 30 (fun i => [(0, 1), (1, 1)][i]?) := PlacesOk.of (by kernel_rfl)
theorem pl32 : PlacesOk Try.prog 32 (fun i => [(0, 2), (2, 2)][i]?) := PlacesOk.of (by kernel_rfl)
theorem ty34 : TyOk Try.prog 34 GAttitude.rep := ⟨fun _ => by kernel_rfl, fun _ => by kernel_rfl, fun _ => by kernel_rfl⟩
theorem pl34 : PlacesOk Try.prog 34 (fun i => [(0, 4), (4, 4)][i]?) := PlacesOk.of (by kernel_rfl)
theorem ty52 : TyOk Try.prog 52 GRaised.rep := ⟨fun _ => by kernel_rfl, fun _ => by kernel_rfl, fun _ => by kernel_rfl⟩
theorem pl52 : PlacesOk Try.prog 52 (fun i => [(0, 1), (1, 4)][i]?) := PlacesOk.of (by kernel_rfl)
theorem ty48 : TyOk Try.prog 48 GStable.rep := ⟨fun _ => by kernel_rfl, fun _ => by kernel_rfl, fun _ => by kernel_rfl⟩
theorem fo52_0 : FieldOk Try.prog 52 0 0 := FieldOk.of (by kernel_rfl)
theorem fo27_0 : FieldOk Try.prog 27 0 0 := FieldOk.of (by kernel_rfl)
theorem ty9 : TyOk Try.prog 9 Rep.str := ⟨fun _ => by kernel_rfl, fun _ => by kernel_rfl, fun _ => by kernel_rfl⟩
theorem un9 : Try.prog.underlying 9 = some (.string) := by kernel_rfl
theorem un114 : Try.prog.underlying 114 = some (.slice 5) := by kernel_rfl
theorem un5 : Try.prog.underlying 5 = some (.int .u8) := by kernel_rfl
theorem ty5 : TyOk Try.prog 5 r_u8 := ⟨fun _ => by kernel_rfl, fun _ => by kernel_rfl, fun _ => by kernel_rfl⟩
theorem fo27_1 : FieldOk Try.prog 27 1 1 := FieldOk.of (by kernel_rfl)
theorem fo27_2 : FieldOk Try.prog 27 2 2 := FieldOk.of (by kernel_rfl)
theorem ty22 : TyOk Try.prog 22 (Rep.slice GStation.rep) := ⟨fun _ => by kernel_rfl, fun _ => by kernel_rfl, fun _ => by kernel_rfl⟩
theorem fo71_0 : FieldOk Try.prog 71 0 0 := FieldOk.of (by kernel_rfl)
theorem fo71_1 : FieldOk Try.prog 71 1 1 := FieldOk.of (by kernel_rfl)
theorem un85 : Try.prog.underlying 85 = some (.pointer (Try.prog.pointee 85)) := by kernel_rfl
theorem fo71_2 : FieldOk Try.prog 71 2 2 := FieldOk.of (by kernel_rfl)
theorem ty69 : TyOk Try.prog 69 (Rep.slice r_i64) := ⟨fun _ => by kernel_rfl, fun _ => by kernel_rfl, fun _ => by kernel_rfl⟩
theorem fo71_3 : FieldOk Try.prog 71 3 3 := FieldOk.of (by kernel_rfl)
theorem fo27_3 : FieldOk Try.prog 27 3 3 := FieldOk.of (by kernel_rfl)
theorem fo24_0 : FieldOk Try.prog 24 0 0 := FieldOk.of (by kernel_rfl)
theorem fo24_1 : FieldOk Try.prog 24 1 1 := FieldOk.of (by kernel_rfl)
theorem fo24_2 : FieldOk Try.prog 24 2 2 := FieldOk.of (by kernel_rfl)
theorem fo24_3 : FieldOk Try.prog 24 3 3 := FieldOk.of (by kernel_rfl)
theorem fo24_4 : FieldOk Try.prog 24 4 4 := FieldOk.of (by kernel_rfl)
theorem fo27_4 : FieldOk Try.prog 27 4 8 := FieldOk.of (by kernel_rfl)
theorem ty25 : TyOk Try.prog 25 (Rep.slice GLoad.rep) := ⟨fun _ => by kernel_rfl, fun _ => by kernel_rfl, fun _ => by kernel_rfl⟩
theorem un25 : Try.prog.underlying 25 = some (.slice 24) := by kernel_rfl
theorem ko9 : KeyOk Try.prog 9 Rep.str kStr := KeyOk.str un9
theorem un115 : Try.prog.underlying 115 = some (.map 9 4) := by kernel_rfl
theorem ty4 : TyOk Try.prog 4 Rep.bool := ⟨fun _ => by kernel_rfl, fun _ => by kernel_rfl, fun _ => by kernel_rfl⟩
theorem pl48 : PlacesOk Try.prog 48 (fun i => [(0, 4), (4, 4), (8, 4), (12, 4)][i]?) := PlacesOk.of (by kernel_rfl)
theorem ty65 : TyOk Try.prog 65 GHydro.rep := ⟨fun _ => by kernel_rfl, fun _ => by kernel_rfl, fun _ => by kernel_rfl⟩
theorem fo30_1 : FieldOk Try.prog 30 1 1 := FieldOk.of (by kernel_rfl)
theorem ty28 : TyOk Try.prog 28 (Rep.slice r_u16) := ⟨fun _ => by kernel_rfl, fun _ => by kernel_rfl, fun _ => by kernel_rfl⟩
theorem un154 : Try.prog.underlying 154 = some (.int .u32) := by kernel_rfl
theorem un2 : Try.prog.underlying 2 = some (.int .i64) := by kernel_rfl
theorem fo30_0 : FieldOk Try.prog 30 0 0 := FieldOk.of (by kernel_rfl)
theorem un4 : Try.prog.underlying 4 = some (.bool) := by kernel_rfl
theorem pl65 : PlacesOk Try.prog 65 (fun i => [(0, 4), (4, 4), (8, 4), (12, 4), (16, 4), (20, 4), (24, 4), (28, 4), (32, 4)][i]?) := PlacesOk.of (by kernel_rfl)
theorem fo34_0 : FieldOk Try.prog 34 0 0 := FieldOk.of (by kernel_rfl)
theorem fo34_1 : FieldOk Try.prog 34 1 4 := FieldOk.of (by kernel_rfl)
theorem fo32_0 : FieldOk Try.prog 32 0 0 := FieldOk.of (by kernel_rfl)
theorem fo32_1 : FieldOk Try.prog 32 1 2 := FieldOk.of (by kernel_rfl)
theorem ty120 : TyOk Try.prog 120 Ghull_section.rep := ⟨fun _ => by kernel_rfl, fun _ => by kernel_rfl, fun _ => by kernel_rfl⟩
theorem pl120 : PlacesOk Try.prog 120 (fun i => [(0, 4), (4, 4)][i]?) := PlacesOk.of (by kernel_rfl)
theorem un126 : Try.prog.underlying 126 = some (.slice 32) := by kernel_rfl
theorem fo120_0 : FieldOk Try.prog 120 0 0 := FieldOk.of (by kernel_rfl)
theorem fo120_1 : FieldOk Try.prog 120 1 4 := FieldOk.of (by kernel_rfl)
theorem fo65_0 : FieldOk Try.prog 65 0 0 := FieldOk.of (by kernel_rfl)
theorem fo65_2 : FieldOk Try.prog 65 2 8 := FieldOk.of (by kernel_rfl)
theorem fo65_3 : FieldOk Try.prog 65 3 12 := FieldOk.of (by kernel_rfl)
theorem fo65_4 : FieldOk Try.prog 65 4 16 := FieldOk.of (by kernel_rfl)
theorem fo65_5 : FieldOk Try.prog 65 5 20 := FieldOk.of (by kernel_rfl)
theorem fo65_6 : FieldOk Try.prog 65 6 24 := FieldOk.of (by kernel_rfl)
theorem fo65_7 : FieldOk Try.prog 65 7 28 := FieldOk.of (by kernel_rfl)
theorem fo65_1 : FieldOk Try.prog 65 1 4 := FieldOk.of (by kernel_rfl)
theorem fo65_8 : FieldOk Try.prog 65 8 32 := FieldOk.of (by kernel_rfl)
theorem ty54 : TyOk Try.prog 54 GCentre.rep := ⟨fun _ => by kernel_rfl, fun _ => by kernel_rfl, fun _ => by kernel_rfl⟩
theorem un155 : Try.prog.underlying 155 = some (.slice 25) := by kernel_rfl
theorem el24 : ElOk Try.prog 24 GLoad.rep := by unfold ElOk; kernel_rfl
theorem fo54_0 : FieldOk Try.prog 54 0 0 := FieldOk.of (by kernel_rfl)
theorem fo54_3 : FieldOk Try.prog 54 3 9 := FieldOk.of (by kernel_rfl)
theorem fo54_1 : FieldOk Try.prog 54 1 1 := FieldOk.of (by kernel_rfl)
theorem fo54_2 : FieldOk Try.prog 54 2 5 := FieldOk.of (by kernel_rfl)
theorem fo52_1 : FieldOk Try.prog 52 1 1 := FieldOk.of (by kernel_rfl)
theorem pl54 : PlacesOk Try.prog 54 (fun i => [(0, 1), (1, 4), (5, 4), (9, 1)][i]?) := PlacesOk.of (by kernel_rfl)
theorem un128 : Try.prog.underlying 128 = some (.slice 3) := by kernel_rfl
theorem el3 : ElOk Try.prog 3 r_i64 := by unfold ElOk; kernel_rfl
theorem fv32_0 : fieldAtB Try.prog 32 0 = some (30, 0) := by kernel_rfl
theorem fo48_2 : FieldOk Try.prog 48 2 8 := FieldOk.of (by kernel_rfl)
theorem ty78 : TyOk Try.prog 78 GIncline.rep := ⟨fun _ => by kernel_rfl, fun _ => by kernel_rfl, fun _ => by kernel_rfl⟩
theorem pl78 : PlacesOk Try.prog 78 (fun i => [(0, 9), (9, 8), (17, 1), (18, 1), (19, 1)][i]?) := PlacesOk.of (by kernel_rfl)
theorem fo78_4 : FieldOk Try.prog 78 4 19 := FieldOk.of (by kernel_rfl)
theorem ty76 : TyOk Try.prog 76 (Rep.slice GShift.rep) := ⟨fun _ => by kernel_rfl, fun _ => by kernel_rfl, fun _ => by kernel_rfl⟩
theorem ty80 : TyOk Try.prog 80 GShift.rep := ⟨fun _ => by kernel_rfl, fun _ => by kernel_rfl, fun _ => by kernel_rfl⟩
theorem pl80 : PlacesOk Try.prog 80 (fun i => [(0, 1), (1, 1), (2, 1)][i]?) := PlacesOk.of (by kernel_rfl)
theorem un76 : Try.prog.underlying 76 = some (.slice 80) := by kernel_rfl
theorem el80 : ElOk Try.prog 80 GShift.rep := by unfold ElOk; kernel_rfl
theorem fo78_0 : FieldOk Try.prog 78 0 0 := FieldOk.of (by kernel_rfl)
theorem fo78_2 : FieldOk Try.prog 78 2 17 := FieldOk.of (by kernel_rfl)
theorem fo78_1 : FieldOk Try.prog 78 1 9 := FieldOk.of (by kernel_rfl)
theorem fo78_3 : FieldOk Try.prog 78 3 18 := FieldOk.of (by kernel_rfl)
theorem fo80_0 : FieldOk Try.prog 80 0 0 := FieldOk.of (by kernel_rfl)
theorem fo80_1 : FieldOk Try.prog 80 1 1 := FieldOk.of (by kernel_rfl)
theorem fo80_2 : FieldOk Try.prog 80 2 2 := FieldOk.of (by kernel_rfl)
theorem fv54_3 : fieldAtB Try.prog 54 3 = some (3, 9) := by kernel_rfl
theorem fo48_1 : FieldOk Try.prog 48 1 4 := FieldOk.of (by kernel_rfl)
theorem fo48_0 : FieldOk Try.prog 48 0 0 := FieldOk.of (by kernel_rfl)
theorem un36 : Try.prog.underlying 36 = some (.array 3 35) := by kernel_rfl
abbrev h27_4 : Rep (GShip × Value) := Rep.hole GShip.l4 rfl
theorem el71 : ElOk Try.prog 71 GStation.rep := by unfold ElOk; kernel_rfl
theorem h27_4_R : Lens h27_4 Rep.raw 8 (fun x => x.2) (fun x v => (x.1, v)) := Lens.holeR
end Go.KB
