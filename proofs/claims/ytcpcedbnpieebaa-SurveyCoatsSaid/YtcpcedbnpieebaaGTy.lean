/- What the translation says of its types. Printed by a program. No condition. -/
import Derived.Test.YtcpcedbnpieebaaGTypes
import Derived.Test.YtcpcedbnpieebaaProg
namespace Go.KB
open Go.Proofs
theorem ty49 : TyOk Try.prog 49 GRat.rep := ⟨fun _ => by kernel_rfl, fun _ => by kernel_rfl, fun _ => by kernel_rfl⟩
theorem fo49_0 : FieldOk Try.prog 49 0 0 := FieldOk.of (by kernel_rfl)
theorem ty47 : TyOk Try.prog 47 GInt.rep := ⟨fun _ => by kernel_rfl, fun _ => by kernel_rfl, fun _ => by kernel_rfl⟩
theorem fo47_0 : FieldOk Try.prog 47 0 0 := FieldOk.of (by kernel_rfl)
theorem ty4 : TyOk Try.prog 4 Rep.bool := ⟨fun _ => by kernel_rfl, fun _ => by kernel_rfl, fun _ => by kernel_rfl⟩
theorem fo47_1 : FieldOk Try.prog 47 1 1 := FieldOk.of (by kernel_rfl)
theorem ty45 : TyOk Try.prog 45 (Rep.slice r_u16) := ⟨fun _ => by kernel_rfl, fun _ => by kernel_rfl, fun _ => by kernel_rfl⟩
theorem pl47 : PlacesOk Try.prog 47 (fun i => [(0, 1), (1, 1)][i]?) := PlacesOk.of (by kernel_rfl)
theorem fo49_1 : FieldOk Try.prog 49 1 2 := FieldOk.of (by kernel_rfl)
theorem un45 : Try.prog.underlying 45 = some (.slice 103) := by kernel_rfl
theorem ty103 : TyOk Try.prog 103 r_u16 := ⟨fun _ => by kernel_rfl, fun _ => by kernel_rfl, fun _ => by kernel_rfl⟩
theorem un103 : Try.prog.underlying 103 = some (.int .u16) := by kernel_rfl
theorem un186 : Try.prog.underlying 186 = some (.int .u64) := by kernel_rfl
theorem el103 : ElOk Try.prog 103 r_u16 := by unfold ElOk; kernel_rfl
theorem un3 : Try.prog.underlying 3 = some (.int .i64) := by kernel_rfl
theorem un229 : Try.prog.underlying 229 = some (.int .u32) := by kernel_rfl
theorem un5 : Try.prog.underlying 5 = some (.int .u8) := by kernel_rfl
theorem un9 : Try.prog.underlying 9 = some (.string) := by kernel_rfl
theorem un2 : Try.prog.underlying 2 = some (.int .i64) := by kernel_rfl
theorem un4 : Try.prog.underlying 4 = some (.bool) := by kernel_rfl
theorem pl49 : PlacesOk Try.prog 49 (fun i => [(0, 2), (2, 2)][i]?) := PlacesOk.of (by kernel_rfl)
theorem ty3 : TyOk Try.prog 3 r_i64 := ⟨fun _ => by kernel_rfl, fun _ => by kernel_rfl, fun _ => by kernel_rfl⟩
theorem un209 : Try.prog.underlying 209 = some (.slice 3) := by kernel_rfl
theorem el3 : ElOk Try.prog 3 r_i64 := by unfold ElOk; kernel_rfl
theorem fv49_0 : fieldAtB Try.prog 49 0 = some (47, 0) := by kernel_rfl
theorem ty131 : TyOk Try.prog 131 GRun.rep := ⟨fun _ => by kernel_rfl, fun _ => by kernel_rfl, fun _ => by kernel_rfl⟩
theorem pl131 : PlacesOk Try.prog 131 (fun i => [(0, 1), (1, 1), (2, 1), (3, 1)][i]?) := PlacesOk.of (by kernel_rfl)
theorem un43 : Try.prog.underlying 43 = some (.slice 131) := by kernel_rfl
theorem fo131_0 : FieldOk Try.prog 131 0 0 := FieldOk.of (by kernel_rfl)
theorem un22 : Try.prog.underlying 22 = some (.slice 3) := by kernel_rfl
theorem fo131_1 : FieldOk Try.prog 131 1 1 := FieldOk.of (by kernel_rfl)
theorem fo131_2 : FieldOk Try.prog 131 2 2 := FieldOk.of (by kernel_rfl)
theorem fo131_3 : FieldOk Try.prog 131 3 3 := FieldOk.of (by kernel_rfl)
theorem un29 : Try.prog.underlying 29 = some (.slice 49) := by kernel_rfl
theorem el49 : ElOk Try.prog 49 GRat.rep := by unfold ElOk; kernel_rfl
theorem ty24 : TyOk Try.prog 24 GPanel.rep := ⟨fun _ => by kernel_rfl, fun _ => by kernel_rfl, fun _ => by kernel_rfl⟩
theorem pl24 : PlacesOk Try.prog 24 (fun i => [(0, 1), (1, 1), (2, 1), (3, 1), (4, 1)][i]?) := PlacesOk.of (by kernel_rfl)
theorem ty26 : TyOk Try.prog 26 GRule.rep := ⟨fun _ => by kernel_rfl, fun _ => by kernel_rfl, fun _ => by kernel_rfl⟩
theorem pl26 : PlacesOk Try.prog 26 (fun i => [(0, 1), (1, 1)][i]?) := PlacesOk.of (by kernel_rfl)
theorem fo24_0 : FieldOk Try.prog 24 0 0 := FieldOk.of (by kernel_rfl)
theorem ty9 : TyOk Try.prog 9 Rep.str := ⟨fun _ => by kernel_rfl, fun _ => by kernel_rfl, fun _ => by kernel_rfl⟩
theorem fo24_1 : FieldOk Try.prog 24 1 1 := FieldOk.of (by kernel_rfl)
theorem fo24_2 : FieldOk Try.prog 24 2 2 := FieldOk.of (by kernel_rfl)
theorem fo24_3 : FieldOk Try.prog 24 3 3 := FieldOk.of (by kernel_rfl)
theorem fo24_4 : FieldOk Try.prog 24 4 4 := FieldOk.of (by kernel_rfl)
theorem ty22 : TyOk Try.prog 22 (Rep.slice r_i64) := ⟨fun _ => by kernel_rfl, fun _ => by kernel_rfl, fun _ => by kernel_rfl⟩
theorem fo26_0 : FieldOk Try.prog 26 0 0 := FieldOk.of (by kernel_rfl)
theorem fo26_1 : FieldOk Try.prog 26 1 1 := FieldOk.of (by kernel_rfl)
theorem ty95 : TyOk Try.prog 95 GCoat.rep := ⟨fun _ => by kernel_rfl, fun _ => by kernel_rfl, fun _ => by kernel_rfl⟩
theorem un93 : Try.prog.underlying 93 = some (.slice 95) := by kernel_rfl
theorem el95 : ElOk Try.prog 95 GCoat.rep := by unfold ElOk; kernel_rfl
theorem un102 : Try.prog.underlying 102 = some (.slice 107) := by kernel_rfl
theorem fo95_0 : FieldOk Try.prog 95 0 0 := FieldOk.of (by kernel_rfl)
theorem ty107 : TyOk Try.prog 107 GPainting.rep := ⟨fun _ => by kernel_rfl, fun _ => by kernel_rfl, fun _ => by kernel_rfl⟩
theorem fo107_0 : FieldOk Try.prog 107 0 0 := FieldOk.of (by kernel_rfl)
theorem fo107_2 : FieldOk Try.prog 107 2 2 := FieldOk.of (by kernel_rfl)
theorem fo95_1 : FieldOk Try.prog 95 1 1 := FieldOk.of (by kernel_rfl)
theorem fo95_2 : FieldOk Try.prog 95 2 2 := FieldOk.of (by kernel_rfl)
theorem fo95_3 : FieldOk Try.prog 95 3 3 := FieldOk.of (by kernel_rfl)
theorem fo95_4 : FieldOk Try.prog 95 4 4 := FieldOk.of (by kernel_rfl)
theorem ko9 : KeyOk Try.prog 9 Rep.str kStr := KeyOk.str un9
theorem un150 : Try.prog.underlying 150 = some (.map 9 4) := by kernel_rfl
end Go.KB
