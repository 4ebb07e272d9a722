/- What the translation says of its types. Printed by a program. No condition. -/
import Derived.Test.YtmhjgjflmemjmaaGTypes
import Derived.Test.YtmhjgjflmemjmaaProg
namespace Go.KB
open Go.Proofs
theorem ty45 : TyOk Try.prog 45 GRun.rep := ⟨fun _ => by kernel_rfl, fun _ => by kernel_rfl, fun _ => by kernel_rfl⟩
theorem pl45 : PlacesOk Try.prog 45 (fun i => [(0, 1), (1, 1), (2, 1), (3, 1)][i]?) := PlacesOk.of (by kernel_rfl)
theorem un46 : Try.prog.underlying 46 = some (.slice 45) := by kernel_rfl
theorem ty41 : TyOk Try.prog 41 GRat.rep := ⟨fun _ => by kernel_rfl, fun _ => by kernel_rfl, fun _ => by kernel_rfl⟩
theorem fo45_0 : FieldOk Try.prog 45 0 0 := FieldOk.of (by kernel_rfl)
theorem ty3 : TyOk Try.prog 3 r_i64 := ⟨fun _ => by kernel_rfl, fun _ => by kernel_rfl, fun _ => by kernel_rfl⟩
theorem un47 : Try.prog.underlying 47 = some (.slice 3) := by kernel_rfl
theorem fo45_1 : FieldOk Try.prog 45 1 1 := FieldOk.of (by kernel_rfl)
theorem fo45_2 : FieldOk Try.prog 45 2 2 := FieldOk.of (by kernel_rfl)
theorem fo45_3 : FieldOk Try.prog 45 3 3 := FieldOk.of (by kernel_rfl)
theorem ty4 : TyOk Try.prog 4 Rep.bool := ⟨fun _ => by kernel_rfl, fun _ => by kernel_rfl, fun _ => by kernel_rfl⟩
theorem un4 : Try.prog.underlying 4 = some (.bool) := by kernel_rfl
theorem pl41 : PlacesOk Try.prog 41 (fun i => [(0, 2), (2, 2)][i]?) := PlacesOk.of (by kernel_rfl)
theorem ty39 : TyOk Try.prog 39 GInt.rep := ⟨fun _ => by kernel_rfl, fun _ => by kernel_rfl, fun _ => by kernel_rfl⟩
theorem un3 : Try.prog.underlying 3 = some (.int .i64) := by kernel_rfl
theorem un101 : Try.prog.underlying 101 = some (.int .u64) := by kernel_rfl
theorem un99 : Try.prog.underlying 99 = some (.int .u16) := by kernel_rfl
theorem ty99 : TyOk Try.prog 99 r_u16 := ⟨fun _ => by kernel_rfl, fun _ => by kernel_rfl, fun _ => by kernel_rfl⟩
theorem un37 : Try.prog.underlying 37 = some (.slice 99) := by kernel_rfl
theorem el99 : ElOk Try.prog 99 r_u16 := by unfold ElOk; kernel_rfl
theorem pl39 : PlacesOk Try.prog 39 (fun i => [(0, 1), (1, 1)][i]?) := PlacesOk.of (by kernel_rfl)
theorem fo39_1 : FieldOk Try.prog 39 1 1 := FieldOk.of (by kernel_rfl)
theorem ty37 : TyOk Try.prog 37 (Rep.slice r_u16) := ⟨fun _ => by kernel_rfl, fun _ => by kernel_rfl, fun _ => by kernel_rfl⟩
theorem un124 : Try.prog.underlying 124 = some (.int .u32) := by kernel_rfl
theorem un5 : Try.prog.underlying 5 = some (.int .u8) := by kernel_rfl
theorem un9 : Try.prog.underlying 9 = some (.string) := by kernel_rfl
theorem un2 : Try.prog.underlying 2 = some (.int .i64) := by kernel_rfl
theorem fo39_0 : FieldOk Try.prog 39 0 0 := FieldOk.of (by kernel_rfl)
theorem un73 : Try.prog.underlying 73 = some (.slice 41) := by kernel_rfl
theorem el41 : ElOk Try.prog 41 GRat.rep := by unfold ElOk; kernel_rfl
theorem fo41_0 : FieldOk Try.prog 41 0 0 := FieldOk.of (by kernel_rfl)
theorem fo41_1 : FieldOk Try.prog 41 1 2 := FieldOk.of (by kernel_rfl)
theorem ty51 : TyOk Try.prog 51 GPanel.rep := ⟨fun _ => by kernel_rfl, fun _ => by kernel_rfl, fun _ => by kernel_rfl⟩
theorem pl51 : PlacesOk Try.prog 51 (fun i => [(0, 1), (1, 1), (2, 1), (3, 1), (4, 1)][i]?) := PlacesOk.of (by kernel_rfl)
theorem ty53 : TyOk Try.prog 53 GRule.rep := ⟨fun _ => by kernel_rfl, fun _ => by kernel_rfl, fun _ => by kernel_rfl⟩
theorem pl53 : PlacesOk Try.prog 53 (fun i => [(0, 1), (1, 1)][i]?) := PlacesOk.of (by kernel_rfl)
theorem fo51_0 : FieldOk Try.prog 51 0 0 := FieldOk.of (by kernel_rfl)
theorem ty9 : TyOk Try.prog 9 Rep.str := ⟨fun _ => by kernel_rfl, fun _ => by kernel_rfl, fun _ => by kernel_rfl⟩
theorem fo51_1 : FieldOk Try.prog 51 1 1 := FieldOk.of (by kernel_rfl)
theorem fo51_2 : FieldOk Try.prog 51 2 2 := FieldOk.of (by kernel_rfl)
theorem fo51_3 : FieldOk Try.prog 51 3 3 := FieldOk.of (by kernel_rfl)
theorem fo51_4 : FieldOk Try.prog 51 4 4 := FieldOk.of (by kernel_rfl)
theorem ty47 : TyOk Try.prog 47 (Rep.slice r_i64) := ⟨fun _ => by kernel_rfl, fun _ => by kernel_rfl, fun _ => by kernel_rfl⟩
theorem fo53_0 : FieldOk Try.prog 53 0 0 := FieldOk.of (by kernel_rfl)
theorem fo53_1 : FieldOk Try.prog 53 1 1 := FieldOk.of (by kernel_rfl)
theorem el3 : ElOk Try.prog 3 r_i64 := by unfold ElOk; kernel_rfl
theorem ty26 : TyOk Try.prog 26 GCut.rep := ⟨fun _ => by kernel_rfl, fun _ => by kernel_rfl, fun _ => by kernel_rfl⟩
theorem fo26_4 : FieldOk Try.prog 26 4 4 := FieldOk.of (by kernel_rfl)
theorem ty24 : TyOk Try.prog 24 (Rep.slice GCut.rep) := ⟨fun _ => by kernel_rfl, fun _ => by kernel_rfl, fun _ => by kernel_rfl⟩
theorem un24 : Try.prog.underlying 24 = some (.slice 26) := by kernel_rfl
theorem fo26_5 : FieldOk Try.prog 26 5 5 := FieldOk.of (by kernel_rfl)
theorem ty23 : TyOk Try.prog 23 GPlate.rep := ⟨fun _ => by kernel_rfl, fun _ => by kernel_rfl, fun _ => by kernel_rfl⟩
theorem fo23_0 : FieldOk Try.prog 23 0 0 := FieldOk.of (by kernel_rfl)
theorem fo23_1 : FieldOk Try.prog 23 1 1 := FieldOk.of (by kernel_rfl)
theorem fo23_2 : FieldOk Try.prog 23 2 2 := FieldOk.of (by kernel_rfl)
theorem ty104 : TyOk Try.prog 104 (Rep.arr (Rep.slice GCut.rep) 2) := ⟨fun _ => by kernel_rfl, fun _ => by kernel_rfl, fun _ => by kernel_rfl⟩
theorem pl104 : PlacesOk Try.prog 104 (fun i => some (i * 1, 1)) := PlacesOk.mkArr (E := 24) (n := 2) (by kernel_rfl) (fun _ => by kernel_rfl)
theorem un104 : Try.prog.underlying 104 = some (.array 2 24) := by kernel_rfl
theorem ty62 : TyOk Try.prog 62 GRect.rep := ⟨fun _ => by kernel_rfl, fun _ => by kernel_rfl, fun _ => by kernel_rfl⟩
theorem pl62 : PlacesOk Try.prog 62 (fun i => [(0, 1), (1, 1), (2, 1), (3, 1)][i]?) := PlacesOk.of (by kernel_rfl)
theorem fo26_3 : FieldOk Try.prog 26 3 3 := FieldOk.of (by kernel_rfl)
theorem fo26_2 : FieldOk Try.prog 26 2 2 := FieldOk.of (by kernel_rfl)
theorem fo26_0 : FieldOk Try.prog 26 0 0 := FieldOk.of (by kernel_rfl)
theorem fo26_1 : FieldOk Try.prog 26 1 1 := FieldOk.of (by kernel_rfl)
theorem ty64 : TyOk Try.prog 64 Gsurvey_leaf.rep := ⟨fun _ => by kernel_rfl, fun _ => by kernel_rfl, fun _ => by kernel_rfl⟩
theorem pl64 : PlacesOk Try.prog 64 (fun i => [(0, 1), (1, 1), (2, 4)][i]?) := PlacesOk.of (by kernel_rfl)
theorem un57 : Try.prog.underlying 57 = some (.slice 64) := by kernel_rfl
theorem el64 : ElOk Try.prog 64 Gsurvey_leaf.rep := by unfold ElOk; kernel_rfl
theorem fo62_3 : FieldOk Try.prog 62 3 3 := FieldOk.of (by kernel_rfl)
theorem fo62_1 : FieldOk Try.prog 62 1 1 := FieldOk.of (by kernel_rfl)
theorem fo62_2 : FieldOk Try.prog 62 2 2 := FieldOk.of (by kernel_rfl)
theorem fo62_0 : FieldOk Try.prog 62 0 0 := FieldOk.of (by kernel_rfl)
theorem un115 : Try.prog.underlying 115 = some (.int .u64) := by kernel_rfl
theorem fo64_0 : FieldOk Try.prog 64 0 0 := FieldOk.of (by kernel_rfl)
theorem fo64_2 : FieldOk Try.prog 64 2 2 := FieldOk.of (by kernel_rfl)
theorem un29 : Try.prog.underlying 29 = some (.slice 62) := by kernel_rfl
theorem el62 : ElOk Try.prog 62 GRect.rep := by unfold ElOk; kernel_rfl
theorem ty72 : TyOk Try.prog 72 Gref09_Leaf.rep := ⟨fun _ => by kernel_rfl, fun _ => by kernel_rfl, fun _ => by kernel_rfl⟩
theorem pl72 : PlacesOk Try.prog 72 (fun i => [(0, 1), (1, 1), (2, 4)][i]?) := PlacesOk.of (by kernel_rfl)
theorem un68 : Try.prog.underlying 68 = some (.slice 72) := by kernel_rfl
theorem el72 : ElOk Try.prog 72 Gref09_Leaf.rep := by unfold ElOk; kernel_rfl
theorem fo72_0 : FieldOk Try.prog 72 0 0 := FieldOk.of (by kernel_rfl)
theorem fo72_2 : FieldOk Try.prog 72 2 2 := FieldOk.of (by kernel_rfl)
theorem fv62_3 : fieldAtB Try.prog 62 3 = some (3, 3) := by kernel_rfl
theorem fv62_2 : fieldAtB Try.prog 62 2 = some (3, 2) := by kernel_rfl
theorem fv62_1 : fieldAtB Try.prog 62 1 = some (3, 1) := by kernel_rfl
theorem fv62_0 : fieldAtB Try.prog 62 0 = some (3, 0) := by kernel_rfl
theorem eq62 : EqOk Try.prog 9999 62 GRect.rep GRect.eqb := EqOk.struct rfl (by kernel_rfl) (by kernel_rfl) (EqTail.cons GRect.l0 fv62_0 (by kernel_rfl) ty3 (EqOk.int un3) (EqTail.cons GRect.l1 fv62_1 (by kernel_rfl) ty3 (EqOk.int un3) (EqTail.cons GRect.l2 fv62_2 (by kernel_rfl) ty3 (EqOk.int un3) (EqTail.cons GRect.l3 fv62_3 (by kernel_rfl) ty3 (EqOk.int un3) (EqTail.nil (by kernel_rfl))))))
end Go.KB
