/- The statement, from the plain law. No condition. -/
import Derived.Test.YtjbnolcahodkkaaGreatRows
import Derived.Test.YtjbnolcahodkkaaGreatJTopSafeSchedule
import Derived.Test.YtjbnolcahodkkaaGreatLTopSafeSchedule
import Derived.Test.YtjbnolcahodkkaaGreatFaTopSafeSchedule
import Derived.Test.YtjbnolcahodkkaaGreatFbTopSafeSchedule
import Derived.Test.YtjbnolcahodkkaaGreatFcTopSafeSchedule
import Derived.WalkKit
import Derived.ProofKit
import Derived.OpenShut
namespace Go.Proofs.YtjbnolcahodkkaaGreat.TopSafeScheduleRow
open Go.KB Go.ChangeShapes Go.WideShapes Go.ChangeAt Go.RowKit
set_option maxRecDepth 100000
set_option maxHeartbeats 4000000
theorem laidOut : laidOutB Tryz.prog = true := cfb
theorem own : ownKnob Tryz.prog.godebug = none := by kernel_rfl
theorem okl (x : GWork × (List GSlot) × Unit) (h : GWork.ok x.1 ∧ (gL GSlot.ok) x.2.1 ∧ True) : FnOk Tryz.prog 3 [fV GWork.rep x.1, fV (Rep.slice GSlot.rep) x.2.1] (fV Rep.bool true) :=
  ok_f_top_TopSafeSchedule _ x.1 x.2.1 _ (law_TopSafeSchedule x.1 x.2.1 h.1 h.2.1)
theorem lifted (os : Os) (started : os.Started) (X : Type) (enc : TypeId × Value → X) :
    ReturnsInHanded {} Tryz.checked os 3 .any (Rows.topSafeScheduleSpec.pre6 enc Tryz.prog Tryz.f3 Rows.topSafeScheduleRow.domain false) (Rows.topSafeScheduleSpec.post enc Tryz.prog Tryz.f3 false true false false) := by
  refine KB.returnsInHanded_of_sized (enc := enc) (C := Tryz.checked) own started (by kernel_rfl) Tryz.func3
    (ChangeSpec.witness6 (enc := enc) (C := Tryz.checked) false ⟨#[], #[(.agg GWork.rep.zc.toArray), (.slice none 0 0)], []⟩ 8 (by kernel_rfl) (by kernel_rfl) (by kernel_rfl) (by kernel_rfl)) ?_
  intro W base args ds gs before hval hW hsz
  refine law_post laidOut (Params.cons (OpensW.of op28) (by kernel_rfl) (by kernel_rfl) (of_decide_eq_true (by kernel_rfl)) (Params.cons (OpensW.of op29) (by kernel_rfl) (by kernel_rfl) (of_decide_eq_true (by kernel_rfl)) Params.nil)) okl rfl Tryz.underlying4 rfl ?_ hval hW hsz
  intro X ds h
  match ds, h with
  | [d0, d1], _ => exact ⟨rfl, rfl, rfl⟩
theorem cf : joinedFacts Tryz.checked.prog 3 Tryz.f3 Rows.topSafeScheduleSpec Rows.topSafeScheduleRow = true := by
  unfold joinedFacts
  rw [cfb, cf0, cf1, cf2, cf3, cf4, cf5, cf6, cf7, cf8, cf9, cfa]
  kernel_rfl
theorem fnd : Tryz.checked.prog.funcNamed Rows.topSafeScheduleRow.func = some 3 := by kernel_rfl
theorem ins : Tryz.f3.isInstance Tryz.checked.prog Rows.topSafeScheduleRow.origin Rows.topSafeScheduleRow.targs := of_decide_eq_true (by kernel_rfl)
theorem wra : Tryz.f3.isWrapper Tryz.checked.prog Rows.topSafeScheduleRow.wrapper Rows.topSafeScheduleRow.mainSum := by
  unfold Func.isWrapper; first | (rw [if_pos (by decide +kernel)]; kernel_rfl) | (rw [if_neg (by decide +kernel)]; exact ⟨rfl, rfl⟩)
theorem over : Rows.topSafeScheduleRow.holds Tryz.pinned (OpenSpec.ofChange Rows.topSafeScheduleSpec) :=
  OpenClaim.holds_of_wide 3 Tryz.f3 rfl rfl rfl rfl rfl rfl rfl ⟨rfl, rfl, rfl, rfl, rfl⟩ rfl rfl rfl rfl rfl fnd Tryz.func3 cf ins wra
    (fun os started X enc _ => lifted os started X enc)
end Go.Proofs.YtjbnolcahodkkaaGreat.TopSafeScheduleRow
namespace Go.Proofs.YtjbnolcahodkkaaGreat
theorem provedTopSafeSchedule : Rows.TopSafeScheduleSaid := TopSafeScheduleRow.over
#print axioms provedTopSafeSchedule
end Go.Proofs.YtjbnolcahodkkaaGreat
