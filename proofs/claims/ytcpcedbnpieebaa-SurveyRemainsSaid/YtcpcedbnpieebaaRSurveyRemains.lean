/- The statement, from the plain law. No condition. -/
import Derived.Test.YtcpcedbnpieebaaRows
import Derived.Test.YtcpcedbnpieebaaJSurveyRemains
import Derived.Test.YtcpcedbnpieebaaLSurveyRemains
import Derived.WalkKit
import Derived.ProofKit
import Derived.OpenShut
namespace Go.Proofs.Ytcpcedbnpieebaa.SurveyRemainsRow
open Go.KB Go.ChangeShapes Go.WideShapes Go.ChangeAt Go.RowKit
set_option maxRecDepth 100000
set_option maxHeartbeats 4000000
theorem laidOut : laidOutB Try.prog = true := by kernel_rfl
theorem own : ownKnob Try.prog.godebug = none := by kernel_rfl
theorem lifted (os : Os) (started : os.Started) (X : Type) (enc : TypeId × Value → X) :
    ReturnsInHanded {} Try.checked os 6 .any (Rows.surveyRemainsSpec.pre6 enc Try.prog Try.f6 Rows.surveyRemainsRow.domain false) (Rows.surveyRemainsSpec.post enc Try.prog Try.f6 false true false false) := by
  refine returnsInHanded_of_change (C := Try.checked) own started (by kernel_rfl) Try.func6
    (ChangeSpec.witness6 (enc := enc) (C := Try.checked) false ⟨#[], #[(.agg GPanel.rep.zc.toArray), (.agg GPanel.rep.zc.toArray), (.agg GRule.rep.zc.toArray)], []⟩ 8 (by kernel_rfl) (by kernel_rfl) (by kernel_rfl) (by kernel_rfl)) ?_
  intro W base args ds gs before hval hW hcnd _
  refine law_post laidOut (Params.cons op24 (by kernel_rfl) (by kernel_rfl) (of_decide_eq_true (by kernel_rfl)) (Params.cons op24 (by kernel_rfl) (by kernel_rfl) (of_decide_eq_true (by kernel_rfl)) (Params.cons op26 (by kernel_rfl) (by kernel_rfl) (of_decide_eq_true (by kernel_rfl)) Params.nil))) (fun x h => ok_f_law09_SurveyRemains _ x.1 x.2.1 x.2.2.1 _ (law_SurveyRemains x.1 x.2.1 x.2.2.1 h.1 h.2.1 h.2.2.1)) rfl Try.underlying4 rfl ?_ hval hW
  intro X ds h
  match ds, h with
  | [d0, d1, d2], _ => exact ⟨rfl, rfl, rfl⟩
theorem over : Rows.surveyRemainsRow.holds Try.pinned (OpenSpec.ofChange Rows.surveyRemainsSpec) :=
  OpenClaim.holds_of_wide 6 Try.f6 rfl rfl rfl rfl rfl rfl rfl ⟨rfl, rfl, rfl, rfl, rfl⟩ rfl rfl rfl rfl rfl (by kernel_rfl) Try.func6 (by kernel_rfl)
    (of_decide_eq_true (by kernel_rfl)) (by unfold Func.isWrapper; first | (rw [if_pos (by decide +kernel)]; kernel_rfl) | (rw [if_neg (by decide +kernel)]; exact ⟨rfl, rfl⟩))
    (fun os started X enc _ => lifted os started X enc)
end Go.Proofs.Ytcpcedbnpieebaa.SurveyRemainsRow
namespace Go.Proofs.Ytcpcedbnpieebaa
theorem provedSurveyRemains : Rows.SurveyRemainsSaid := SurveyRemainsRow.over
#print axioms provedSurveyRemains
end Go.Proofs.Ytcpcedbnpieebaa
