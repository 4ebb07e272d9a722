/- The statement, from the plain law. No condition. -/
import Derived.Test.YtcpcedbnpieebaaRows
import Derived.Test.YtcpcedbnpieebaaJSurveyPanels
import Derived.Test.YtcpcedbnpieebaaLSurveyPanels
import Derived.WalkKit
import Derived.ProofKit
import Derived.OpenShut
namespace Go.Proofs.Ytcpcedbnpieebaa.SurveyPanelsRow
open Go.KB Go.ChangeShapes Go.WideShapes Go.ChangeAt Go.RowKit
set_option maxRecDepth 100000
theorem laidOut : laidOutB Try.prog = true := by kernel_rfl
theorem own : ownKnob Try.prog.godebug = none := by kernel_rfl
theorem lifted (os : Os) (started : os.Started) (X : Type) (enc : TypeId × Value → X) :
    ReturnsInHanded {} Try.checked os 3 .any (Rows.surveyPanelsSpec.pre6 enc Try.prog Try.f3 Rows.surveyPanelsRow.domain false) (Rows.surveyPanelsSpec.post enc Try.prog Try.f3 false true false false) := by
  refine returnsInHanded_of_change (C := Try.checked) own started (by kernel_rfl) Try.func3
    (ChangeSpec.witness6 (enc := enc) (C := Try.checked) false ⟨#[], #[(.agg GPanel.rep.zc.toArray), (.agg GRule.rep.zc.toArray)], []⟩ 8 (by kernel_rfl) (by kernel_rfl) (by kernel_rfl) (by kernel_rfl)) ?_
  intro W base args ds gs before hval hW hcnd _
  refine law_post laidOut (Params.cons op24 (by kernel_rfl) (by kernel_rfl) (of_decide_eq_true (by kernel_rfl)) (Params.cons op26 (by kernel_rfl) (by kernel_rfl) (of_decide_eq_true (by kernel_rfl)) Params.nil)) (fun x h => ok_f_law09_SurveyPanels _ x.1 x.2.1 _ (law_SurveyPanels x.1 x.2.1 h.1 h.2.1)) rfl Try.underlying4 rfl ?_ hval hW
  intro X ds h
  match ds, h with
  | [d0, d1], _ => exact ⟨rfl, rfl, rfl⟩
theorem over : Rows.surveyPanelsRow.holds Try.pinned (OpenSpec.ofChange Rows.surveyPanelsSpec) :=
  OpenClaim.holds_of_wide 3 Try.f3 rfl rfl rfl rfl rfl rfl rfl ⟨rfl, rfl, rfl, rfl, rfl⟩ rfl rfl rfl rfl rfl (by kernel_rfl) Try.func3 (by kernel_rfl)
    (of_decide_eq_true (by kernel_rfl)) (by unfold Func.isWrapper; first | (rw [if_pos (by decide +kernel)]; kernel_rfl) | (rw [if_neg (by decide +kernel)]; exact ⟨rfl, rfl⟩))
    (fun os started X enc _ => lifted os started X enc)
end Go.Proofs.Ytcpcedbnpieebaa.SurveyPanelsRow
namespace Go.Proofs.Ytcpcedbnpieebaa
theorem provedSurveyPanels : Rows.SurveyPanelsSaid := SurveyPanelsRow.over
#print axioms provedSurveyPanels
end Go.Proofs.Ytcpcedbnpieebaa
