/- The statement, from the plain law. No condition. -/
import Derived.Test.YtcpcedbnpieebaaRows
import Derived.Test.YtcpcedbnpieebaaJSurveyGoes
import Derived.Test.YtcpcedbnpieebaaLSurveyGoes
import Derived.WalkKit
import Derived.ProofKit
import Derived.OpenShut
namespace Go.Proofs.Ytcpcedbnpieebaa.SurveyGoesRow
open Go.KB Go.ChangeShapes Go.WideShapes Go.ChangeAt Go.RowKit
set_option maxRecDepth 100000
set_option maxHeartbeats 4000000
theorem laidOut : laidOutB Try.prog = true := by kernel_rfl
theorem own : ownKnob Try.prog.godebug = none := by kernel_rfl
theorem lifted (os : Os) (started : os.Started) (X : Type) (enc : TypeId × Value → X) :
    ReturnsInHanded {} Try.checked os 10 .any (Rows.surveyGoesSpec.pre6 enc Try.prog Try.f10 Rows.surveyGoesRow.domain false) (Rows.surveyGoesSpec.post enc Try.prog Try.f10 false true false false) := by
  refine KB.returnsInHanded_of_sized (enc := enc) (C := Try.checked) own started (by kernel_rfl) Try.func10
    (ChangeSpec.witness6 (enc := enc) (C := Try.checked) false ⟨#[], #[(.slice none 0 0), (.slice none 0 0), (.int .u16 0)], []⟩ 8 (by kernel_rfl) (by kernel_rfl) (by kernel_rfl) (by kernel_rfl)) ?_
  intro W base args ds gs before hval hW hsz
  refine law_post laidOut (Params.cons (OpensW.of op93) (by kernel_rfl) (by kernel_rfl) (of_decide_eq_true (by kernel_rfl)) (Params.cons (OpensW.of op102) (by kernel_rfl) (by kernel_rfl) (of_decide_eq_true (by kernel_rfl)) (Params.cons (OpensW.of op103) (by kernel_rfl) (by kernel_rfl) (of_decide_eq_true (by kernel_rfl)) Params.nil))) (fun x h => ok_f_law09_SurveyGoes _ x.1 x.2.1 x.2.2.1 _ (law_SurveyGoes x.1 x.2.1 x.2.2.1 h.1 h.2.1 h.2.2.1)) rfl Try.underlying4 rfl ?_ hval hW hsz
  intro X ds h
  match ds, h with
  | [d0, d1, d2], _ => exact ⟨rfl, rfl, rfl⟩
theorem over : Rows.surveyGoesRow.holds Try.pinned (OpenSpec.ofChange Rows.surveyGoesSpec) :=
  OpenClaim.holds_of_wide 10 Try.f10 rfl rfl rfl rfl rfl rfl rfl ⟨rfl, rfl, rfl, rfl, rfl⟩ rfl rfl rfl rfl rfl (by kernel_rfl) Try.func10 (by kernel_rfl)
    (of_decide_eq_true (by kernel_rfl)) (by unfold Func.isWrapper; first | (rw [if_pos (by decide +kernel)]; kernel_rfl) | (rw [if_neg (by decide +kernel)]; exact ⟨rfl, rfl⟩))
    (fun os started X enc _ => lifted os started X enc)
end Go.Proofs.Ytcpcedbnpieebaa.SurveyGoesRow
namespace Go.Proofs.Ytcpcedbnpieebaa
theorem provedSurveyGoes : Rows.SurveyGoesSaid := SurveyGoesRow.over
#print axioms provedSurveyGoes
end Go.Proofs.Ytcpcedbnpieebaa
