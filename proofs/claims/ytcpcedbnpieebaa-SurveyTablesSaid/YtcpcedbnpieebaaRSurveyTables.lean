/- The statement, from the plain law. No condition. -/
import Derived.Test.YtcpcedbnpieebaaRows
import Derived.Test.YtcpcedbnpieebaaJSurveyTables
import Derived.Test.YtcpcedbnpieebaaLSurveyTables
import Derived.WalkKit
import Derived.ProofKit
import Derived.OpenShut
namespace Go.Proofs.Ytcpcedbnpieebaa.SurveyTablesRow
open Go.KB Go.ChangeShapes Go.WideShapes Go.ChangeAt Go.RowKit
set_option maxRecDepth 100000
set_option maxHeartbeats 4000000
theorem laidOut : laidOutB Try.prog = true := by kernel_rfl
theorem own : ownKnob Try.prog.godebug = none := by kernel_rfl
theorem lifted (os : Os) (started : os.Started) (X : Type) (enc : TypeId × Value → X) :
    ReturnsInHanded {} Try.checked os 7 .any (Rows.surveyTablesSpec.pre6 enc Try.prog Try.f7 Rows.surveyTablesRow.domain false) (Rows.surveyTablesSpec.post enc Try.prog Try.f7 false true false false) := by
  refine KB.returnsInHanded_of_sized (enc := enc) (C := Try.checked) own started (by kernel_rfl) Try.func7
    (ChangeSpec.witness6 (enc := enc) (C := Try.checked) false ⟨#[], #[(.slice none 0 0), (.agg GRat.rep.zc.toArray)], []⟩ 8 (by kernel_rfl) (by kernel_rfl) (by kernel_rfl) (by kernel_rfl)) ?_
  intro W base args ds gs before hval hW hsz
  refine law_post laidOut (Params.cons (OpensW.of op73) (by kernel_rfl) (by kernel_rfl) (of_decide_eq_true (by kernel_rfl)) (Params.cons (OpensW.of op49) (by kernel_rfl) (by kernel_rfl) (of_decide_eq_true (by kernel_rfl)) Params.nil)) (fun x h => ok_f_law09_SurveyTables _ x.1 x.2.1 _ (law_SurveyTables x.1 x.2.1 h.1 h.2.1)) rfl Try.underlying4 rfl ?_ hval hW hsz
  intro X ds h
  match ds, h with
  | [d0, d1], _ => exact ⟨rfl, rfl, rfl⟩
theorem over : Rows.surveyTablesRow.holds Try.pinned (OpenSpec.ofChange Rows.surveyTablesSpec) :=
  OpenClaim.holds_of_wide 7 Try.f7 rfl rfl rfl rfl rfl rfl rfl ⟨rfl, rfl, rfl, rfl, rfl⟩ rfl rfl rfl rfl rfl (by kernel_rfl) Try.func7 (by kernel_rfl)
    (of_decide_eq_true (by kernel_rfl)) (by unfold Func.isWrapper; first | (rw [if_pos (by decide +kernel)]; kernel_rfl) | (rw [if_neg (by decide +kernel)]; exact ⟨rfl, rfl⟩))
    (fun os started X enc _ => lifted os started X enc)
end Go.Proofs.Ytcpcedbnpieebaa.SurveyTablesRow
namespace Go.Proofs.Ytcpcedbnpieebaa
theorem provedSurveyTables : Rows.SurveyTablesSaid := SurveyTablesRow.over
#print axioms provedSurveyTables
end Go.Proofs.Ytcpcedbnpieebaa
