/- The statement, from the plain law. No condition. -/
import Derived.Test.YtmkofmfndcoflaaRows
import Derived.Test.YtmkofmfndcoflaaJSurveyCovers
import Derived.Test.YtmkofmfndcoflaaLSurveyCovers
import Derived.Test.YtmkofmfndcoflaaFaSurveyCovers
import Derived.Test.YtmkofmfndcoflaaFbSurveyCovers
import Derived.Test.YtmkofmfndcoflaaFcSurveyCovers
import Derived.WalkKit
import Derived.ProofKit
import Derived.OpenShut
namespace Go.Proofs.Ytmkofmfndcoflaa.SurveyCoversRow
open Go.KB Go.ChangeShapes Go.WideShapes Go.ChangeAt Go.RowKit
set_option maxRecDepth 100000
set_option maxHeartbeats 4000000
theorem laidOut : laidOutB Try.prog = true := cfb
theorem own : ownKnob Try.prog.godebug = none := by kernel_rfl
theorem okl (x : GPanel × GRule × Int × Unit) (h : GPanel.ok x.1 ∧ GRule.ok x.2.1 ∧ (gI .u8) x.2.2.1 ∧ True) : FnOk Try.prog 5 [fV GPanel.rep x.1, fV GRule.rep x.2.1, fV r_u8 x.2.2.1] (fV Rep.bool true) :=
  ok_f_law09_SurveyCovers _ x.1 x.2.1 x.2.2.1 _ (law_SurveyCovers x.1 x.2.1 x.2.2.1 h.1 h.2.1 h.2.2.1)
theorem lifted (os : Os) (started : os.Started) (X : Type) (enc : TypeId × Value → X) :
    ReturnsInHanded {} Try.checked os 5 .any (Rows.surveyCoversSpec.pre6 enc Try.prog Try.f5 Rows.surveyCoversRow.domain false) (Rows.surveyCoversSpec.post enc Try.prog Try.f5 false true false false) := by
  refine KB.returnsInHanded_of_sized (enc := enc) (C := Try.checked) own started (by kernel_rfl) Try.func5
    (ChangeSpec.witness6 (enc := enc) (C := Try.checked) false ⟨#[], #[(.agg GPanel.rep.zc.toArray), (.agg GRule.rep.zc.toArray), (.int .u8 0)], []⟩ 8 (by kernel_rfl) (by kernel_rfl) (by kernel_rfl) (by kernel_rfl)) ?_
  intro W base args ds gs before hval hW hsz
  refine law_post laidOut (Params.cons (OpensW.of op39) (by kernel_rfl) (by kernel_rfl) (of_decide_eq_true (by kernel_rfl)) (Params.cons (OpensW.of op41) (by kernel_rfl) (by kernel_rfl) (of_decide_eq_true (by kernel_rfl)) (Params.cons (OpensW.of op5) (by kernel_rfl) (by kernel_rfl) (of_decide_eq_true (by kernel_rfl)) Params.nil))) okl rfl Try.underlying4 rfl ?_ hval hW hsz
  intro X ds h
  match ds, h with
  | [d0, d1, d2], _ => exact ⟨rfl, rfl, rfl⟩
theorem cf : joinedFacts Try.checked.prog 5 Try.f5 Rows.surveyCoversSpec Rows.surveyCoversRow = true := by
  unfold joinedFacts
  rw [cfb, cf0, cf1, cf2, cf3, cf4, cf5, cf6, cf7, cf8, cf9, cfa]
  kernel_rfl
theorem fnd : Try.checked.prog.funcNamed Rows.surveyCoversRow.func = some 5 := by kernel_rfl
theorem ins : Try.f5.isInstance Try.checked.prog Rows.surveyCoversRow.origin Rows.surveyCoversRow.targs := of_decide_eq_true (by kernel_rfl)
theorem wra : Try.f5.isWrapper Try.checked.prog Rows.surveyCoversRow.wrapper Rows.surveyCoversRow.mainSum := by
  unfold Func.isWrapper; first | (rw [if_pos (by decide +kernel)]; kernel_rfl) | (rw [if_neg (by decide +kernel)]; exact ⟨rfl, rfl⟩)
theorem over : Rows.surveyCoversRow.holds Try.pinned (OpenSpec.ofChange Rows.surveyCoversSpec) :=
  OpenClaim.holds_of_wide 5 Try.f5 rfl rfl rfl rfl rfl rfl rfl ⟨rfl, rfl, rfl, rfl, rfl⟩ rfl rfl rfl rfl rfl fnd Try.func5 cf ins wra
    (fun os started X enc _ => lifted os started X enc)
end Go.Proofs.Ytmkofmfndcoflaa.SurveyCoversRow
namespace Go.Proofs.Ytmkofmfndcoflaa
theorem provedSurveyCovers : Rows.SurveyCoversSaid := SurveyCoversRow.over
#print axioms provedSurveyCovers
end Go.Proofs.Ytmkofmfndcoflaa
