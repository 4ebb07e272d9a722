/- The statement, from the plain law. No condition. -/
import Derived.Test.YtcpcedbnpieebaaRows
import Derived.Test.YtcpcedbnpieebaaJSurveyCoats
import Derived.Test.YtcpcedbnpieebaaLSurveyCoats
import Derived.WalkKit
import Derived.ProofKit
import Derived.OpenShut
namespace Go.Proofs.Ytcpcedbnpieebaa.SurveyCoatsRow
open Go.KB Go.ChangeShapes Go.WideShapes Go.ChangeAt Go.RowKit
set_option maxRecDepth 100000
set_option maxHeartbeats 4000000
theorem laidOut : laidOutB Try.prog = true := by kernel_rfl
theorem own : ownKnob Try.prog.godebug = none := by kernel_rfl
theorem okl (x : (List GCoat) × GCoat × (List Int) × Unit) (h : ((gL GCoat.ok) x.1 ∧ x.1.length * Try.prog.bytesOf 95 ≤ reachBytes) ∧ GCoat.ok x.2.1 ∧ ((gL (gI .i64)) x.2.2.1 ∧ x.2.2.1.length * Try.prog.bytesOf 3 ≤ reachBytes) ∧ True) : FnOk Try.prog 9 [fV (Rep.slice GCoat.rep) x.1, fV GCoat.rep x.2.1, fV (Rep.slice r_i64) x.2.2.1] (fV Rep.bool true) :=
  ok_f_law09_SurveyCoats _ x.1 x.2.1 x.2.2.1 _ (law_SurveyCoats x.1 x.2.1 x.2.2.1 h.1.1 (reach_bytes (b := 48) (by kernel_rfl) h.1.2) h.2.1 h.2.2.1.1 (reach_bytes (b := 8) (by kernel_rfl) h.2.2.1.2))
theorem lifted (os : Os) (started : os.Started) (X : Type) (enc : TypeId × Value → X) :
    ReturnsInHanded {} Try.checked os 9 .any (Rows.surveyCoatsSpec.pre6 enc Try.prog Try.f9 Rows.surveyCoatsRow.domain false) (Rows.surveyCoatsSpec.post enc Try.prog Try.f9 false true false false) := by
  refine KB.returnsInHanded_of_sized (enc := enc) (C := Try.checked) own started (by kernel_rfl) Try.func9
    (ChangeSpec.witness6 (enc := enc) (C := Try.checked) false ⟨#[], #[(.slice none 0 0), (.agg GCoat.rep.zc.toArray), (.slice none 0 0)], []⟩ 8 (by kernel_rfl) (by kernel_rfl) (by kernel_rfl) (by kernel_rfl)) ?_
  intro W base args ds gs before hval hW hsz
  refine law_post laidOut (Params.cons (OpensW.slice un93 op93) (by kernel_rfl) (by kernel_rfl) (of_decide_eq_true (by kernel_rfl)) (Params.cons (OpensW.of op95) (by kernel_rfl) (by kernel_rfl) (of_decide_eq_true (by kernel_rfl)) (Params.cons (OpensW.slice un22 op22) (by kernel_rfl) (by kernel_rfl) (of_decide_eq_true (by kernel_rfl)) Params.nil))) okl rfl Try.underlying4 rfl ?_ hval hW hsz
  intro X ds h
  match ds, h with
  | [d0, d1, d2], _ => exact ⟨rfl, rfl, rfl⟩
theorem over : Rows.surveyCoatsRow.holds Try.pinned (OpenSpec.ofChange Rows.surveyCoatsSpec) :=
  OpenClaim.holds_of_wide 9 Try.f9 rfl rfl rfl rfl rfl rfl rfl ⟨rfl, rfl, rfl, rfl, rfl⟩ rfl rfl rfl rfl rfl (by kernel_rfl) Try.func9 (by kernel_rfl)
    (of_decide_eq_true (by kernel_rfl)) (by unfold Func.isWrapper; first | (rw [if_pos (by decide +kernel)]; kernel_rfl) | (rw [if_neg (by decide +kernel)]; exact ⟨rfl, rfl⟩))
    (fun os started X enc _ => lifted os started X enc)
end Go.Proofs.Ytcpcedbnpieebaa.SurveyCoatsRow
namespace Go.Proofs.Ytcpcedbnpieebaa
theorem provedSurveyCoats : Rows.SurveyCoatsSaid := SurveyCoatsRow.over
#print axioms provedSurveyCoats
end Go.Proofs.Ytcpcedbnpieebaa
