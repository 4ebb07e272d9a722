/- The statement, from the plain law. No condition. -/
import Derived.Test.YtbedbjphickpaaaGreatRows
import Derived.Test.YtbedbjphickpaaaGreatJHullSurveys
import Derived.Test.YtbedbjphickpaaaGreatLHullSurveys
import Derived.WalkKit
import Derived.ProofKit
import Derived.OpenShut
namespace Go.Proofs.YtbedbjphickpaaaGreat.HullSurveysRow
open Go.KB Go.ChangeShapes Go.WideShapes Go.ChangeAt Go.RowKit
set_option maxRecDepth 100000
set_option maxHeartbeats 4000000
theorem laidOut : laidOutB Tryz.prog = true := by kernel_rfl
theorem own : ownKnob Tryz.prog.godebug = none := by kernel_rfl
theorem okl (x : GMarks × Unit) (h : GMarks.ok x.1 ∧ True) : FnOk Tryz.prog 8 [fV GMarks.rep x.1] (fV Rep.bool true) :=
  ok_f_law02_HullSurveys _ x.1 _ (law_HullSurveys x.1 h.1)
theorem lifted (os : Os) (started : os.Started) (X : Type) (enc : TypeId × Value → X) :
    ReturnsInHanded {} Tryz.checked os 8 .any (Rows.hullSurveysSpec.pre6 enc Tryz.prog Tryz.f8 Rows.hullSurveysRow.domain false) (Rows.hullSurveysSpec.post enc Tryz.prog Tryz.f8 false true false false) := by
  refine KB.returnsInHanded_of_sized (enc := enc) (C := Tryz.checked) own started (by kernel_rfl) Tryz.func8
    (ChangeSpec.witness6 (enc := enc) (C := Tryz.checked) false ⟨#[], #[(.agg GMarks.rep.zc.toArray)], []⟩ 8 (by kernel_rfl) (by kernel_rfl) (by kernel_rfl) (by kernel_rfl)) ?_
  intro W base args ds gs before hval hW hsz
  refine law_post laidOut (Params.cons (OpensW.of op91) (by kernel_rfl) (by kernel_rfl) (of_decide_eq_true (by kernel_rfl)) Params.nil) okl rfl Tryz.underlying4 rfl ?_ hval hW hsz
  intro X ds h
  match ds, h with
  | [d0], _ => exact ⟨rfl, rfl, rfl⟩
theorem over : Rows.hullSurveysRow.holds Tryz.pinned (OpenSpec.ofChange Rows.hullSurveysSpec) :=
  OpenClaim.holds_of_wide 8 Tryz.f8 rfl rfl rfl rfl rfl rfl rfl ⟨rfl, rfl, rfl, rfl, rfl⟩ rfl rfl rfl rfl rfl (by kernel_rfl) Tryz.func8 (by kernel_rfl)
    (of_decide_eq_true (by kernel_rfl)) (by unfold Func.isWrapper; first | (rw [if_pos (by decide +kernel)]; kernel_rfl) | (rw [if_neg (by decide +kernel)]; exact ⟨rfl, rfl⟩))
    (fun os started X enc _ => lifted os started X enc)
end Go.Proofs.YtbedbjphickpaaaGreat.HullSurveysRow
namespace Go.Proofs.YtbedbjphickpaaaGreat
theorem provedHullSurveys : Rows.HullSurveysSaid := HullSurveysRow.over
#print axioms provedHullSurveys
end Go.Proofs.YtbedbjphickpaaaGreat
