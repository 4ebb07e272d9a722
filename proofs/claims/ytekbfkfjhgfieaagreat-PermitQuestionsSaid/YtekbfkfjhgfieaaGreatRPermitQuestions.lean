/- The statement, from the plain law. No condition. -/
import Derived.Test.YtekbfkfjhgfieaaGreatRows
import Derived.Test.YtekbfkfjhgfieaaGreatJPermitQuestions
import Derived.Test.YtekbfkfjhgfieaaGreatLPermitQuestions
import Derived.Test.YtekbfkfjhgfieaaGreatFaPermitQuestions
import Derived.Test.YtekbfkfjhgfieaaGreatFbPermitQuestions
import Derived.Test.YtekbfkfjhgfieaaGreatFcPermitQuestions
import Derived.WalkKit
import Derived.ProofKit
import Derived.OpenShut
namespace Go.Proofs.YtekbfkfjhgfieaaGreat.PermitQuestionsRow
open Go.KB Go.ChangeShapes Go.WideShapes Go.ChangeAt Go.RowKit
set_option maxRecDepth 100000
set_option maxHeartbeats 4000000
theorem laidOut : laidOutB Tryz.prog = true := cfb
theorem own : ownKnob Tryz.prog.godebug = none := by kernel_rfl
theorem okl (x : GPermitPlan × (List GEvent) × Str × Unit) (h : GPermitPlan.ok x.1 ∧ (gL GEvent.ok) x.2.1 ∧ gS x.2.2.1 ∧ True) : FnOk Tryz.prog 12 [fV GPermitPlan.rep x.1, fV (Rep.slice GEvent.rep) x.2.1, fV Rep.str x.2.2.1] (fV Rep.bool true) :=
  ok_f_law07_PermitQuestions _ x.1 x.2.1 x.2.2.1 _ (law_PermitQuestions x.1 x.2.1 x.2.2.1 h.1 h.2.1 h.2.2.1)
theorem lifted (os : Os) (started : os.Started) (X : Type) (enc : TypeId × Value → X) :
    ReturnsInHanded {} Tryz.checked os 12 .any (Rows.permitQuestionsSpec.pre6 enc Tryz.prog Tryz.f12 Rows.permitQuestionsRow.domain false) (Rows.permitQuestionsSpec.post enc Tryz.prog Tryz.f12 false true false false) := by
  refine KB.returnsInHanded_of_sized (enc := enc) (C := Tryz.checked) own started (by kernel_rfl) Tryz.func12
    (ChangeSpec.witness6 (enc := enc) (C := Tryz.checked) false ⟨#[], #[(.agg GPermitPlan.rep.zc.toArray), (.slice none 0 0), (.string ⟨#[]⟩)], []⟩ 8 (by kernel_rfl) (by kernel_rfl) (by kernel_rfl) (by kernel_rfl)) ?_
  intro W base args ds gs before hval hW hsz
  refine law_post laidOut (Params.cons (OpensW.of op26) (by kernel_rfl) (by kernel_rfl) (of_decide_eq_true (by kernel_rfl)) (Params.cons (OpensW.of op27) (by kernel_rfl) (by kernel_rfl) (of_decide_eq_true (by kernel_rfl)) (Params.cons (OpensW.of op9) (by kernel_rfl) (by kernel_rfl) (of_decide_eq_true (by kernel_rfl)) Params.nil))) okl rfl Tryz.underlying4 rfl ?_ hval hW hsz
  intro X ds h
  match ds, h with
  | [d0, d1, d2], _ => exact ⟨rfl, rfl, rfl⟩
theorem cf : joinedFacts Tryz.checked.prog 12 Tryz.f12 Rows.permitQuestionsSpec Rows.permitQuestionsRow = true := by
  unfold joinedFacts
  rw [cfb, cf0, cf1, cf2, cf3, cf4, cf5, cf6, cf7, cf8, cf9, cfa]
  kernel_rfl
theorem fnd : Tryz.checked.prog.funcNamed Rows.permitQuestionsRow.func = some 12 := by kernel_rfl
theorem ins : Tryz.f12.isInstance Tryz.checked.prog Rows.permitQuestionsRow.origin Rows.permitQuestionsRow.targs := of_decide_eq_true (by kernel_rfl)
theorem wra : Tryz.f12.isWrapper Tryz.checked.prog Rows.permitQuestionsRow.wrapper Rows.permitQuestionsRow.mainSum := by
  unfold Func.isWrapper; first | (rw [if_pos (by decide +kernel)]; kernel_rfl) | (rw [if_neg (by decide +kernel)]; exact ⟨rfl, rfl⟩)
theorem over : Rows.permitQuestionsRow.holds Tryz.pinned (OpenSpec.ofChange Rows.permitQuestionsSpec) :=
  OpenClaim.holds_of_wide 12 Tryz.f12 rfl rfl rfl rfl rfl rfl rfl ⟨rfl, rfl, rfl, rfl, rfl⟩ rfl rfl rfl rfl rfl fnd Tryz.func12 cf ins wra
    (fun os started X enc _ => lifted os started X enc)
end Go.Proofs.YtekbfkfjhgfieaaGreat.PermitQuestionsRow
namespace Go.Proofs.YtekbfkfjhgfieaaGreat
theorem provedPermitQuestions : Rows.PermitQuestionsSaid := PermitQuestionsRow.over
#print axioms provedPermitQuestions
end Go.Proofs.YtekbfkfjhgfieaaGreat
