/- The statement, from the plain law. No condition. -/
import Derived.Test.YtcpcedbnpieebaaRows
import Derived.Test.YtcpcedbnpieebaaJSurveyClearances
import Derived.Test.YtcpcedbnpieebaaLSurveyClearances
import Derived.WalkKit
import Derived.ProofKit
import Derived.OpenShut
namespace Go.Proofs.Ytcpcedbnpieebaa.SurveyClearancesRow
open Go.KB Go.ChangeShapes Go.WideShapes Go.ChangeAt Go.RowKit
set_option maxRecDepth 100000
set_option maxHeartbeats 4000000
theorem laidOut : laidOutB Try.prog = true := by kernel_rfl
theorem own : ownKnob Try.prog.godebug = none := by kernel_rfl
theorem lifted (os : Os) (started : os.Started) (X : Type) (enc : TypeId × Value → X) :
    ReturnsInHanded {} Try.checked os 8 .any (Rows.surveyClearancesSpec.pre6 enc Try.prog Try.f8 Rows.surveyClearancesRow.domain false) (Rows.surveyClearancesSpec.post enc Try.prog Try.f8 false true false false) := by
  refine returnsInHanded_of_change (C := Try.checked) own started (by kernel_rfl) Try.func8
    (ChangeSpec.witness6 (enc := enc) (C := Try.checked) false ⟨#[], #[(.slice none 0 0), (.slice none 0 0), (.int .i64 0)], []⟩ 8 (by kernel_rfl) (by kernel_rfl) (by kernel_rfl) (by kernel_rfl)) ?_
  intro W base args ds gs before hval hW hcnd _
  refine law_post laidOut (Params.cons op81 (by kernel_rfl) (by kernel_rfl) (of_decide_eq_true (by kernel_rfl)) (Params.cons op82 (by kernel_rfl) (by kernel_rfl) (of_decide_eq_true (by kernel_rfl)) (Params.cons op3 (by kernel_rfl) (by kernel_rfl) (of_decide_eq_true (by kernel_rfl)) Params.nil))) (fun x h => ok_f_law09_SurveyClearances _ x.1 x.2.1 x.2.2.1 _ (law_SurveyClearances x.1 x.2.1 x.2.2.1 h.1 h.2.1 h.2.2.1)) rfl Try.underlying4 rfl ?_ hval hW
  intro X ds h
  match ds, h with
  | [d0, d1, d2], _ => exact ⟨rfl, rfl, rfl⟩
theorem over : Rows.surveyClearancesRow.holds Try.pinned (OpenSpec.ofChange Rows.surveyClearancesSpec) :=
  OpenClaim.holds_of_wide 8 Try.f8 rfl rfl rfl rfl rfl rfl rfl ⟨rfl, rfl, rfl, rfl, rfl⟩ rfl rfl rfl rfl rfl (by kernel_rfl) Try.func8 (by kernel_rfl)
    (of_decide_eq_true (by kernel_rfl)) (by unfold Func.isWrapper; first | (rw [if_pos (by decide +kernel)]; kernel_rfl) | (rw [if_neg (by decide +kernel)]; exact ⟨rfl, rfl⟩))
    (fun os started X enc _ => lifted os started X enc)
end Go.Proofs.Ytcpcedbnpieebaa.SurveyClearancesRow
namespace Go.Proofs.Ytcpcedbnpieebaa
theorem provedSurveyClearances : Rows.SurveyClearancesSaid := SurveyClearancesRow.over
#print axioms provedSurveyClearances
end Go.Proofs.Ytcpcedbnpieebaa
