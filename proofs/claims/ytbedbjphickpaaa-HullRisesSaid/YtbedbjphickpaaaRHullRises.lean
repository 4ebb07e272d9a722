/- The statement, from the plain law. No condition. -/
import Derived.Test.YtbedbjphickpaaaRows
import Derived.Test.YtbedbjphickpaaaJHullRises
import Derived.Test.YtbedbjphickpaaaLHullRises
import Derived.WalkKit
import Derived.ProofKit
import Derived.OpenShut
namespace Go.Proofs.Ytbedbjphickpaaa.HullRisesRow
open Go.KB Go.ChangeShapes Go.WideShapes Go.ChangeAt Go.RowKit
set_option maxRecDepth 100000
set_option maxHeartbeats 4000000
theorem laidOut : laidOutB Try.prog = true := by kernel_rfl
theorem own : ownKnob Try.prog.godebug = none := by kernel_rfl
theorem okl (x : GShip × GAttitude × Int × Unit) (h : GShip.ok x.1 ∧ GAttitude.ok x.2.1 ∧ (gI .u16) x.2.2.1 ∧ True) : FnOk Try.prog 5 [fV GShip.rep x.1, fV GAttitude.rep x.2.1, fV r_u16 x.2.2.1] (fV Rep.bool true) :=
  ok_f_law02_HullRises _ x.1 x.2.1 x.2.2.1 _ (law_HullRises x.1 x.2.1 x.2.2.1 h.1 h.2.1 h.2.2.1)
theorem lifted (os : Os) (started : os.Started) (X : Type) (enc : TypeId × Value → X) :
    ReturnsInHanded {} Try.checked os 5 .any (Rows.hullRisesSpec.pre6 enc Try.prog Try.f5 Rows.hullRisesRow.domain false) (Rows.hullRisesSpec.post enc Try.prog Try.f5 false true false false) := by
  refine KB.returnsInHanded_of_sized (enc := enc) (C := Try.checked) own started (by kernel_rfl) Try.func5
    (ChangeSpec.witness6 (enc := enc) (C := Try.checked) false ⟨#[], #[(.agg GShip.rep.zc.toArray), (.agg GAttitude.rep.zc.toArray), (.int .u16 0)], []⟩ 8 (by kernel_rfl) (by kernel_rfl) (by kernel_rfl) (by kernel_rfl)) ?_
  intro W base args ds gs before hval hW hsz
  refine law_post laidOut (Params.cons (OpensW.of op27) (by kernel_rfl) (by kernel_rfl) (of_decide_eq_true (by kernel_rfl)) (Params.cons (OpensW.of op34) (by kernel_rfl) (by kernel_rfl) (of_decide_eq_true (by kernel_rfl)) (Params.cons (OpensW.of op35) (by kernel_rfl) (by kernel_rfl) (of_decide_eq_true (by kernel_rfl)) Params.nil))) okl rfl Try.underlying4 rfl ?_ hval hW hsz
  intro X ds h
  match ds, h with
  | [d0, d1, d2], _ => exact ⟨rfl, rfl, rfl⟩
theorem over : Rows.hullRisesRow.holds Try.pinned (OpenSpec.ofChange Rows.hullRisesSpec) :=
  OpenClaim.holds_of_wide 5 Try.f5 rfl rfl rfl rfl rfl rfl rfl ⟨rfl, rfl, rfl, rfl, rfl⟩ rfl rfl rfl rfl rfl (by kernel_rfl) Try.func5 (by kernel_rfl)
    (of_decide_eq_true (by kernel_rfl)) (by unfold Func.isWrapper; first | (rw [if_pos (by decide +kernel)]; kernel_rfl) | (rw [if_neg (by decide +kernel)]; exact ⟨rfl, rfl⟩))
    (fun os started X enc _ => lifted os started X enc)
end Go.Proofs.Ytbedbjphickpaaa.HullRisesRow
namespace Go.Proofs.Ytbedbjphickpaaa
theorem provedHullRises : Rows.HullRisesSaid := HullRisesRow.over
#print axioms provedHullRises
end Go.Proofs.Ytbedbjphickpaaa
