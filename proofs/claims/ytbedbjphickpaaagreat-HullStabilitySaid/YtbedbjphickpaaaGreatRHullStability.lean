/- The statement, from the plain law. No condition. -/
import Derived.Test.YtbedbjphickpaaaGreatRows
import Derived.Test.YtbedbjphickpaaaGreatJHullStability
import Derived.Test.YtbedbjphickpaaaGreatLHullStability
import Derived.WalkKit
import Derived.ProofKit
import Derived.OpenShut
namespace Go.Proofs.YtbedbjphickpaaaGreat.HullStabilityRow
open Go.KB Go.ChangeShapes Go.WideShapes Go.ChangeAt Go.RowKit
set_option maxRecDepth 100000
set_option maxHeartbeats 4000000
theorem laidOut : laidOutB Tryz.prog = true := by kernel_rfl
theorem own : ownKnob Tryz.prog.godebug = none := by kernel_rfl
theorem okl (x : GShip × GAttitude × GRaised × Unit) (h : GShip.ok x.1 ∧ GAttitude.ok x.2.1 ∧ GRaised.ok x.2.2.1 ∧ True) : FnOk Tryz.prog 5 [fV GShip.rep x.1, fV GAttitude.rep x.2.1, fV GRaised.rep x.2.2.1] (fV Rep.bool true) :=
  ok_f_law02_HullStability _ x.1 x.2.1 x.2.2.1 _ (law_HullStability x.1 x.2.1 x.2.2.1 h.1 h.2.1 h.2.2.1)
theorem lifted (os : Os) (started : os.Started) (X : Type) (enc : TypeId × Value → X) :
    ReturnsInHanded {} Tryz.checked os 5 .any (Rows.hullStabilitySpec.pre6 enc Tryz.prog Tryz.f5 Rows.hullStabilityRow.domain false) (Rows.hullStabilitySpec.post enc Tryz.prog Tryz.f5 false true false false) := by
  refine KB.returnsInHanded_of_sized (enc := enc) (C := Tryz.checked) own started (by kernel_rfl) Tryz.func5
    (ChangeSpec.witness6 (enc := enc) (C := Tryz.checked) false ⟨#[], #[(.agg GShip.rep.zc.toArray), (.agg GAttitude.rep.zc.toArray), (.agg GRaised.rep.zc.toArray)], []⟩ 8 (by kernel_rfl) (by kernel_rfl) (by kernel_rfl) (by kernel_rfl)) ?_
  intro W base args ds gs before hval hW hsz
  refine law_post laidOut (Params.cons (OpensW.of op27) (by kernel_rfl) (by kernel_rfl) (of_decide_eq_true (by kernel_rfl)) (Params.cons (OpensW.of op34) (by kernel_rfl) (by kernel_rfl) (of_decide_eq_true (by kernel_rfl)) (Params.cons (OpensW.of op60) (by kernel_rfl) (by kernel_rfl) (of_decide_eq_true (by kernel_rfl)) Params.nil))) okl rfl Tryz.underlying4 rfl ?_ hval hW hsz
  intro X ds h
  match ds, h with
  | [d0, d1, d2], _ => exact ⟨rfl, rfl, rfl⟩
theorem over : Rows.hullStabilityRow.holds Tryz.pinned (OpenSpec.ofChange Rows.hullStabilitySpec) :=
  OpenClaim.holds_of_wide 5 Tryz.f5 rfl rfl rfl rfl rfl rfl rfl ⟨rfl, rfl, rfl, rfl, rfl⟩ rfl rfl rfl rfl rfl (by kernel_rfl) Tryz.func5 (by kernel_rfl)
    (of_decide_eq_true (by kernel_rfl)) (by unfold Func.isWrapper; first | (rw [if_pos (by decide +kernel)]; kernel_rfl) | (rw [if_neg (by decide +kernel)]; exact ⟨rfl, rfl⟩))
    (fun os started X enc _ => lifted os started X enc)
end Go.Proofs.YtbedbjphickpaaaGreat.HullStabilityRow
namespace Go.Proofs.YtbedbjphickpaaaGreat
theorem provedHullStability : Rows.HullStabilitySaid := HullStabilityRow.over
#print axioms provedHullStability
end Go.Proofs.YtbedbjphickpaaaGreat
