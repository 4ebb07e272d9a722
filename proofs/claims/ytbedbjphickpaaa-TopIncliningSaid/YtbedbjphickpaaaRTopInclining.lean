/- The statement, from the plain law. No condition. -/
import Derived.Test.YtbedbjphickpaaaRows
import Derived.Test.YtbedbjphickpaaaJTopInclining
import Derived.Test.YtbedbjphickpaaaLTopInclining
import Derived.WalkKit
import Derived.ProofKit
import Derived.OpenShut
namespace Go.Proofs.Ytbedbjphickpaaa.TopIncliningRow
open Go.KB Go.ChangeShapes Go.WideShapes Go.ChangeAt Go.RowKit
set_option maxRecDepth 100000
set_option maxHeartbeats 4000000
theorem laidOut : laidOutB Try.prog = true := by kernel_rfl
theorem own : ownKnob Try.prog.godebug = none := by kernel_rfl
theorem okl (x : GShip × GAttitude × (List Int) × Unit) (h : GShip.ok x.1 ∧ GAttitude.ok x.2.1 ∧ (gA 3 (gI .u16)) x.2.2.1 ∧ True) : FnOk Try.prog 3 [fV GShip.rep x.1, fV GAttitude.rep x.2.1, fV (Rep.arr r_u16 3) x.2.2.1] (fV Rep.bool true) :=
  ok_f_top_TopInclining _ x.1 x.2.1 x.2.2.1 _ (law_TopInclining x.1 x.2.1 x.2.2.1 h.1 h.2.1 h.2.2.1)
theorem lifted (os : Os) (started : os.Started) (X : Type) (enc : TypeId × Value → X) :
    ReturnsInHanded {} Try.checked os 3 .any (Rows.topIncliningSpec.pre6 enc Try.prog Try.f3 Rows.topIncliningRow.domain false) (Rows.topIncliningSpec.post enc Try.prog Try.f3 false true false false) := by
  refine KB.returnsInHanded_of_sized (enc := enc) (C := Try.checked) own started (by kernel_rfl) Try.func3
    (ChangeSpec.witness6 (enc := enc) (C := Try.checked) false ⟨#[], #[(.agg GShip.rep.zc.toArray), (.agg GAttitude.rep.zc.toArray), (.agg (Rep.arr r_u16 3).zc.toArray)], []⟩ 8 (by kernel_rfl) (by kernel_rfl) (by kernel_rfl) (by kernel_rfl)) ?_
  intro W base args ds gs before hval hW hsz
  refine law_post laidOut (Params.cons (OpensW.of op27) (by kernel_rfl) (by kernel_rfl) (of_decide_eq_true (by kernel_rfl)) (Params.cons (OpensW.of op34) (by kernel_rfl) (by kernel_rfl) (of_decide_eq_true (by kernel_rfl)) (Params.cons (OpensW.of op36) (by kernel_rfl) (by kernel_rfl) (of_decide_eq_true (by kernel_rfl)) Params.nil))) okl rfl Try.underlying4 rfl ?_ hval hW hsz
  intro X ds h
  match ds, h with
  | [d0, d1, d2], _ => exact ⟨rfl, rfl, rfl⟩
theorem over : Rows.topIncliningRow.holds Try.pinned (OpenSpec.ofChange Rows.topIncliningSpec) :=
  OpenClaim.holds_of_wide 3 Try.f3 rfl rfl rfl rfl rfl rfl rfl ⟨rfl, rfl, rfl, rfl, rfl⟩ rfl rfl rfl rfl rfl (by kernel_rfl) Try.func3 (by kernel_rfl)
    (of_decide_eq_true (by kernel_rfl)) (by unfold Func.isWrapper; first | (rw [if_pos (by decide +kernel)]; kernel_rfl) | (rw [if_neg (by decide +kernel)]; exact ⟨rfl, rfl⟩))
    (fun os started X enc _ => lifted os started X enc)
end Go.Proofs.Ytbedbjphickpaaa.TopIncliningRow
namespace Go.Proofs.Ytbedbjphickpaaa
theorem provedTopInclining : Rows.TopIncliningSaid := TopIncliningRow.over
#print axioms provedTopInclining
end Go.Proofs.Ytbedbjphickpaaa
