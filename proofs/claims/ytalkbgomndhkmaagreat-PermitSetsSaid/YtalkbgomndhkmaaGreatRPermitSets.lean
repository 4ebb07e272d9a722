/- The statement, from the plain law. No condition. -/
import Derived.Test.YtalkbgomndhkmaaGreatRows
import Derived.Test.YtalkbgomndhkmaaGreatJPermitSets
import Derived.Test.YtalkbgomndhkmaaGreatLPermitSets
import Derived.Test.YtalkbgomndhkmaaGreatFaPermitSets
import Derived.Test.YtalkbgomndhkmaaGreatFbPermitSets
import Derived.Test.YtalkbgomndhkmaaGreatFcPermitSets
import Derived.WalkKit
import Derived.ProofKit
import Derived.OpenShut
namespace Go.Proofs.YtalkbgomndhkmaaGreat.PermitSetsRow
open Go.KB Go.ChangeShapes Go.WideShapes Go.ChangeAt Go.RowKit
set_option maxRecDepth 100000
set_option maxHeartbeats 4000000
theorem laidOut : laidOutB Tryz.prog = true := cfb
theorem own : ownKnob Tryz.prog.godebug = none := by kernel_rfl
theorem okl (x : GPermitPlan × Unit) (h : GPermitPlan.ok x.1 ∧ True) : FnOk Tryz.prog 5 [fV GPermitPlan.rep x.1] (fV Rep.bool true) :=
  ok_f_law07_PermitSets _ x.1 _ (law_PermitSets x.1 h.1)
theorem lifted (os : Os) (started : os.Started) (X : Type) (enc : TypeId × Value → X) :
    ReturnsInHanded {} Tryz.checked os 5 .any (Rows.permitSetsSpec.pre6 enc Tryz.prog Tryz.f5 Rows.permitSetsRow.domain false) (Rows.permitSetsSpec.post enc Tryz.prog Tryz.f5 false true false false) := by
  refine KB.returnsInHanded_of_sized (enc := enc) (C := Tryz.checked) own started (by kernel_rfl) Tryz.func5
    (ChangeSpec.witness6 (enc := enc) (C := Tryz.checked) false ⟨#[], #[(.agg GPermitPlan.rep.zc.toArray)], []⟩ 8 (by kernel_rfl) (by kernel_rfl) (by kernel_rfl) (by kernel_rfl)) ?_
  intro W base args ds gs before hval hW hsz
  refine law_post laidOut (Params.cons (OpensW.of op26) (by kernel_rfl) (by kernel_rfl) (of_decide_eq_true (by kernel_rfl)) Params.nil) okl rfl Tryz.underlying4 rfl ?_ hval hW hsz
  intro X ds h
  match ds, h with
  | [d0], _ => exact ⟨rfl, rfl, rfl⟩
theorem cf : joinedFacts Tryz.checked.prog 5 Tryz.f5 Rows.permitSetsSpec Rows.permitSetsRow = true := by
  unfold joinedFacts
  rw [cfb, cf0, cf1, cf2, cf3, cf4, cf5, cf6, cf7, cf8, cf9, cfa]
  kernel_rfl
theorem fnd : Tryz.checked.prog.funcNamed Rows.permitSetsRow.func = some 5 := by kernel_rfl
theorem ins : Tryz.f5.isInstance Tryz.checked.prog Rows.permitSetsRow.origin Rows.permitSetsRow.targs := of_decide_eq_true (by kernel_rfl)
theorem wra : Tryz.f5.isWrapper Tryz.checked.prog Rows.permitSetsRow.wrapper Rows.permitSetsRow.mainSum := by
  unfold Func.isWrapper; first | (rw [if_pos (by decide +kernel)]; kernel_rfl) | (rw [if_neg (by decide +kernel)]; exact ⟨rfl, rfl⟩)
theorem over : Rows.permitSetsRow.holds Tryz.pinned (OpenSpec.ofChange Rows.permitSetsSpec) :=
  OpenClaim.holds_of_wide 5 Tryz.f5 rfl rfl rfl rfl rfl rfl rfl ⟨rfl, rfl, rfl, rfl, rfl⟩ rfl rfl rfl rfl rfl fnd Tryz.func5 cf ins wra
    (fun os started X enc _ => lifted os started X enc)
end Go.Proofs.YtalkbgomndhkmaaGreat.PermitSetsRow
namespace Go.Proofs.YtalkbgomndhkmaaGreat
theorem provedPermitSets : Rows.PermitSetsSaid := PermitSetsRow.over
#print axioms provedPermitSets
end Go.Proofs.YtalkbgomndhkmaaGreat
