/- The statement, from the plain law. No condition. -/
import Derived.Test.YtalkbgomndhkmaaGreatRows
import Derived.Test.YtalkbgomndhkmaaGreatJTopReachedSets
import Derived.Test.YtalkbgomndhkmaaGreatLTopReachedSets
import Derived.Test.YtalkbgomndhkmaaGreatFaTopReachedSets
import Derived.Test.YtalkbgomndhkmaaGreatFbTopReachedSets
import Derived.Test.YtalkbgomndhkmaaGreatFcTopReachedSets
import Derived.WalkKit
import Derived.ProofKit
import Derived.OpenShut
namespace Go.Proofs.YtalkbgomndhkmaaGreat.TopReachedSetsRow
open Go.KB Go.ChangeShapes Go.WideShapes Go.ChangeAt Go.RowKit
set_option maxRecDepth 100000
set_option maxHeartbeats 4000000
theorem laidOut : laidOutB Tryz.prog = true := cfb
theorem own : ownKnob Tryz.prog.godebug = none := by kernel_rfl
theorem okl (x : GPermitPlan × Int × Unit) (h : GPermitPlan.ok x.1 ∧ (gI .i64) x.2.1 ∧ True) : FnOk Tryz.prog 8 [fV GPermitPlan.rep x.1, fV r_i64 x.2.1] (fV Rep.bool true) :=
  ok_f_top_TopReachedSets _ x.1 x.2.1 _ (law_TopReachedSets x.1 x.2.1 h.1 h.2.1)
theorem lifted (os : Os) (started : os.Started) (X : Type) (enc : TypeId × Value → X) :
    ReturnsInHanded {} Tryz.checked os 8 .any (Rows.topReachedSetsSpec.pre6 enc Tryz.prog Tryz.f8 Rows.topReachedSetsRow.domain false) (Rows.topReachedSetsSpec.post enc Tryz.prog Tryz.f8 false true false false) := by
  refine KB.returnsInHanded_of_sized (enc := enc) (C := Tryz.checked) own started (by kernel_rfl) Tryz.func8
    (ChangeSpec.witness6 (enc := enc) (C := Tryz.checked) false ⟨#[], #[(.agg GPermitPlan.rep.zc.toArray), (.int .i64 0)], []⟩ 8 (by kernel_rfl) (by kernel_rfl) (by kernel_rfl) (by kernel_rfl)) ?_
  intro W base args ds gs before hval hW hsz
  refine law_post laidOut (Params.cons (OpensW.of op26) (by kernel_rfl) (by kernel_rfl) (of_decide_eq_true (by kernel_rfl)) (Params.cons (OpensW.of op3) (by kernel_rfl) (by kernel_rfl) (of_decide_eq_true (by kernel_rfl)) Params.nil)) okl rfl Tryz.underlying4 rfl ?_ hval hW hsz
  intro X ds h
  match ds, h with
  | [d0, d1], _ => exact ⟨rfl, rfl, rfl⟩
theorem cf : joinedFacts Tryz.checked.prog 8 Tryz.f8 Rows.topReachedSetsSpec Rows.topReachedSetsRow = true := by
  unfold joinedFacts
  rw [cfb, cf0, cf1, cf2, cf3, cf4, cf5, cf6, cf7, cf8, cf9, cfa]
  kernel_rfl
theorem fnd : Tryz.checked.prog.funcNamed Rows.topReachedSetsRow.func = some 8 := by kernel_rfl
theorem ins : Tryz.f8.isInstance Tryz.checked.prog Rows.topReachedSetsRow.origin Rows.topReachedSetsRow.targs := of_decide_eq_true (by kernel_rfl)
theorem wra : Tryz.f8.isWrapper Tryz.checked.prog Rows.topReachedSetsRow.wrapper Rows.topReachedSetsRow.mainSum := by
  unfold Func.isWrapper; first | (rw [if_pos (by decide +kernel)]; kernel_rfl) | (rw [if_neg (by decide +kernel)]; exact ⟨rfl, rfl⟩)
theorem over : Rows.topReachedSetsRow.holds Tryz.pinned (OpenSpec.ofChange Rows.topReachedSetsSpec) :=
  OpenClaim.holds_of_wide 8 Tryz.f8 rfl rfl rfl rfl rfl rfl rfl ⟨rfl, rfl, rfl, rfl, rfl⟩ rfl rfl rfl rfl rfl fnd Tryz.func8 cf ins wra
    (fun os started X enc _ => lifted os started X enc)
end Go.Proofs.YtalkbgomndhkmaaGreat.TopReachedSetsRow
namespace Go.Proofs.YtalkbgomndhkmaaGreat
theorem provedTopReachedSets : Rows.TopReachedSetsSaid := TopReachedSetsRow.over
#print axioms provedTopReachedSets
end Go.Proofs.YtalkbgomndhkmaaGreat
