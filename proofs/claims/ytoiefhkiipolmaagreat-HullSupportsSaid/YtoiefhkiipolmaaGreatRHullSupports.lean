/- The statement, from the plain law. No condition. -/
import Derived.Test.YtoiefhkiipolmaaGreatRows
import Derived.Test.YtoiefhkiipolmaaGreatJHullSupports
import Derived.Test.YtoiefhkiipolmaaGreatLHullSupports
import Derived.Test.YtoiefhkiipolmaaGreatFaHullSupports
import Derived.Test.YtoiefhkiipolmaaGreatFbHullSupports
import Derived.Test.YtoiefhkiipolmaaGreatFcHullSupports
import Derived.WalkKit
import Derived.ProofKit
import Derived.OpenShut
namespace Go.Proofs.YtoiefhkiipolmaaGreat.HullSupportsRow
open Go.KB Go.ChangeShapes Go.WideShapes Go.ChangeAt Go.RowKit
set_option maxRecDepth 100000
set_option maxHeartbeats 4000000
theorem laidOut : laidOutB Tryz.prog = true := cfb
theorem own : ownKnob Tryz.prog.godebug = none := by kernel_rfl
theorem okl (x : GShip × GAttitude × Int × Unit) (h : GShip.ok x.1 ∧ GAttitude.ok x.2.1 ∧ (gI .i64) x.2.2.1 ∧ True) : FnOk Tryz.prog 4 [fV GShip.rep x.1, fV GAttitude.rep x.2.1, fV r_i64 x.2.2.1] (fV Rep.bool true) :=
  ok_f_law02_HullSupports _ x.1 x.2.1 x.2.2.1 _ (law_HullSupports x.1 x.2.1 x.2.2.1 h.1 h.2.1 h.2.2.1)
theorem lifted (os : Os) (started : os.Started) (X : Type) (enc : TypeId × Value → X) :
    ReturnsInHanded {} Tryz.checked os 4 .any (Rows.hullSupportsSpec.pre6 enc Tryz.prog Tryz.f4 Rows.hullSupportsRow.domain false) (Rows.hullSupportsSpec.post enc Tryz.prog Tryz.f4 false true false false) := by
  refine KB.returnsInHanded_of_sized (enc := enc) (C := Tryz.checked) own started (by kernel_rfl) Tryz.func4
    (ChangeSpec.witness6 (enc := enc) (C := Tryz.checked) false ⟨#[], #[(.agg GShip.rep.zc.toArray), (.agg GAttitude.rep.zc.toArray), (.int .i64 0)], []⟩ 8 (by kernel_rfl) (by kernel_rfl) (by kernel_rfl) (by kernel_rfl)) ?_
  intro W base args ds gs before hval hW hsz
  refine law_post laidOut (Params.cons (OpensW.of op27) (by kernel_rfl) (by kernel_rfl) (of_decide_eq_true (by kernel_rfl)) (Params.cons (OpensW.of op34) (by kernel_rfl) (by kernel_rfl) (of_decide_eq_true (by kernel_rfl)) (Params.cons (OpensW.of op3) (by kernel_rfl) (by kernel_rfl) (of_decide_eq_true (by kernel_rfl)) Params.nil))) okl rfl Tryz.underlying4 rfl ?_ hval hW hsz
  intro X ds h
  match ds, h with
  | [d0, d1, d2], _ => exact ⟨rfl, rfl, rfl⟩
theorem cf : joinedFacts Tryz.checked.prog 4 Tryz.f4 Rows.hullSupportsSpec Rows.hullSupportsRow = true := by
  unfold joinedFacts
  rw [cfb, cf0, cf1, cf2, cf3, cf4, cf5, cf6, cf7, cf8, cf9, cfa]
  kernel_rfl
theorem fnd : Tryz.checked.prog.funcNamed Rows.hullSupportsRow.func = some 4 := by kernel_rfl
theorem ins : Tryz.f4.isInstance Tryz.checked.prog Rows.hullSupportsRow.origin Rows.hullSupportsRow.targs := of_decide_eq_true (by kernel_rfl)
theorem wra : Tryz.f4.isWrapper Tryz.checked.prog Rows.hullSupportsRow.wrapper Rows.hullSupportsRow.mainSum := by
  unfold Func.isWrapper; first | (rw [if_pos (by decide +kernel)]; kernel_rfl) | (rw [if_neg (by decide +kernel)]; exact ⟨rfl, rfl⟩)
theorem over : Rows.hullSupportsRow.holds Tryz.pinned (OpenSpec.ofChange Rows.hullSupportsSpec) :=
  OpenClaim.holds_of_wide 4 Tryz.f4 rfl rfl rfl rfl rfl rfl rfl ⟨rfl, rfl, rfl, rfl, rfl⟩ rfl rfl rfl rfl rfl fnd Tryz.func4 cf ins wra
    (fun os started X enc _ => lifted os started X enc)
end Go.Proofs.YtoiefhkiipolmaaGreat.HullSupportsRow
namespace Go.Proofs.YtoiefhkiipolmaaGreat
theorem provedHullSupports : Rows.HullSupportsSaid := HullSupportsRow.over
#print axioms provedHullSupports
end Go.Proofs.YtoiefhkiipolmaaGreat
