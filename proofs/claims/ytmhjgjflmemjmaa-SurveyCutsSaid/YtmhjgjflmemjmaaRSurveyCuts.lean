/- The statement, from the plain law. No condition. -/
import Derived.Test.YtmhjgjflmemjmaaRows
import Derived.Test.YtmhjgjflmemjmaaJSurveyCuts
import Derived.Test.YtmhjgjflmemjmaaLSurveyCuts
import Derived.Test.YtmhjgjflmemjmaaFaSurveyCuts
import Derived.Test.YtmhjgjflmemjmaaFbSurveyCuts
import Derived.Test.YtmhjgjflmemjmaaFcSurveyCuts
import Derived.WalkKit
import Derived.ProofKit
import Derived.OpenShut
namespace Go.Proofs.Ytmhjgjflmemjmaa.SurveyCutsRow
open Go.KB Go.ChangeShapes Go.WideShapes Go.ChangeAt Go.RowKit
set_option maxRecDepth 100000
set_option maxHeartbeats 4000000
theorem laidOut : laidOutB Try.prog = true := cfb
theorem own : ownKnob Try.prog.godebug = none := by kernel_rfl
theorem okl (x : GPlate × GCut × Int × Unit) (h : GPlate.ok x.1 ∧ GCut.ok x.2.1 ∧ (gI .i64) x.2.2.1 ∧ True) : FnOk Try.prog 3 [fV GPlate.rep x.1, fV GCut.rep x.2.1, fV r_i64 x.2.2.1] (fV Rep.bool true) :=
  ok_f_law09_SurveyCuts _ x.1 x.2.1 x.2.2.1 _ (law_SurveyCuts x.1 x.2.1 x.2.2.1 h.1 h.2.1 h.2.2.1)
theorem lifted (os : Os) (started : os.Started) (X : Type) (enc : TypeId × Value → X) :
    ReturnsInHanded {} Try.checked os 3 .any (Rows.surveyCutsSpec.pre6 enc Try.prog Try.f3 Rows.surveyCutsRow.domain false) (Rows.surveyCutsSpec.post enc Try.prog Try.f3 false true false false) := by
  refine KB.returnsInHanded_of_sized (enc := enc) (C := Try.checked) own started (by kernel_rfl) Try.func3
    (ChangeSpec.witness6 (enc := enc) (C := Try.checked) false ⟨#[], #[(.agg GPlate.rep.zc.toArray), (.agg GCut.rep.zc.toArray), (.int .i64 0)], []⟩ 8 (by kernel_rfl) (by kernel_rfl) (by kernel_rfl) (by kernel_rfl)) ?_
  intro W base args ds gs before hval hW hsz
  refine law_post laidOut (Params.cons (OpensW.of op23) (by kernel_rfl) (by kernel_rfl) (of_decide_eq_true (by kernel_rfl)) (Params.cons (OpensW.of op26) (by kernel_rfl) (by kernel_rfl) (of_decide_eq_true (by kernel_rfl)) (Params.cons (OpensW.of op3) (by kernel_rfl) (by kernel_rfl) (of_decide_eq_true (by kernel_rfl)) Params.nil))) okl rfl Try.underlying4 rfl ?_ hval hW hsz
  intro X ds h
  match ds, h with
  | [d0, d1, d2], _ => exact ⟨rfl, rfl, rfl⟩
theorem cf : joinedFacts Try.checked.prog 3 Try.f3 Rows.surveyCutsSpec Rows.surveyCutsRow = true := by
  unfold joinedFacts
  rw [cfb, cf0, cf1, cf2, cf3, cf4, cf5, cf6, cf7, cf8, cf9, cfa]
  kernel_rfl
theorem fnd : Try.checked.prog.funcNamed Rows.surveyCutsRow.func = some 3 := by kernel_rfl
theorem ins : Try.f3.isInstance Try.checked.prog Rows.surveyCutsRow.origin Rows.surveyCutsRow.targs := of_decide_eq_true (by kernel_rfl)
theorem wra : Try.f3.isWrapper Try.checked.prog Rows.surveyCutsRow.wrapper Rows.surveyCutsRow.mainSum := by
  unfold Func.isWrapper; first | (rw [if_pos (by decide +kernel)]; kernel_rfl) | (rw [if_neg (by decide +kernel)]; exact ⟨rfl, rfl⟩)
theorem over : Rows.surveyCutsRow.holds Try.pinned (OpenSpec.ofChange Rows.surveyCutsSpec) :=
  OpenClaim.holds_of_wide 3 Try.f3 rfl rfl rfl rfl rfl rfl rfl ⟨rfl, rfl, rfl, rfl, rfl⟩ rfl rfl rfl rfl rfl fnd Try.func3 cf ins wra
    (fun os started X enc _ => lifted os started X enc)
end Go.Proofs.Ytmhjgjflmemjmaa.SurveyCutsRow
namespace Go.Proofs.Ytmhjgjflmemjmaa
theorem provedSurveyCuts : Rows.SurveyCutsSaid := SurveyCutsRow.over
#print axioms provedSurveyCuts
end Go.Proofs.Ytmhjgjflmemjmaa
