/- The statement, from the plain law. No condition. -/
import Derived.Test.YtehmpjjbmldcnaaRows
import Derived.Test.YtehmpjjbmldcnaaJTopNestedPlates
import Derived.Test.YtehmpjjbmldcnaaLTopNestedPlates
import Derived.Test.YtehmpjjbmldcnaaFaTopNestedPlates
import Derived.Test.YtehmpjjbmldcnaaFbTopNestedPlates
import Derived.Test.YtehmpjjbmldcnaaFcTopNestedPlates
import Derived.WalkKit
import Derived.ProofKit
import Derived.OpenShut
namespace Go.Proofs.Ytehmpjjbmldcnaa.TopNestedPlatesRow
open Go.KB Go.ChangeShapes Go.WideShapes Go.ChangeAt Go.RowKit
set_option maxRecDepth 100000
set_option maxHeartbeats 4000000
theorem laidOut : laidOutB Try.prog = true := cfb
theorem own : ownKnob Try.prog.godebug = none := by kernel_rfl
theorem okl (x : Glaw09_Job × GPlate × Unit) (h : Glaw09_Job.ok x.1 ∧ GPlate.ok x.2.1 ∧ True) : FnOk Try.prog 3 [fV Glaw09_Job.rep x.1, fV GPlate.rep x.2.1] (fV Rep.bool true) :=
  (law_TopNestedPlates x.1 x.2.1 h.1 h.2.1).elim fun _ e => ok_f_top_TopNestedPlates _ x.1 x.2.1 _ e
theorem lifted (os : Os) (started : os.Started) (X : Type) (enc : TypeId × Value → X) :
    ReturnsInHanded {} Try.checked os 3 .any (Rows.topNestedPlatesSpec.pre6 enc Try.prog Try.f3 Rows.topNestedPlatesRow.domain false) (Rows.topNestedPlatesSpec.post enc Try.prog Try.f3 false true false false) := by
  refine KB.returnsInHanded_of_sized (enc := enc) (C := Try.checked) own started (by kernel_rfl) Try.func3
    (ChangeSpec.witness6 (enc := enc) (C := Try.checked) false ⟨#[], #[(.agg Glaw09_Job.rep.zc.toArray), (.agg GPlate.rep.zc.toArray)], []⟩ 8 (by kernel_rfl) (by kernel_rfl) (by kernel_rfl) (by kernel_rfl)) ?_
  intro W base args ds gs before hval hW hsz
  refine law_post laidOut (Params.cons (OpensW.of op26) (by kernel_rfl) (by kernel_rfl) (of_decide_eq_true (by kernel_rfl)) (Params.cons (OpensW.of op28) (by kernel_rfl) (by kernel_rfl) (of_decide_eq_true (by kernel_rfl)) Params.nil)) okl rfl Try.underlying4 rfl ?_ hval hW hsz
  intro X ds h
  match ds, h with
  | [d0, d1], _ => exact ⟨rfl, rfl, rfl⟩
theorem cf : joinedFacts Try.checked.prog 3 Try.f3 Rows.topNestedPlatesSpec Rows.topNestedPlatesRow = true := by
  unfold joinedFacts
  rw [cfb, cf0, cf1, cf2, cf3, cf4, cf5, cf6, cf7, cf8, cf9, cfa]
  kernel_rfl
theorem fnd : Try.checked.prog.funcNamed Rows.topNestedPlatesRow.func = some 3 := by kernel_rfl
theorem ins : Try.f3.isInstance Try.checked.prog Rows.topNestedPlatesRow.origin Rows.topNestedPlatesRow.targs := of_decide_eq_true (by kernel_rfl)
theorem wra : Try.f3.isWrapper Try.checked.prog Rows.topNestedPlatesRow.wrapper Rows.topNestedPlatesRow.mainSum := by
  unfold Func.isWrapper; first | (rw [if_pos (by decide +kernel)]; kernel_rfl) | (rw [if_neg (by decide +kernel)]; exact ⟨rfl, rfl⟩)
theorem over : Rows.topNestedPlatesRow.holds Try.pinned (OpenSpec.ofChange Rows.topNestedPlatesSpec) :=
  OpenClaim.holds_of_wide 3 Try.f3 rfl rfl rfl rfl rfl rfl rfl ⟨rfl, rfl, rfl, rfl, rfl⟩ rfl rfl rfl rfl rfl fnd Try.func3 cf ins wra
    (fun os started X enc _ => lifted os started X enc)
end Go.Proofs.Ytehmpjjbmldcnaa.TopNestedPlatesRow
namespace Go.Proofs.Ytehmpjjbmldcnaa
theorem provedTopNestedPlates : Rows.TopNestedPlatesSaid := TopNestedPlatesRow.over
#print axioms provedTopNestedPlates
end Go.Proofs.Ytehmpjjbmldcnaa
