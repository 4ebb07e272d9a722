/- The statement, from the plain law. No condition. -/
import Derived.Test.YtekbfkfjhgfieaaGreatRows
import Derived.Test.YtekbfkfjhgfieaaGreatJPermitPlans
import Derived.Test.YtekbfkfjhgfieaaGreatLPermitPlans
import Derived.WalkKit
import Derived.ProofKit
import Derived.OpenShut
namespace Go.Proofs.YtekbfkfjhgfieaaGreat.PermitPlansRow
open Go.KB Go.ChangeShapes Go.WideShapes Go.ChangeAt Go.RowKit
set_option maxRecDepth 100000
set_option maxHeartbeats 4000000
theorem laidOut : laidOutB Tryz.prog = true := by kernel_rfl
theorem own : ownKnob Tryz.prog.godebug = none := by kernel_rfl
theorem okl (x : GPermitPlan × Unit) (h : GPermitPlan.ok x.1 ∧ True) : FnOk Tryz.prog 4 [fV GPermitPlan.rep x.1] (fV Rep.bool true) :=
  ok_f_law07_PermitPlans _ x.1 _ (law_PermitPlans x.1 h.1)
theorem lifted (os : Os) (started : os.Started) (X : Type) (enc : TypeId × Value → X) :
    ReturnsInHanded {} Tryz.checked os 4 .any (Rows.permitPlansSpec.pre6 enc Tryz.prog Tryz.f4 Rows.permitPlansRow.domain false) (Rows.permitPlansSpec.post enc Tryz.prog Tryz.f4 false true false false) := by
  refine KB.returnsInHanded_of_sized (enc := enc) (C := Tryz.checked) own started (by kernel_rfl) Tryz.func4
    (ChangeSpec.witness6 (enc := enc) (C := Tryz.checked) false ⟨#[], #[(.agg GPermitPlan.rep.zc.toArray)], []⟩ 8 (by kernel_rfl) (by kernel_rfl) (by kernel_rfl) (by kernel_rfl)) ?_
  intro W base args ds gs before hval hW hsz
  refine law_post laidOut (Params.cons (OpensW.of op26) (by kernel_rfl) (by kernel_rfl) (of_decide_eq_true (by kernel_rfl)) Params.nil) okl rfl Tryz.underlying4 rfl ?_ hval hW hsz
  intro X ds h
  match ds, h with
  | [d0], _ => exact ⟨rfl, rfl, rfl⟩
theorem cf0 : (Rows.permitPlansRow.inPlace == Tryz.checked.prog.inPlace 4) = true := by kernel_rfl
theorem cf1 : (Rows.permitPlansRow.unfollowed == Tryz.checked.prog.unfollowed 4) = true := by kernel_rfl
theorem cf2 : (Rows.permitPlansRow.recurses == Tryz.checked.prog.recurses 4) = true := by kernel_rfl
theorem cf3 : (Rows.permitPlansRow.named == Tryz.checked.prog.varsNamed 4) = true := by kernel_rfl
theorem cf4 : mapsRowed Tryz.checked.prog = true := by kernel_rfl
theorem cf : joinedFacts Tryz.checked.prog 4 Tryz.f4 Rows.permitPlansSpec Rows.permitPlansRow = true := by
  unfold joinedFacts
  rw [cf0, cf1, cf2, cf3, cf4]
  kernel_rfl
theorem fnd : Tryz.checked.prog.funcNamed Rows.permitPlansRow.func = some 4 := by kernel_rfl
theorem ins : Tryz.f4.isInstance Tryz.checked.prog Rows.permitPlansRow.origin Rows.permitPlansRow.targs := of_decide_eq_true (by kernel_rfl)
theorem wra : Tryz.f4.isWrapper Tryz.checked.prog Rows.permitPlansRow.wrapper Rows.permitPlansRow.mainSum := by
  unfold Func.isWrapper; first | (rw [if_pos (by decide +kernel)]; kernel_rfl) | (rw [if_neg (by decide +kernel)]; exact ⟨rfl, rfl⟩)
theorem over : Rows.permitPlansRow.holds Tryz.pinned (OpenSpec.ofChange Rows.permitPlansSpec) :=
  OpenClaim.holds_of_wide 4 Tryz.f4 rfl rfl rfl rfl rfl rfl rfl ⟨rfl, rfl, rfl, rfl, rfl⟩ rfl rfl rfl rfl rfl fnd Tryz.func4 cf ins wra
    (fun os started X enc _ => lifted os started X enc)
end Go.Proofs.YtekbfkfjhgfieaaGreat.PermitPlansRow
namespace Go.Proofs.YtekbfkfjhgfieaaGreat
theorem provedPermitPlans : Rows.PermitPlansSaid := PermitPlansRow.over
#print axioms provedPermitPlans
end Go.Proofs.YtekbfkfjhgfieaaGreat
