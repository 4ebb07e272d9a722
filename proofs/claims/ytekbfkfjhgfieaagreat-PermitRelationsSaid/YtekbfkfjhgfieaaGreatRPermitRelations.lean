/- The statement, from the plain law. No condition. -/
import Derived.Test.YtekbfkfjhgfieaaGreatRows
import Derived.Test.YtekbfkfjhgfieaaGreatJPermitRelations
import Derived.Test.YtekbfkfjhgfieaaGreatLPermitRelations
import Derived.WalkKit
import Derived.ProofKit
import Derived.OpenShut
namespace Go.Proofs.YtekbfkfjhgfieaaGreat.PermitRelationsRow
open Go.KB Go.ChangeShapes Go.WideShapes Go.ChangeAt Go.RowKit
set_option maxRecDepth 100000
set_option maxHeartbeats 4000000
theorem laidOut : laidOutB Tryz.prog = true := by kernel_rfl
theorem own : ownKnob Tryz.prog.godebug = none := by kernel_rfl
theorem okl (x : GPermitPlan × Str × Str × Unit) (h : GPermitPlan.ok x.1 ∧ gS x.2.1 ∧ gS x.2.2.1 ∧ True) : FnOk Tryz.prog 7 [fV GPermitPlan.rep x.1, fV Rep.str x.2.1, fV Rep.str x.2.2.1] (fV Rep.bool true) :=
  ok_f_law07_PermitRelations _ x.1 x.2.1 x.2.2.1 _ (law_PermitRelations x.1 x.2.1 x.2.2.1 h.1 h.2.1 h.2.2.1)
theorem lifted (os : Os) (started : os.Started) (X : Type) (enc : TypeId × Value → X) :
    ReturnsInHanded {} Tryz.checked os 7 .any (Rows.permitRelationsSpec.pre6 enc Tryz.prog Tryz.f7 Rows.permitRelationsRow.domain false) (Rows.permitRelationsSpec.post enc Tryz.prog Tryz.f7 false true false false) := by
  refine KB.returnsInHanded_of_sized (enc := enc) (C := Tryz.checked) own started (by kernel_rfl) Tryz.func7
    (ChangeSpec.witness6 (enc := enc) (C := Tryz.checked) false ⟨#[], #[(.agg GPermitPlan.rep.zc.toArray), (.string ⟨#[]⟩), (.string ⟨#[]⟩)], []⟩ 8 (by kernel_rfl) (by kernel_rfl) (by kernel_rfl) (by kernel_rfl)) ?_
  intro W base args ds gs before hval hW hsz
  refine law_post laidOut (Params.cons (OpensW.of op26) (by kernel_rfl) (by kernel_rfl) (of_decide_eq_true (by kernel_rfl)) (Params.cons (OpensW.of op9) (by kernel_rfl) (by kernel_rfl) (of_decide_eq_true (by kernel_rfl)) (Params.cons (OpensW.of op9) (by kernel_rfl) (by kernel_rfl) (of_decide_eq_true (by kernel_rfl)) Params.nil))) okl rfl Tryz.underlying4 rfl ?_ hval hW hsz
  intro X ds h
  match ds, h with
  | [d0, d1, d2], _ => exact ⟨rfl, rfl, rfl⟩
theorem cf0 : (Rows.permitRelationsRow.inPlace == Tryz.checked.prog.inPlace 7) = true := by kernel_rfl
theorem cf1 : (Rows.permitRelationsRow.unfollowed == Tryz.checked.prog.unfollowed 7) = true := by kernel_rfl
theorem cf2 : (Rows.permitRelationsRow.recurses == Tryz.checked.prog.recurses 7) = true := by kernel_rfl
theorem cf3 : (Rows.permitRelationsRow.named == Tryz.checked.prog.varsNamed 7) = true := by kernel_rfl
theorem cf4 : mapsRowed Tryz.checked.prog = true := by kernel_rfl
theorem cf : joinedFacts Tryz.checked.prog 7 Tryz.f7 Rows.permitRelationsSpec Rows.permitRelationsRow = true := by
  unfold joinedFacts
  rw [cf0, cf1, cf2, cf3, cf4]
  kernel_rfl
theorem fnd : Tryz.checked.prog.funcNamed Rows.permitRelationsRow.func = some 7 := by kernel_rfl
theorem ins : Tryz.f7.isInstance Tryz.checked.prog Rows.permitRelationsRow.origin Rows.permitRelationsRow.targs := of_decide_eq_true (by kernel_rfl)
theorem wra : Tryz.f7.isWrapper Tryz.checked.prog Rows.permitRelationsRow.wrapper Rows.permitRelationsRow.mainSum := by
  unfold Func.isWrapper; first | (rw [if_pos (by decide +kernel)]; kernel_rfl) | (rw [if_neg (by decide +kernel)]; exact ⟨rfl, rfl⟩)
theorem over : Rows.permitRelationsRow.holds Tryz.pinned (OpenSpec.ofChange Rows.permitRelationsSpec) :=
  OpenClaim.holds_of_wide 7 Tryz.f7 rfl rfl rfl rfl rfl rfl rfl ⟨rfl, rfl, rfl, rfl, rfl⟩ rfl rfl rfl rfl rfl fnd Tryz.func7 cf ins wra
    (fun os started X enc _ => lifted os started X enc)
end Go.Proofs.YtekbfkfjhgfieaaGreat.PermitRelationsRow
namespace Go.Proofs.YtekbfkfjhgfieaaGreat
theorem provedPermitRelations : Rows.PermitRelationsSaid := PermitRelationsRow.over
#print axioms provedPermitRelations
end Go.Proofs.YtekbfkfjhgfieaaGreat
