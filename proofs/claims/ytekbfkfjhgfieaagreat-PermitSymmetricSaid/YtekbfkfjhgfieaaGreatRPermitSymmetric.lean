/- The statement, from the plain law. No condition. -/
import Derived.Test.YtekbfkfjhgfieaaGreatRows
import Derived.Test.YtekbfkfjhgfieaaGreatJPermitSymmetric
import Derived.Test.YtekbfkfjhgfieaaGreatLPermitSymmetric
import Derived.WalkKit
import Derived.ProofKit
import Derived.OpenShut
namespace Go.Proofs.YtekbfkfjhgfieaaGreat.PermitSymmetricRow
open Go.KB Go.ChangeShapes Go.WideShapes Go.ChangeAt Go.RowKit
set_option maxRecDepth 100000
set_option maxHeartbeats 4000000
theorem laidOut : laidOutB Tryz.prog = true := by kernel_rfl
theorem own : ownKnob Tryz.prog.godebug = none := by kernel_rfl
theorem okl (x : GPermitPlan × GExclusion × Unit) (h : GPermitPlan.ok x.1 ∧ GExclusion.ok x.2.1 ∧ True) : FnOk Tryz.prog 5 [fV GPermitPlan.rep x.1, fV GExclusion.rep x.2.1] (fV Rep.bool true) :=
  ok_f_law07_PermitSymmetric _ x.1 x.2.1 _ (law_PermitSymmetric x.1 x.2.1 h.1 h.2.1)
theorem lifted (os : Os) (started : os.Started) (X : Type) (enc : TypeId × Value → X) :
    ReturnsInHanded {} Tryz.checked os 5 .any (Rows.permitSymmetricSpec.pre6 enc Tryz.prog Tryz.f5 Rows.permitSymmetricRow.domain false) (Rows.permitSymmetricSpec.post enc Tryz.prog Tryz.f5 false true false false) := by
  refine KB.returnsInHanded_of_sized (enc := enc) (C := Tryz.checked) own started (by kernel_rfl) Tryz.func5
    (ChangeSpec.witness6 (enc := enc) (C := Tryz.checked) false ⟨#[], #[(.agg GPermitPlan.rep.zc.toArray), (.agg GExclusion.rep.zc.toArray)], []⟩ 8 (by kernel_rfl) (by kernel_rfl) (by kernel_rfl) (by kernel_rfl)) ?_
  intro W base args ds gs before hval hW hsz
  refine law_post laidOut (Params.cons (OpensW.of op26) (by kernel_rfl) (by kernel_rfl) (of_decide_eq_true (by kernel_rfl)) (Params.cons (OpensW.of op56) (by kernel_rfl) (by kernel_rfl) (of_decide_eq_true (by kernel_rfl)) Params.nil)) okl rfl Tryz.underlying4 rfl ?_ hval hW hsz
  intro X ds h
  match ds, h with
  | [d0, d1], _ => exact ⟨rfl, rfl, rfl⟩
theorem cf0 : (Rows.permitSymmetricRow.inPlace == Tryz.checked.prog.inPlace 5) = true := by kernel_rfl
theorem cf1 : (Rows.permitSymmetricRow.unfollowed == Tryz.checked.prog.unfollowed 5) = true := by kernel_rfl
theorem cf2 : (Rows.permitSymmetricRow.recurses == Tryz.checked.prog.recurses 5) = true := by kernel_rfl
theorem cf3 : (Rows.permitSymmetricRow.named == Tryz.checked.prog.varsNamed 5) = true := by kernel_rfl
theorem cf4 : mapsRowed Tryz.checked.prog = true := by kernel_rfl
theorem cf : joinedFacts Tryz.checked.prog 5 Tryz.f5 Rows.permitSymmetricSpec Rows.permitSymmetricRow = true := by
  unfold joinedFacts
  rw [cf0, cf1, cf2, cf3, cf4]
  kernel_rfl
theorem fnd : Tryz.checked.prog.funcNamed Rows.permitSymmetricRow.func = some 5 := by kernel_rfl
theorem ins : Tryz.f5.isInstance Tryz.checked.prog Rows.permitSymmetricRow.origin Rows.permitSymmetricRow.targs := of_decide_eq_true (by kernel_rfl)
theorem wra : Tryz.f5.isWrapper Tryz.checked.prog Rows.permitSymmetricRow.wrapper Rows.permitSymmetricRow.mainSum := by
  unfold Func.isWrapper; first | (rw [if_pos (by decide +kernel)]; kernel_rfl) | (rw [if_neg (by decide +kernel)]; exact ⟨rfl, rfl⟩)
theorem over : Rows.permitSymmetricRow.holds Tryz.pinned (OpenSpec.ofChange Rows.permitSymmetricSpec) :=
  OpenClaim.holds_of_wide 5 Tryz.f5 rfl rfl rfl rfl rfl rfl rfl ⟨rfl, rfl, rfl, rfl, rfl⟩ rfl rfl rfl rfl rfl fnd Tryz.func5 cf ins wra
    (fun os started X enc _ => lifted os started X enc)
end Go.Proofs.YtekbfkfjhgfieaaGreat.PermitSymmetricRow
namespace Go.Proofs.YtekbfkfjhgfieaaGreat
theorem provedPermitSymmetric : Rows.PermitSymmetricSaid := PermitSymmetricRow.over
#print axioms provedPermitSymmetric
end Go.Proofs.YtekbfkfjhgfieaaGreat
