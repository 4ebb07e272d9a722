/- The statement, from the plain law. No condition. -/
import Derived.Test.YtekbfkfjhgfieaaGreatRows
import Derived.Test.YtekbfkfjhgfieaaGreatJPermitCompatible
import Derived.Test.YtekbfkfjhgfieaaGreatLPermitCompatible
import Derived.WalkKit
import Derived.ProofKit
import Derived.OpenShut
namespace Go.Proofs.YtekbfkfjhgfieaaGreat.PermitCompatibleRow
open Go.KB Go.ChangeShapes Go.WideShapes Go.ChangeAt Go.RowKit
set_option maxRecDepth 100000
set_option maxHeartbeats 4000000
theorem laidOut : laidOutB Tryz.prog = true := by kernel_rfl
theorem own : ownKnob Tryz.prog.godebug = none := by kernel_rfl
theorem okl (x : GPermitPlan × (List Str) × Unit) (h : GPermitPlan.ok x.1 ∧ (gL gS) x.2.1 ∧ True) : FnOk Tryz.prog 8 [fV GPermitPlan.rep x.1, fV (Rep.slice Rep.str) x.2.1] (fV Rep.bool true) :=
  ok_f_law07_PermitCompatible _ x.1 x.2.1 _ (law_PermitCompatible x.1 x.2.1 h.1 h.2.1)
theorem lifted (os : Os) (started : os.Started) (X : Type) (enc : TypeId × Value → X) :
    ReturnsInHanded {} Tryz.checked os 8 .any (Rows.permitCompatibleSpec.pre6 enc Tryz.prog Tryz.f8 Rows.permitCompatibleRow.domain false) (Rows.permitCompatibleSpec.post enc Tryz.prog Tryz.f8 false true false false) := by
  refine KB.returnsInHanded_of_sized (enc := enc) (C := Tryz.checked) own started (by kernel_rfl) Tryz.func8
    (ChangeSpec.witness6 (enc := enc) (C := Tryz.checked) false ⟨#[], #[(.agg GPermitPlan.rep.zc.toArray), (.slice none 0 0)], []⟩ 8 (by kernel_rfl) (by kernel_rfl) (by kernel_rfl) (by kernel_rfl)) ?_
  intro W base args ds gs before hval hW hsz
  refine law_post laidOut (Params.cons (OpensW.of op26) (by kernel_rfl) (by kernel_rfl) (of_decide_eq_true (by kernel_rfl)) (Params.cons (OpensW.of op36) (by kernel_rfl) (by kernel_rfl) (of_decide_eq_true (by kernel_rfl)) Params.nil)) okl rfl Tryz.underlying4 rfl ?_ hval hW hsz
  intro X ds h
  match ds, h with
  | [d0, d1], _ => exact ⟨rfl, rfl, rfl⟩
theorem cf0 : (Rows.permitCompatibleRow.inPlace == Tryz.checked.prog.inPlace 8) = true := by kernel_rfl
theorem cf1 : (Rows.permitCompatibleRow.unfollowed == Tryz.checked.prog.unfollowed 8) = true := by kernel_rfl
theorem cf2 : (Rows.permitCompatibleRow.recurses == Tryz.checked.prog.recurses 8) = true := by kernel_rfl
theorem cf3 : (Rows.permitCompatibleRow.named == Tryz.checked.prog.varsNamed 8) = true := by kernel_rfl
theorem cf4 : mapsRowed Tryz.checked.prog = true := by kernel_rfl
theorem cf : joinedFacts Tryz.checked.prog 8 Tryz.f8 Rows.permitCompatibleSpec Rows.permitCompatibleRow = true := by
  unfold joinedFacts
  rw [cf0, cf1, cf2, cf3, cf4]
  kernel_rfl
theorem fnd : Tryz.checked.prog.funcNamed Rows.permitCompatibleRow.func = some 8 := by kernel_rfl
theorem ins : Tryz.f8.isInstance Tryz.checked.prog Rows.permitCompatibleRow.origin Rows.permitCompatibleRow.targs := of_decide_eq_true (by kernel_rfl)
theorem wra : Tryz.f8.isWrapper Tryz.checked.prog Rows.permitCompatibleRow.wrapper Rows.permitCompatibleRow.mainSum := by
  unfold Func.isWrapper; first | (rw [if_pos (by decide +kernel)]; kernel_rfl) | (rw [if_neg (by decide +kernel)]; exact ⟨rfl, rfl⟩)
theorem over : Rows.permitCompatibleRow.holds Tryz.pinned (OpenSpec.ofChange Rows.permitCompatibleSpec) :=
  OpenClaim.holds_of_wide 8 Tryz.f8 rfl rfl rfl rfl rfl rfl rfl ⟨rfl, rfl, rfl, rfl, rfl⟩ rfl rfl rfl rfl rfl fnd Tryz.func8 cf ins wra
    (fun os started X enc _ => lifted os started X enc)
end Go.Proofs.YtekbfkfjhgfieaaGreat.PermitCompatibleRow
namespace Go.Proofs.YtekbfkfjhgfieaaGreat
theorem provedPermitCompatible : Rows.PermitCompatibleSaid := PermitCompatibleRow.over
#print axioms provedPermitCompatible
end Go.Proofs.YtekbfkfjhgfieaaGreat
