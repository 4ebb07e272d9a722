/- The statement, from the plain law. No condition. -/
import Derived.Test.YtalkbgomndhkmaaGreatRows
import Derived.Test.YtalkbgomndhkmaaGreatJPermitMaximal
import Derived.Test.YtalkbgomndhkmaaGreatLPermitMaximal
import Derived.Test.YtalkbgomndhkmaaGreatFaPermitMaximal
import Derived.Test.YtalkbgomndhkmaaGreatFbPermitMaximal
import Derived.Test.YtalkbgomndhkmaaGreatFcPermitMaximal
import Derived.WalkKit
import Derived.ProofKit
import Derived.OpenShut
namespace Go.Proofs.YtalkbgomndhkmaaGreat.PermitMaximalRow
open Go.KB Go.ChangeShapes Go.WideShapes Go.ChangeAt Go.RowKit
set_option maxRecDepth 100000
set_option maxHeartbeats 4000000
theorem laidOut : laidOutB Tryz.prog = true := cfb
theorem own : ownKnob Tryz.prog.godebug = none := by kernel_rfl
theorem okl (x : GPermitPlan × (List Str) × Unit) (h : GPermitPlan.ok x.1 ∧ (gL gS) x.2.1 ∧ True) : FnOk Tryz.prog 7 [fV GPermitPlan.rep x.1, fV (Rep.slice Rep.str) x.2.1] (fV Rep.bool true) :=
  ok_f_law07_PermitMaximal _ x.1 x.2.1 _ (law_PermitMaximal x.1 x.2.1 h.1 h.2.1)
theorem lifted (os : Os) (started : os.Started) (X : Type) (enc : TypeId × Value → X) :
    ReturnsInHanded {} Tryz.checked os 7 .any (Rows.permitMaximalSpec.pre6 enc Tryz.prog Tryz.f7 Rows.permitMaximalRow.domain false) (Rows.permitMaximalSpec.post enc Tryz.prog Tryz.f7 false true false false) := by
  refine KB.returnsInHanded_of_sized (enc := enc) (C := Tryz.checked) own started (by kernel_rfl) Tryz.func7
    (ChangeSpec.witness6 (enc := enc) (C := Tryz.checked) false ⟨#[], #[(.agg GPermitPlan.rep.zc.toArray), (.slice none 0 0)], []⟩ 8 (by kernel_rfl) (by kernel_rfl) (by kernel_rfl) (by kernel_rfl)) ?_
  intro W base args ds gs before hval hW hsz
  refine law_post laidOut (Params.cons (OpensW.of op26) (by kernel_rfl) (by kernel_rfl) (of_decide_eq_true (by kernel_rfl)) (Params.cons (OpensW.of op36) (by kernel_rfl) (by kernel_rfl) (of_decide_eq_true (by kernel_rfl)) Params.nil)) okl rfl Tryz.underlying4 rfl ?_ hval hW hsz
  intro X ds h
  match ds, h with
  | [d0, d1], _ => exact ⟨rfl, rfl, rfl⟩
theorem cf : joinedFacts Tryz.checked.prog 7 Tryz.f7 Rows.permitMaximalSpec Rows.permitMaximalRow = true := by
  unfold joinedFacts
  rw [cfb, cf0, cf1, cf2, cf3, cf4, cf5, cf6, cf7, cf8, cf9, cfa]
  kernel_rfl
theorem fnd : Tryz.checked.prog.funcNamed Rows.permitMaximalRow.func = some 7 := by kernel_rfl
theorem ins : Tryz.f7.isInstance Tryz.checked.prog Rows.permitMaximalRow.origin Rows.permitMaximalRow.targs := of_decide_eq_true (by kernel_rfl)
theorem wra : Tryz.f7.isWrapper Tryz.checked.prog Rows.permitMaximalRow.wrapper Rows.permitMaximalRow.mainSum := by
  unfold Func.isWrapper; first | (rw [if_pos (by decide +kernel)]; kernel_rfl) | (rw [if_neg (by decide +kernel)]; exact ⟨rfl, rfl⟩)
theorem over : Rows.permitMaximalRow.holds Tryz.pinned (OpenSpec.ofChange Rows.permitMaximalSpec) :=
  OpenClaim.holds_of_wide 7 Tryz.f7 rfl rfl rfl rfl rfl rfl rfl ⟨rfl, rfl, rfl, rfl, rfl⟩ rfl rfl rfl rfl rfl fnd Tryz.func7 cf ins wra
    (fun os started X enc _ => lifted os started X enc)
end Go.Proofs.YtalkbgomndhkmaaGreat.PermitMaximalRow
namespace Go.Proofs.YtalkbgomndhkmaaGreat
theorem provedPermitMaximal : Rows.PermitMaximalSaid := PermitMaximalRow.over
#print axioms provedPermitMaximal
end Go.Proofs.YtalkbgomndhkmaaGreat
