/- The statement, from the plain law. No condition. -/
import Derived.Test.YtekbfkfjhgfieaaGreatRows
import Derived.Test.YtekbfkfjhgfieaaGreatJPermitNil
import Derived.Test.YtekbfkfjhgfieaaGreatLPermitNil
import Derived.WalkKit
import Derived.ProofKit
import Derived.OpenShut
namespace Go.Proofs.YtekbfkfjhgfieaaGreat.PermitNilRow
open Go.KB Go.ChangeShapes Go.WideShapes Go.ChangeAt Go.RowKit
set_option maxRecDepth 100000
set_option maxHeartbeats 4000000
theorem laidOut : laidOutB Tryz.prog = true := by kernel_rfl
theorem own : ownKnob Tryz.prog.godebug = none := by kernel_rfl
theorem okl (x : GEvent × Str × Unit) (h : GEvent.ok x.1 ∧ gS x.2.1 ∧ True) : FnOk Tryz.prog 14 [fV GEvent.rep x.1, fV Rep.str x.2.1] (fV Rep.bool true) :=
  ok_f_law07_PermitNil _ x.1 x.2.1 _ (law_PermitNil x.1 x.2.1 h.1 h.2.1)
theorem lifted (os : Os) (started : os.Started) (X : Type) (enc : TypeId × Value → X) :
    ReturnsInHanded {} Tryz.checked os 14 .any (Rows.permitNilSpec.pre6 enc Tryz.prog Tryz.f14 Rows.permitNilRow.domain false) (Rows.permitNilSpec.post enc Tryz.prog Tryz.f14 false true false false) := by
  refine KB.returnsInHanded_of_sized (enc := enc) (C := Tryz.checked) own started (by kernel_rfl) Tryz.func14
    (ChangeSpec.witness6 (enc := enc) (C := Tryz.checked) false ⟨#[], #[(.agg GEvent.rep.zc.toArray), (.string ⟨#[]⟩)], []⟩ 8 (by kernel_rfl) (by kernel_rfl) (by kernel_rfl) (by kernel_rfl)) ?_
  intro W base args ds gs before hval hW hsz
  refine law_post laidOut (Params.cons (OpensW.of op45) (by kernel_rfl) (by kernel_rfl) (of_decide_eq_true (by kernel_rfl)) (Params.cons (OpensW.of op9) (by kernel_rfl) (by kernel_rfl) (of_decide_eq_true (by kernel_rfl)) Params.nil)) okl rfl Tryz.underlying4 rfl ?_ hval hW hsz
  intro X ds h
  match ds, h with
  | [d0, d1], _ => exact ⟨rfl, rfl, rfl⟩
theorem cf0 : (Rows.permitNilRow.inPlace == Tryz.checked.prog.inPlace 14) = true := by kernel_rfl
theorem cf1 : (Rows.permitNilRow.unfollowed == Tryz.checked.prog.unfollowed 14) = true := by kernel_rfl
theorem cf2 : (Rows.permitNilRow.recurses == Tryz.checked.prog.recurses 14) = true := by kernel_rfl
theorem cf3 : (Rows.permitNilRow.named == Tryz.checked.prog.varsNamed 14) = true := by kernel_rfl
theorem cf4 : mapsRowed Tryz.checked.prog = true := by kernel_rfl
theorem cf : joinedFacts Tryz.checked.prog 14 Tryz.f14 Rows.permitNilSpec Rows.permitNilRow = true := by
  unfold joinedFacts
  rw [cf0, cf1, cf2, cf3, cf4]
  kernel_rfl
theorem fnd : Tryz.checked.prog.funcNamed Rows.permitNilRow.func = some 14 := by kernel_rfl
theorem ins : Tryz.f14.isInstance Tryz.checked.prog Rows.permitNilRow.origin Rows.permitNilRow.targs := of_decide_eq_true (by kernel_rfl)
theorem wra : Tryz.f14.isWrapper Tryz.checked.prog Rows.permitNilRow.wrapper Rows.permitNilRow.mainSum := by
  unfold Func.isWrapper; first | (rw [if_pos (by decide +kernel)]; kernel_rfl) | (rw [if_neg (by decide +kernel)]; exact ⟨rfl, rfl⟩)
theorem over : Rows.permitNilRow.holds Tryz.pinned (OpenSpec.ofChange Rows.permitNilSpec) :=
  OpenClaim.holds_of_wide 14 Tryz.f14 rfl rfl rfl rfl rfl rfl rfl ⟨rfl, rfl, rfl, rfl, rfl⟩ rfl rfl rfl rfl rfl fnd Tryz.func14 cf ins wra
    (fun os started X enc _ => lifted os started X enc)
end Go.Proofs.YtekbfkfjhgfieaaGreat.PermitNilRow
namespace Go.Proofs.YtekbfkfjhgfieaaGreat
theorem provedPermitNil : Rows.PermitNilSaid := PermitNilRow.over
#print axioms provedPermitNil
end Go.Proofs.YtekbfkfjhgfieaaGreat
