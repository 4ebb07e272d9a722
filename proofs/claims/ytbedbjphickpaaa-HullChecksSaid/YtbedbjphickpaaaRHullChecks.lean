/- The statement, from the plain law. No condition. -/
import Derived.Test.YtbedbjphickpaaaRows
import Derived.Test.YtbedbjphickpaaaJHullChecks
import Derived.Test.YtbedbjphickpaaaLHullChecks
import Derived.WalkKit
import Derived.ProofKit
import Derived.OpenShut
namespace Go.Proofs.Ytbedbjphickpaaa.HullChecksRow
open Go.KB Go.ChangeShapes Go.WideShapes Go.ChangeAt Go.RowKit
set_option maxRecDepth 100000
set_option maxHeartbeats 4000000
theorem laidOut : laidOutB Try.prog = true := by kernel_rfl
theorem own : ownKnob Try.prog.godebug = none := by kernel_rfl
theorem okl (x : GShip × Unit) (h : GShip.ok x.1 ∧ True) : FnOk Try.prog 4 [fV GShip.rep x.1] (fV Rep.bool true) :=
  ok_f_law02_HullChecks _ x.1 _ (law_HullChecks x.1 h.1)
theorem lifted (os : Os) (started : os.Started) (X : Type) (enc : TypeId × Value → X) :
    ReturnsInHanded {} Try.checked os 4 .any (Rows.hullChecksSpec.pre6 enc Try.prog Try.f4 Rows.hullChecksRow.domain false) (Rows.hullChecksSpec.post enc Try.prog Try.f4 false true false false) := by
  refine KB.returnsInHanded_of_sized (enc := enc) (C := Try.checked) own started (by kernel_rfl) Try.func4
    (ChangeSpec.witness6 (enc := enc) (C := Try.checked) false ⟨#[], #[(.agg GShip.rep.zc.toArray)], []⟩ 8 (by kernel_rfl) (by kernel_rfl) (by kernel_rfl) (by kernel_rfl)) ?_
  intro W base args ds gs before hval hW hsz
  refine law_post laidOut (Params.cons (OpensW.of op27) (by kernel_rfl) (by kernel_rfl) (of_decide_eq_true (by kernel_rfl)) Params.nil) okl rfl Try.underlying4 rfl ?_ hval hW hsz
  intro X ds h
  match ds, h with
  | [d0], _ => exact ⟨rfl, rfl, rfl⟩
theorem over : Rows.hullChecksRow.holds Try.pinned (OpenSpec.ofChange Rows.hullChecksSpec) :=
  OpenClaim.holds_of_wide 4 Try.f4 rfl rfl rfl rfl rfl rfl rfl ⟨rfl, rfl, rfl, rfl, rfl⟩ rfl rfl rfl rfl rfl (by kernel_rfl) Try.func4 (by kernel_rfl)
    (of_decide_eq_true (by kernel_rfl)) (by unfold Func.isWrapper; first | (rw [if_pos (by decide +kernel)]; kernel_rfl) | (rw [if_neg (by decide +kernel)]; exact ⟨rfl, rfl⟩))
    (fun os started X enc _ => lifted os started X enc)
end Go.Proofs.Ytbedbjphickpaaa.HullChecksRow
namespace Go.Proofs.Ytbedbjphickpaaa
theorem provedHullChecks : Rows.HullChecksSaid := HullChecksRow.over
#print axioms provedHullChecks
end Go.Proofs.Ytbedbjphickpaaa
