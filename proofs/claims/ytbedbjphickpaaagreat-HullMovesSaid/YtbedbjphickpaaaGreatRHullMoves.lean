/- The statement, from the plain law. No condition. -/
import Derived.Test.YtbedbjphickpaaaGreatRows
import Derived.Test.YtbedbjphickpaaaGreatJHullMoves
import Derived.Test.YtbedbjphickpaaaGreatLHullMoves
import Derived.WalkKit
import Derived.ProofKit
import Derived.OpenShut
namespace Go.Proofs.YtbedbjphickpaaaGreat.HullMovesRow
open Go.KB Go.ChangeShapes Go.WideShapes Go.ChangeAt Go.RowKit
set_option maxRecDepth 100000
set_option maxHeartbeats 4000000
theorem laidOut : laidOutB Tryz.prog = true := by kernel_rfl
theorem own : ownKnob Tryz.prog.godebug = none := by kernel_rfl
theorem okl (x : Glaw02_Moving × Unit) (h : Glaw02_Moving.ok x.1 ∧ True) : FnOk Tryz.prog 13 [fV Glaw02_Moving.rep x.1] (fV Rep.bool true) :=
  ok_f_law02_HullMoves _ x.1 _ (law_HullMoves x.1 h.1)
theorem lifted (os : Os) (started : os.Started) (X : Type) (enc : TypeId × Value → X) :
    ReturnsInHanded {} Tryz.checked os 13 .any (Rows.hullMovesSpec.pre6 enc Tryz.prog Tryz.f13 Rows.hullMovesRow.domain false) (Rows.hullMovesSpec.post enc Tryz.prog Tryz.f13 false true false false) := by
  refine KB.returnsInHanded_of_sized (enc := enc) (C := Tryz.checked) own started (by kernel_rfl) Tryz.func13
    (ChangeSpec.witness6 (enc := enc) (C := Tryz.checked) false ⟨#[], #[(.agg Glaw02_Moving.rep.zc.toArray)], []⟩ 8 (by kernel_rfl) (by kernel_rfl) (by kernel_rfl) (by kernel_rfl)) ?_
  intro W base args ds gs before hval hW hsz
  refine law_post laidOut (Params.cons (OpensW.of op146) (by kernel_rfl) (by kernel_rfl) (of_decide_eq_true (by kernel_rfl)) Params.nil) okl rfl Tryz.underlying4 rfl ?_ hval hW hsz
  intro X ds h
  match ds, h with
  | [d0], _ => exact ⟨rfl, rfl, rfl⟩
theorem over : Rows.hullMovesRow.holds Tryz.pinned (OpenSpec.ofChange Rows.hullMovesSpec) :=
  OpenClaim.holds_of_wide 13 Tryz.f13 rfl rfl rfl rfl rfl rfl rfl ⟨rfl, rfl, rfl, rfl, rfl⟩ rfl rfl rfl rfl rfl (by kernel_rfl) Tryz.func13 (by kernel_rfl)
    (of_decide_eq_true (by kernel_rfl)) (by unfold Func.isWrapper; first | (rw [if_pos (by decide +kernel)]; kernel_rfl) | (rw [if_neg (by decide +kernel)]; exact ⟨rfl, rfl⟩))
    (fun os started X enc _ => lifted os started X enc)
end Go.Proofs.YtbedbjphickpaaaGreat.HullMovesRow
namespace Go.Proofs.YtbedbjphickpaaaGreat
theorem provedHullMoves : Rows.HullMovesSaid := HullMovesRow.over
#print axioms provedHullMoves
end Go.Proofs.YtbedbjphickpaaaGreat
