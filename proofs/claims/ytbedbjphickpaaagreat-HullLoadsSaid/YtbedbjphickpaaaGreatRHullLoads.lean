/- The statement, from the plain law. No condition. -/
import Derived.Test.YtbedbjphickpaaaGreatRows
import Derived.Test.YtbedbjphickpaaaGreatJHullLoads
import Derived.Test.YtbedbjphickpaaaGreatLHullLoads
import Derived.WalkKit
import Derived.ProofKit
import Derived.OpenShut
namespace Go.Proofs.YtbedbjphickpaaaGreat.HullLoadsRow
open Go.KB Go.ChangeShapes Go.WideShapes Go.ChangeAt Go.RowKit
set_option maxRecDepth 100000
set_option maxHeartbeats 4000000
theorem laidOut : laidOutB Tryz.prog = true := by kernel_rfl
theorem own : ownKnob Tryz.prog.godebug = none := by kernel_rfl
theorem okl (x : GShip × GLoad × Str × Unit) (h : GShip.ok x.1 ∧ GLoad.ok x.2.1 ∧ gS x.2.2.1 ∧ True) : FnOk Tryz.prog 12 [fV GShip.rep x.1, fV GLoad.rep x.2.1, fV Rep.str x.2.2.1] (fV Rep.bool true) :=
  ok_f_law02_HullLoads _ x.1 x.2.1 x.2.2.1 _ (law_HullLoads x.1 x.2.1 x.2.2.1 h.1 h.2.1 h.2.2.1)
theorem lifted (os : Os) (started : os.Started) (X : Type) (enc : TypeId × Value → X) :
    ReturnsInHanded {} Tryz.checked os 12 .any (Rows.hullLoadsSpec.pre6 enc Tryz.prog Tryz.f12 Rows.hullLoadsRow.domain false) (Rows.hullLoadsSpec.post enc Tryz.prog Tryz.f12 false true false false) := by
  refine KB.returnsInHanded_of_sized (enc := enc) (C := Tryz.checked) own started (by kernel_rfl) Tryz.func12
    (ChangeSpec.witness6 (enc := enc) (C := Tryz.checked) false ⟨#[], #[(.agg GShip.rep.zc.toArray), (.agg GLoad.rep.zc.toArray), (.string ⟨#[]⟩)], []⟩ 8 (by kernel_rfl) (by kernel_rfl) (by kernel_rfl) (by kernel_rfl)) ?_
  intro W base args ds gs before hval hW hsz
  refine law_post laidOut (Params.cons (OpensW.of op27) (by kernel_rfl) (by kernel_rfl) (of_decide_eq_true (by kernel_rfl)) (Params.cons (OpensW.of op24) (by kernel_rfl) (by kernel_rfl) (of_decide_eq_true (by kernel_rfl)) (Params.cons (OpensW.of op9) (by kernel_rfl) (by kernel_rfl) (of_decide_eq_true (by kernel_rfl)) Params.nil))) okl rfl Tryz.underlying4 rfl ?_ hval hW hsz
  intro X ds h
  match ds, h with
  | [d0, d1, d2], _ => exact ⟨rfl, rfl, rfl⟩
theorem over : Rows.hullLoadsRow.holds Tryz.pinned (OpenSpec.ofChange Rows.hullLoadsSpec) :=
  OpenClaim.holds_of_wide 12 Tryz.f12 rfl rfl rfl rfl rfl rfl rfl ⟨rfl, rfl, rfl, rfl, rfl⟩ rfl rfl rfl rfl rfl (by kernel_rfl) Tryz.func12 (by kernel_rfl)
    (of_decide_eq_true (by kernel_rfl)) (by unfold Func.isWrapper; first | (rw [if_pos (by decide +kernel)]; kernel_rfl) | (rw [if_neg (by decide +kernel)]; exact ⟨rfl, rfl⟩))
    (fun os started X enc _ => lifted os started X enc)
end Go.Proofs.YtbedbjphickpaaaGreat.HullLoadsRow
namespace Go.Proofs.YtbedbjphickpaaaGreat
theorem provedHullLoads : Rows.HullLoadsSaid := HullLoadsRow.over
#print axioms provedHullLoads
end Go.Proofs.YtbedbjphickpaaaGreat
