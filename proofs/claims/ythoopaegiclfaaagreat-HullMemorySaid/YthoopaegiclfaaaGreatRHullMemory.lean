/- The statement, from the plain law. No condition. -/
import Derived.Test.YthoopaegiclfaaaGreatRows
import Derived.Test.YthoopaegiclfaaaGreatJHullMemory
import Derived.Test.YthoopaegiclfaaaGreatLHullMemory
import Derived.Test.YthoopaegiclfaaaGreatFaHullMemory
import Derived.Test.YthoopaegiclfaaaGreatFbHullMemory
import Derived.Test.YthoopaegiclfaaaGreatFcHullMemory
import Derived.WalkKit
import Derived.ProofKit
import Derived.OpenShut
namespace Go.Proofs.YthoopaegiclfaaaGreat.HullMemoryRow
open Go.KB Go.ChangeShapes Go.WideShapes Go.ChangeAt Go.RowKit
set_option maxRecDepth 100000
set_option maxHeartbeats 4000000
theorem laidOut : laidOutB Tryz.prog = true := cfb
theorem own : ownKnob Tryz.prog.godebug = none := by kernel_rfl
theorem okl (x : GShip × GLoad × Unit) (h : GShip.ok x.1 ∧ GLoad.ok x.2.1 ∧ True) : FnOk Tryz.prog 3 [fV GShip.rep x.1, fV GLoad.rep x.2.1] (fV Rep.bool true) :=
  ok_f_law02_HullMemory _ x.1 x.2.1 _ (law_HullMemory x.1 x.2.1 h.1 h.2.1)
theorem lifted (os : Os) (started : os.Started) (X : Type) (enc : TypeId × Value → X) :
    ReturnsInHanded {} Tryz.checked os 3 .any (Rows.hullMemorySpec.pre6 enc Tryz.prog Tryz.f3 Rows.hullMemoryRow.domain false) (Rows.hullMemorySpec.post enc Tryz.prog Tryz.f3 false true false false) := by
  refine KB.returnsInHanded_of_sized (enc := enc) (C := Tryz.checked) own started (by kernel_rfl) Tryz.func3
    (ChangeSpec.witness6 (enc := enc) (C := Tryz.checked) false ⟨#[], #[(.agg GShip.rep.zc.toArray), (.agg GLoad.rep.zc.toArray)], []⟩ 8 (by kernel_rfl) (by kernel_rfl) (by kernel_rfl) (by kernel_rfl)) ?_
  intro W base args ds gs before hval hW hsz
  refine law_post laidOut (Params.cons (OpensW.of op27) (by kernel_rfl) (by kernel_rfl) (of_decide_eq_true (by kernel_rfl)) (Params.cons (OpensW.of op24) (by kernel_rfl) (by kernel_rfl) (of_decide_eq_true (by kernel_rfl)) Params.nil)) okl rfl Tryz.underlying4 rfl ?_ hval hW hsz
  intro X ds h
  match ds, h with
  | [d0, d1], _ => exact ⟨rfl, rfl, rfl⟩
theorem cf : joinedFacts Tryz.checked.prog 3 Tryz.f3 Rows.hullMemorySpec Rows.hullMemoryRow = true := by
  unfold joinedFacts
  rw [cfb, cf0, cf1, cf2, cf3, cf4, cf5, cf6, cf7, cf8, cf9, cfa]
  kernel_rfl
theorem fnd : Tryz.checked.prog.funcNamed Rows.hullMemoryRow.func = some 3 := by kernel_rfl
theorem ins : Tryz.f3.isInstance Tryz.checked.prog Rows.hullMemoryRow.origin Rows.hullMemoryRow.targs := of_decide_eq_true (by kernel_rfl)
theorem wra : Tryz.f3.isWrapper Tryz.checked.prog Rows.hullMemoryRow.wrapper Rows.hullMemoryRow.mainSum := by
  unfold Func.isWrapper; first | (rw [if_pos (by decide +kernel)]; kernel_rfl) | (rw [if_neg (by decide +kernel)]; exact ⟨rfl, rfl⟩)
theorem over : Rows.hullMemoryRow.holds Tryz.pinned (OpenSpec.ofChange Rows.hullMemorySpec) :=
  OpenClaim.holds_of_wide 3 Tryz.f3 rfl rfl rfl rfl rfl rfl rfl ⟨rfl, rfl, rfl, rfl, rfl⟩ rfl rfl rfl rfl rfl fnd Tryz.func3 cf ins wra
    (fun os started X enc _ => lifted os started X enc)
end Go.Proofs.YthoopaegiclfaaaGreat.HullMemoryRow
namespace Go.Proofs.YthoopaegiclfaaaGreat
theorem provedHullMemory : Rows.HullMemorySaid := HullMemoryRow.over
#print axioms provedHullMemory
end Go.Proofs.YthoopaegiclfaaaGreat
