/- hull.Parse's deferred closure finds nothing to recover as Parse returns. No condition. -/
import Derived.Test.YtibkeigeifabmaaGreatDoorKDf
import Derived.Tactics
import Derived.Tactics2
namespace Go.KB
open Go.Proofs
set_option maxRecDepth 100000
theorem qYr (x y z : Value) (w : World) : qHv Tryz.prog (qVv 30 [x, y, z]) w := by
  refine ⟨_, _, 30, #[x, y, z], rfl, ?_, ?_⟩
  · simp [qVv, invoke, callFunc, Tryz.func30, Tryz.f30]
  · refine callsDIn_of_wpSIn Tryz.func30 rfl trivial fun c₀ cs hu => ?_
    apply wpSIn_seq
    apply wpSIn_region
    simp [wpOpsSIn, go_sem, recoverD, hu, Tryz.ntmps30, Exit.thenS]
    refine wpSIn_of_wpIn rfl (qX6.2 ?_)
    go_wp2
    cases c₀
    simp_all [bodyPostS, results, Tryz.results30]
end Go.KB
