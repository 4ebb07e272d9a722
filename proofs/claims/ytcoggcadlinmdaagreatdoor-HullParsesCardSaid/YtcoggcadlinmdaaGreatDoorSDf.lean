/- hull.Parse's deferred closure finds nothing to recover as Parse returns. No condition. -/
import Derived.Test.YtcoggcadlinmdaaGreatDoorKZh
import Derived.Tactics
import Derived.Tactics2
namespace Go.KB
open Go.Proofs
set_option maxRecDepth 100000
theorem qWh (x y z : Value) (w : World) : qGg Tryz.prog (jAg 18 [x, y, z]) w := by
  refine ⟨_, _, 18, #[x, y, z], rfl, ?_, ?_⟩
  · simp [jAg, invoke, callFunc, Tryz.func18, Tryz.f18]
  · refine callsDIn_of_wpSIn Tryz.func18 rfl trivial fun c₀ cs hu => ?_
    apply wpSIn_seq
    apply wpSIn_region
    simp [wpOpsSIn, go_sem, recoverD, hu, Tryz.ntmps18, Exit.thenS]
    refine wpSIn_of_wpIn rfl (qXv.2 ?_)
    go_wp2
    cases c₀
    simp_all [bodyPostS, results, Tryz.results18]
end Go.KB
