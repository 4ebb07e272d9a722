/- What the translation says of its types. Printed by a program. No condition. -/
import Derived.Test.YtekbfkfjhgfieaaGreatGTypes
import Derived.Test.YtekbfkfjhgfieaaGreatProg
namespace Go.KB
open Go.Proofs
theorem jHb : jKu Tryz.prog 26 GPermitPlan.rep := ⟨fun _ => by kernel_rfl, fun _ => by kernel_rfl, fun _ => by kernel_rfl⟩
theorem jKm : jQv Tryz.prog 26 0 0 := jQv.of (by kernel_rfl)
theorem jM2 : jKu Tryz.prog 22 (Rep.slice jJ4.rep) := ⟨fun _ => by kernel_rfl, fun _ => by kernel_rfl, fun _ => by kernel_rfl⟩
theorem jD1 : Tryz.prog.underlying 22 = some (.slice 64) := by kernel_rfl
theorem jLt : jQv Tryz.prog 26 1 1 := jQv.of (by kernel_rfl)
theorem qVh : jKu Tryz.prog 23 (Rep.slice jJs.rep) := ⟨fun _ => by kernel_rfl, fun _ => by kernel_rfl, fun _ => by kernel_rfl⟩
theorem jCs : Tryz.prog.underlying 23 = some (.slice 56) := by kernel_rfl
theorem jY0 : jQv Tryz.prog 26 2 2 := jQv.of (by kernel_rfl)
theorem jLb : jKu Tryz.prog 24 (Rep.slice jJg.rep) := ⟨fun _ => by kernel_rfl, fun _ => by kernel_rfl, fun _ => by kernel_rfl⟩
theorem jBw : Tryz.prog.underlying 24 = some (.slice 58) := by kernel_rfl
theorem jGn : jKu Tryz.prog 64 jJ4.rep := ⟨fun _ => by kernel_rfl, fun _ => by kernel_rfl, fun _ => by kernel_rfl⟩
theorem jFc : jQv Tryz.prog 64 2 2 := jQv.of (by kernel_rfl)
theorem jNh : jKu Tryz.prog 36 (Rep.slice Rep.str) := ⟨fun _ => by kernel_rfl, fun _ => by kernel_rfl, fun _ => by kernel_rfl⟩
theorem jUk : Tryz.prog.underlying 36 = some (.slice 9) := by kernel_rfl
theorem jG0 : jQv Tryz.prog 64 0 0 := jQv.of (by kernel_rfl)
theorem ty9 : jKu Tryz.prog 9 Rep.str := ⟨fun _ => by kernel_rfl, fun _ => by kernel_rfl, fun _ => by kernel_rfl⟩
theorem un9 : Tryz.prog.underlying 9 = some (.string) := by kernel_rfl
theorem jKn : jKu Tryz.prog 58 jJg.rep := ⟨fun _ => by kernel_rfl, fun _ => by kernel_rfl, fun _ => by kernel_rfl⟩
theorem jLn : jQv Tryz.prog 58 5 5 := jQv.of (by kernel_rfl)
theorem jKg : jQv Tryz.prog 58 0 0 := jQv.of (by kernel_rfl)
theorem jCb : jQv Tryz.prog 26 3 3 := jQv.of (by kernel_rfl)
theorem ty3 : jKu Tryz.prog 3 jXj := ⟨fun _ => by kernel_rfl, fun _ => by kernel_rfl, fun _ => by kernel_rfl⟩
theorem jTx : jKu Tryz.prog 56 jJs.rep := ⟨fun _ => by kernel_rfl, fun _ => by kernel_rfl, fun _ => by kernel_rfl⟩
theorem qJ6 : jQv Tryz.prog 56 0 0 := jQv.of (by kernel_rfl)
theorem qJs : jQv Tryz.prog 56 1 1 := jQv.of (by kernel_rfl)
theorem jTa : jQv Tryz.prog 56 2 2 := jQv.of (by kernel_rfl)
theorem jGl : jQv Tryz.prog 58 1 1 := jQv.of (by kernel_rfl)
theorem jCz : jQv Tryz.prog 58 3 3 := jQv.of (by kernel_rfl)
theorem jCd : jQv Tryz.prog 58 4 4 := jQv.of (by kernel_rfl)
theorem jDy : jQv Tryz.prog 58 2 2 := jQv.of (by kernel_rfl)
theorem qWx : Tryz.prog.underlying 27 = some (.slice 45) := by kernel_rfl
theorem pl64 : jVd Tryz.prog 64 (fun i => [(0, 1), (1, 1), (2, 1)][i]?) := jVd.of (by kernel_rfl)
theorem pl56 : jVd Tryz.prog 56 (fun i => [(0, 1), (1, 1), (2, 1)][i]?) := jVd.of (by kernel_rfl)
theorem pl58 : jVd Tryz.prog 58 (fun i => [(0, 1), (1, 1), (2, 1), (3, 1), (4, 1), (5, 1)][i]?) := jVd.of (by kernel_rfl)
theorem pl26 : jVd Tryz.prog 26 (fun i => [(0, 1), (1, 1), (2, 1), (3, 1)][i]?) := jVd.of (by kernel_rfl)
theorem ko9 : jLw Tryz.prog 9 Rep.str jQ1 := jLw.str un9
theorem ty4 : jKu Tryz.prog 4 Rep.bool := ⟨fun _ => by kernel_rfl, fun _ => by kernel_rfl, fun _ => by kernel_rfl⟩
theorem qZv : Tryz.prog.underlying 180 = some (.map 9 4) := by kernel_rfl
def jNz : Rep (GPermitPlan × Value × Value) := Rep.iso (Rep.prod Rep.raw (Rep.prod (Rep.slice jJs.rep) (Rep.prod Rep.raw (Rep.prod jXj Rep.unit)))) (fun s => (s.2.1, (s.1.Exclusions, (s.2.2, (s.1.GasMinutes, ()))))) (fun t => (⟨[], t.2.1, [], t.2.2.2.1⟩, t.1, t.2.2.1)) (fun _ => rfl)
theorem jSm : Lens jNz Rep.raw 0 (fun y => y.2.1) (fun y z => (y.1, (fun p z => ((z, p.2) : Value × Value)) y.2 z)) := (Lens.iso _ _ _ _).comp (Lens.fst _ _)
theorem qKy : Lens jNz (Rep.slice jJs.rep) 1 (fun y => y.1.Exclusions) (fun y z => ((fun x z => ({ x with Exclusions := z } : GPermitPlan)) y.1 z, y.2)) := (Lens.iso _ _ _ _).comp ((Lens.snd _ _).comp (Lens.fst _ _))
theorem jS5 : Lens jNz Rep.raw 2 (fun y => y.2.2) (fun y z => (y.1, (fun p z => ((p.1, z) : Value × Value)) y.2 z)) := (Lens.iso _ _ _ _).comp ((Lens.snd _ _).comp ((Lens.snd _ _).comp (Lens.fst _ _)))
theorem hh26_l3 : Lens jNz jXj 3 (fun y => y.1.GasMinutes) (fun y z => ((fun x z => ({ x with GasMinutes := z } : GPermitPlan)) y.1 z, y.2)) := (Lens.iso _ _ _ _).comp ((Lens.snd _ _).comp ((Lens.snd _ _).comp ((Lens.snd _ _).comp (Lens.fst _ _))))
theorem qKq {h : H} {cs : List Value} {x : GPermitPlan} (hr : GPermitPlan.rep.rel h cs x) : ∃ p, jNz.rel h cs (x, p) := by
  obtain ⟨c0, d0, rfl, k0, c1, d1, rfl, k1, c2, d2, rfl, k2, c3, d3, rfl, k3, kk⟩ := hr
  have f0 := (Rep.slice jJ4.rep).flat k0
  obtain ⟨v0, rfl, _⟩ := k0
  have f2 := (Rep.slice jJg.rep).flat k2
  obtain ⟨v2, rfl, _⟩ := k2
  exact ⟨(v0, v2), _, _, rfl, ⟨rfl, f0 v0 (by simp)⟩, _, _, rfl, k1, _, _, rfl, ⟨rfl, f2 v2 (by simp)⟩, _, _, rfl, k3, kk⟩
theorem qWz {x : GPermitPlan} {v0 v2 : Value} {y0 : (List jJ4)} {y2 : (List jJg)} (h : H) (cs : List Value) (hr : jNz.rel h cs (x, v0, v2)) (s0 : (Rep.slice jJ4.rep).rel h [v0] y0) (s2 : (Rep.slice jJg.rep).rel h [v2] y2) : GPermitPlan.rep.rel h cs ({ x with Spaces := y0, Permits := y2 } : GPermitPlan) := by
  obtain ⟨c0, d0, rfl, ⟨rfl, _⟩, c1, d1, rfl, k1, c2, d2, rfl, ⟨rfl, _⟩, c3, d3, rfl, k3, kk⟩ := hr
  exact ⟨_, _, rfl, s0, _, _, rfl, k1, _, _, rfl, s2, _, _, rfl, k3, kk⟩
theorem el64 : jPt Tryz.prog 64 jJ4.rep := by unfold jPt; kernel_rfl
theorem el56 : jPt Tryz.prog 56 jJs.rep := by unfold jPt; kernel_rfl
theorem el58 : jPt Tryz.prog 58 jJg.rep := by unfold jPt; kernel_rfl
theorem el9 : jPt Tryz.prog 9 Rep.str := by unfold jPt; kernel_rfl
theorem ty110 : jKu Tryz.prog 110 jJq.rep := ⟨fun _ => by kernel_rfl, fun _ => by kernel_rfl, fun _ => by kernel_rfl⟩
theorem pl110 : jVd Tryz.prog 110 (fun i => [(0, 4), (4, 1), (5, 1), (6, 1), (7, 1), (8, 1)][i]?) := jVd.of (by kernel_rfl)
theorem jB2 : jQv Tryz.prog 110 2 5 := jQv.of (by kernel_rfl)
theorem jF7 : jKu Tryz.prog 106 Rep.rawM := ⟨fun _ => by kernel_rfl, fun _ => by kernel_rfl, fun _ => by kernel_rfl⟩
theorem jFq : jKu Tryz.prog 112 jJj.rep := ⟨fun _ => by kernel_rfl, fun _ => by kernel_rfl, fun _ => by kernel_rfl⟩
theorem pl112 : jVd Tryz.prog 112 (fun i => [(0, 1), (1, 1), (2, 1)][i]?) := jVd.of (by kernel_rfl)
theorem jPy : Tryz.prog.underlying 106 = some (.map 9 112) := by kernel_rfl
theorem jK1 : jQv Tryz.prog 110 0 0 := jQv.of (by kernel_rfl)
theorem jPm : Tryz.prog.underlying 35 = some (.slice 3) := by kernel_rfl
theorem qKj : jFx Tryz.prog 112 0 = some (3, 0) := by kernel_rfl
theorem qK8 : jFx Tryz.prog 112 2 = some (3, 2) := by kernel_rfl
theorem jMq : jQv Tryz.prog 110 1 4 := jQv.of (by kernel_rfl)
theorem jAd : jQv Tryz.prog 112 0 0 := jQv.of (by kernel_rfl)
theorem jDs : jKu Tryz.prog 30 Rep.rawP := ⟨fun _ => by kernel_rfl, fun _ => by kernel_rfl, fun _ => by kernel_rfl⟩
theorem jRw : jQv Tryz.prog 64 1 1 := jQv.of (by kernel_rfl)
theorem qZs : jQv Tryz.prog 110 3 6 := jQv.of (by kernel_rfl)
theorem qYw : jKu Tryz.prog 107 Rep.rawM := ⟨fun _ => by kernel_rfl, fun _ => by kernel_rfl, fun _ => by kernel_rfl⟩
theorem qWy : jKu Tryz.prog 189 jJz.rep := ⟨fun _ => by kernel_rfl, fun _ => by kernel_rfl, fun _ => by kernel_rfl⟩
theorem un107 : Tryz.prog.underlying 107 = some (.map 9 189) := by kernel_rfl
theorem qKg : jQv Tryz.prog 189 0 0 := jQv.of (by kernel_rfl)
theorem qVq : jQv Tryz.prog 189 1 1 := jQv.of (by kernel_rfl)
theorem qZl : jQv Tryz.prog 189 2 2 := jQv.of (by kernel_rfl)
theorem qQ6 : jKu Tryz.prog 45 GEvent.rep := ⟨fun _ => by kernel_rfl, fun _ => by kernel_rfl, fun _ => by kernel_rfl⟩
theorem pl45 : jVd Tryz.prog 45 (fun i => [(0, 1), (1, 1), (2, 1), (3, 1), (4, 1), (5, 1), (6, 1), (7, 1)][i]?) := jVd.of (by kernel_rfl)
theorem jF5 : jKu Tryz.prog 120 jJb.rep := ⟨fun _ => by kernel_rfl, fun _ => by kernel_rfl, fun _ => by kernel_rfl⟩
theorem jNa : jVd Tryz.prog 120 (fun i => [(0, 1), (1, 1), (2, 1), (3, 1)][i]?) := jVd.of (by kernel_rfl)
theorem qWu : Tryz.prog.underlying 115 = some (.slice 120) := by kernel_rfl
theorem un30 : Tryz.prog.underlying 30 = some (.pointer (Tryz.prog.pointee 30)) := by kernel_rfl
theorem jRb : jQv Tryz.prog 45 1 1 := jQv.of (by kernel_rfl)
theorem qJk : jQv Tryz.prog 45 0 0 := jQv.of (by kernel_rfl)
theorem qVx : jQv Tryz.prog 120 2 2 := jQv.of (by kernel_rfl)
theorem tye35 : jKu Tryz.prog 35 (Rep.sliceE jXj) := ⟨fun _ => by kernel_rfl, fun _ => by kernel_rfl, fun _ => by kernel_rfl⟩
theorem jDg : jQv Tryz.prog 45 2 2 := jQv.of (by kernel_rfl)
theorem qKl : jQv Tryz.prog 120 3 3 := jQv.of (by kernel_rfl)
theorem ty118 : jKu Tryz.prog 118 Rep.fnum := ⟨fun _ => by kernel_rfl, fun _ => by kernel_rfl, fun _ => by kernel_rfl⟩
theorem jZ3 : jKu Tryz.prog 125 jJk.rep := ⟨fun _ => by kernel_rfl, fun _ => by kernel_rfl, fun _ => by kernel_rfl⟩
theorem jNm : jVd Tryz.prog 125 (fun i => [(0, 1), (1, 1)][i]?) := jVd.of (by kernel_rfl)
theorem jLz : jQv Tryz.prog 45 4 4 := jQv.of (by kernel_rfl)
theorem qY6 : jQv Tryz.prog 112 1 1 := jQv.of (by kernel_rfl)
theorem qK4 : jFx Tryz.prog 112 1 = some (9, 1) := by kernel_rfl
theorem jLf : jKu Tryz.prog 148 jJ7.rep := ⟨fun _ => by kernel_rfl, fun _ => by kernel_rfl, fun _ => by kernel_rfl⟩
theorem qZm : jVd Tryz.prog 148 (fun i => [(0, 1), (1, 1)][i]?) := jVd.of (by kernel_rfl)
theorem un86 : Tryz.prog.underlying 86 = some (.slice 148) := by kernel_rfl
theorem jNj : jQv Tryz.prog 110 4 7 := jQv.of (by kernel_rfl)
theorem jR1 : jKu Tryz.prog 108 Rep.rawM := ⟨fun _ => by kernel_rfl, fun _ => by kernel_rfl, fun _ => by kernel_rfl⟩
theorem qQz : Tryz.prog.underlying 108 = some (.map 9 9) := by kernel_rfl
theorem el148 : jPt Tryz.prog 148 jJ7.rep := by unfold jPt; kernel_rfl
theorem jAh : jQv Tryz.prog 148 1 1 := jQv.of (by kernel_rfl)
theorem qZt : jQv Tryz.prog 148 0 0 := jQv.of (by kernel_rfl)
theorem ty31 : jKu Tryz.prog 31 jXj := ⟨fun _ => by kernel_rfl, fun _ => by kernel_rfl, fun _ => by kernel_rfl⟩
theorem jTt : jQv Tryz.prog 45 3 3 := jQv.of (by kernel_rfl)
theorem qX8 : jQv Tryz.prog 45 5 5 := jQv.of (by kernel_rfl)
theorem qX2 : jQv Tryz.prog 45 6 6 := jQv.of (by kernel_rfl)
theorem pl189 : jVd Tryz.prog 189 (fun i => [(0, 1), (1, 1), (2, 1)][i]?) := jVd.of (by kernel_rfl)
theorem qZf : jQv Tryz.prog 45 7 7 := jQv.of (by kernel_rfl)
theorem qXq : jQv Tryz.prog 112 2 2 := jQv.of (by kernel_rfl)
theorem qZc : jQv Tryz.prog 125 1 1 := jQv.of (by kernel_rfl)
theorem qY2 : jQv Tryz.prog 125 0 0 := jQv.of (by kernel_rfl)
theorem qZu : jQv Tryz.prog 110 5 8 := jQv.of (by kernel_rfl)
theorem ty27 : jKu Tryz.prog 27 (Rep.slice GEvent.rep) := ⟨fun _ => by kernel_rfl, fun _ => by kernel_rfl, fun _ => by kernel_rfl⟩
theorem el45 : jPt Tryz.prog 45 GEvent.rep := by unfold jPt; kernel_rfl
theorem el3 : jPt Tryz.prog 3 jXj := by unfold jPt; kernel_rfl
theorem un3 : Tryz.prog.underlying 3 = some (.int .i64) := by kernel_rfl
theorem un4 : Tryz.prog.underlying 4 = some (.bool) := by kernel_rfl
end Go.KB
