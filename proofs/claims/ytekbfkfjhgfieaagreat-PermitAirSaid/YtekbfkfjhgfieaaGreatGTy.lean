/- What the translation says of its types. Printed by a program. No condition. -/
import Derived.Test.YtekbfkfjhgfieaaGreatGTypes
import Derived.Test.YtekbfkfjhgfieaaGreatProg
namespace Go.KB
open Go.Proofs
theorem jHk : jK0 Tryz.prog 26 GPermitPlan.rep := ⟨fun _ => by kernel_rfl, fun _ => by kernel_rfl, fun _ => by kernel_rfl⟩
theorem jK1 : jQv Tryz.prog 26 0 0 := jQv.of (by kernel_rfl)
theorem jM6 : jK0 Tryz.prog 22 (Rep.slice jJ5.rep) := ⟨fun _ => by kernel_rfl, fun _ => by kernel_rfl, fun _ => by kernel_rfl⟩
theorem jFg : Tryz.prog.underlying 22 = some (.slice 64) := by kernel_rfl
theorem jL7 : jQv Tryz.prog 26 1 1 := jQv.of (by kernel_rfl)
theorem qWl : jK0 Tryz.prog 23 (Rep.slice jJt.rep) := ⟨fun _ => by kernel_rfl, fun _ => by kernel_rfl, fun _ => by kernel_rfl⟩
theorem jA2 : Tryz.prog.underlying 23 = some (.slice 56) := by kernel_rfl
theorem jKm : jQv Tryz.prog 26 2 2 := jQv.of (by kernel_rfl)
theorem jMh : jK0 Tryz.prog 24 (Rep.slice jJu.rep) := ⟨fun _ => by kernel_rfl, fun _ => by kernel_rfl, fun _ => by kernel_rfl⟩
theorem jDv : Tryz.prog.underlying 24 = some (.slice 58) := by kernel_rfl
theorem jGt : jK0 Tryz.prog 64 jJ5.rep := ⟨fun _ => by kernel_rfl, fun _ => by kernel_rfl, fun _ => by kernel_rfl⟩
theorem jF8 : jQv Tryz.prog 64 2 2 := jQv.of (by kernel_rfl)
theorem jPk : jK0 Tryz.prog 36 (Rep.slice Rep.str) := ⟨fun _ => by kernel_rfl, fun _ => by kernel_rfl, fun _ => by kernel_rfl⟩
theorem jUq : Tryz.prog.underlying 36 = some (.slice 9) := by kernel_rfl
theorem jHj : jQv Tryz.prog 64 0 0 := jQv.of (by kernel_rfl)
theorem ty9 : jK0 Tryz.prog 9 Rep.str := ⟨fun _ => by kernel_rfl, fun _ => by kernel_rfl, fun _ => by kernel_rfl⟩
theorem un9 : Tryz.prog.underlying 9 = some (.string) := by kernel_rfl
theorem jKr : jK0 Tryz.prog 58 jJu.rep := ⟨fun _ => by kernel_rfl, fun _ => by kernel_rfl, fun _ => by kernel_rfl⟩
theorem jL4 : jQv Tryz.prog 58 5 5 := jQv.of (by kernel_rfl)
theorem jKa : jQv Tryz.prog 58 0 0 := jQv.of (by kernel_rfl)
theorem jC0 : jQv Tryz.prog 26 3 3 := jQv.of (by kernel_rfl)
theorem ty3 : jK0 Tryz.prog 3 jZk := ⟨fun _ => by kernel_rfl, fun _ => by kernel_rfl, fun _ => by kernel_rfl⟩
theorem jTn : jK0 Tryz.prog 56 jJt.rep := ⟨fun _ => by kernel_rfl, fun _ => by kernel_rfl, fun _ => by kernel_rfl⟩
theorem qJ5 : jQv Tryz.prog 56 0 0 := jQv.of (by kernel_rfl)
theorem qJd : jQv Tryz.prog 56 1 1 := jQv.of (by kernel_rfl)
theorem jT9 : jQv Tryz.prog 56 2 2 := jQv.of (by kernel_rfl)
theorem jGl : jQv Tryz.prog 58 1 1 := jQv.of (by kernel_rfl)
theorem jSp : jQv Tryz.prog 58 3 3 := jQv.of (by kernel_rfl)
theorem jSu : jQv Tryz.prog 58 4 4 := jQv.of (by kernel_rfl)
theorem jD1 : jQv Tryz.prog 58 2 2 := jQv.of (by kernel_rfl)
theorem qQa : Tryz.prog.underlying 27 = some (.slice 45) := by kernel_rfl
theorem pl64 : jVp Tryz.prog 64 (fun i => [(0, 1), (1, 1), (2, 1)][i]?) := jVp.of (by kernel_rfl)
theorem pl56 : jVp Tryz.prog 56 (fun i => [(0, 1), (1, 1), (2, 1)][i]?) := jVp.of (by kernel_rfl)
theorem pl58 : jVp Tryz.prog 58 (fun i => [(0, 1), (1, 1), (2, 1), (3, 1), (4, 1), (5, 1)][i]?) := jVp.of (by kernel_rfl)
theorem pl26 : jVp Tryz.prog 26 (fun i => [(0, 1), (1, 1), (2, 1), (3, 1)][i]?) := jVp.of (by kernel_rfl)
theorem ko9 : jLs Tryz.prog 9 Rep.str jQ1 := jLs.str un9
theorem ty4 : jK0 Tryz.prog 4 Rep.bool := ⟨fun _ => by kernel_rfl, fun _ => by kernel_rfl, fun _ => by kernel_rfl⟩
theorem qZk : Tryz.prog.underlying 180 = some (.map 9 4) := by kernel_rfl
def jNu : Rep (GPermitPlan × Value × Value) := Rep.iso (Rep.prod Rep.raw (Rep.prod (Rep.slice jJt.rep) (Rep.prod Rep.raw (Rep.prod jZk Rep.unit)))) (fun s => (s.2.1, (s.1.Exclusions, (s.2.2, (s.1.GasMinutes, ()))))) (fun t => (⟨[], t.2.1, [], t.2.2.2.1⟩, t.1, t.2.2.1)) (fun _ => rfl)
theorem jTz : Lens jNu Rep.raw 0 (fun y => y.2.1) (fun y z => (y.1, (fun p z => ((z, p.2) : Value × Value)) y.2 z)) := (Lens.iso _ _ _ _).comp (Lens.fst _ _)
theorem qUf : Lens jNu (Rep.slice jJt.rep) 1 (fun y => y.1.Exclusions) (fun y z => ((fun x z => ({ x with Exclusions := z } : GPermitPlan)) y.1 z, y.2)) := (Lens.iso _ _ _ _).comp ((Lens.snd _ _).comp (Lens.fst _ _))
theorem jTy : Lens jNu Rep.raw 2 (fun y => y.2.2) (fun y z => (y.1, (fun p z => ((p.1, z) : Value × Value)) y.2 z)) := (Lens.iso _ _ _ _).comp ((Lens.snd _ _).comp ((Lens.snd _ _).comp (Lens.fst _ _)))
theorem hh26_l3 : Lens jNu jZk 3 (fun y => y.1.GasMinutes) (fun y z => ((fun x z => ({ x with GasMinutes := z } : GPermitPlan)) y.1 z, y.2)) := (Lens.iso _ _ _ _).comp ((Lens.snd _ _).comp ((Lens.snd _ _).comp ((Lens.snd _ _).comp (Lens.fst _ _))))
theorem qUx {h : H} {cs : List Value} {x : GPermitPlan} (hr : GPermitPlan.rep.rel h cs x) : ∃ p, jNu.rel h cs (x, p) := by
  obtain ⟨c0, d0, rfl, k0, c1, d1, rfl, k1, c2, d2, rfl, k2, c3, d3, rfl, k3, kk⟩ := hr
  have f0 := (Rep.slice jJ5.rep).flat k0
  obtain ⟨v0, rfl, _⟩ := k0
  have f2 := (Rep.slice jJu.rep).flat k2
  obtain ⟨v2, rfl, _⟩ := k2
  exact ⟨(v0, v2), _, _, rfl, ⟨rfl, f0 v0 (by simp)⟩, _, _, rfl, k1, _, _, rfl, ⟨rfl, f2 v2 (by simp)⟩, _, _, rfl, k3, kk⟩
theorem qW0 {x : GPermitPlan} {v0 v2 : Value} {y0 : (List jJ5)} {y2 : (List jJu)} (h : H) (cs : List Value) (hr : jNu.rel h cs (x, v0, v2)) (s0 : (Rep.slice jJ5.rep).rel h [v0] y0) (s2 : (Rep.slice jJu.rep).rel h [v2] y2) : GPermitPlan.rep.rel h cs ({ x with Spaces := y0, Permits := y2 } : GPermitPlan) := by
  obtain ⟨c0, d0, rfl, ⟨rfl, _⟩, c1, d1, rfl, k1, c2, d2, rfl, ⟨rfl, _⟩, c3, d3, rfl, k3, kk⟩ := hr
  exact ⟨_, _, rfl, s0, _, _, rfl, k1, _, _, rfl, s2, _, _, rfl, k3, kk⟩
theorem el64 : jTu Tryz.prog 64 jJ5.rep := by unfold jTu; kernel_rfl
theorem el56 : jTu Tryz.prog 56 jJt.rep := by unfold jTu; kernel_rfl
theorem el58 : jTu Tryz.prog 58 jJu.rep := by unfold jTu; kernel_rfl
theorem el9 : jTu Tryz.prog 9 Rep.str := by unfold jTu; kernel_rfl
theorem ty110 : jK0 Tryz.prog 110 jJq.rep := ⟨fun _ => by kernel_rfl, fun _ => by kernel_rfl, fun _ => by kernel_rfl⟩
theorem pl110 : jVp Tryz.prog 110 (fun i => [(0, 4), (4, 1), (5, 1), (6, 1), (7, 1), (8, 1)][i]?) := jVp.of (by kernel_rfl)
theorem jD6 : jQv Tryz.prog 110 2 5 := jQv.of (by kernel_rfl)
theorem jL5 : jK0 Tryz.prog 106 Rep.rawM := ⟨fun _ => by kernel_rfl, fun _ => by kernel_rfl, fun _ => by kernel_rfl⟩
theorem jL2 : jK0 Tryz.prog 112 jJj.rep := ⟨fun _ => by kernel_rfl, fun _ => by kernel_rfl, fun _ => by kernel_rfl⟩
theorem pl112 : jVp Tryz.prog 112 (fun i => [(0, 1), (1, 1), (2, 1)][i]?) := jVp.of (by kernel_rfl)
theorem jRe : Tryz.prog.underlying 106 = some (.map 9 112) := by kernel_rfl
theorem jK7 : jQv Tryz.prog 110 0 0 := jQv.of (by kernel_rfl)
theorem jTs : Tryz.prog.underlying 35 = some (.slice 3) := by kernel_rfl
theorem qK9 : jFc Tryz.prog 112 0 = some (3, 0) := by kernel_rfl
theorem qUp : jFc Tryz.prog 112 2 = some (3, 2) := by kernel_rfl
theorem jMl : jQv Tryz.prog 110 1 4 := jQv.of (by kernel_rfl)
theorem qZh : jQv Tryz.prog 112 0 0 := jQv.of (by kernel_rfl)
theorem jFw : jK0 Tryz.prog 30 Rep.rawP := ⟨fun _ => by kernel_rfl, fun _ => by kernel_rfl, fun _ => by kernel_rfl⟩
theorem jRb : jQv Tryz.prog 64 1 1 := jQv.of (by kernel_rfl)
theorem qV5 : jQv Tryz.prog 110 3 6 := jQv.of (by kernel_rfl)
theorem qKz : jK0 Tryz.prog 107 Rep.rawM := ⟨fun _ => by kernel_rfl, fun _ => by kernel_rfl, fun _ => by kernel_rfl⟩
theorem qYq : jK0 Tryz.prog 189 jJz.rep := ⟨fun _ => by kernel_rfl, fun _ => by kernel_rfl, fun _ => by kernel_rfl⟩
theorem un107 : Tryz.prog.underlying 107 = some (.map 9 189) := by kernel_rfl
theorem qU2 : jQv Tryz.prog 189 0 0 := jQv.of (by kernel_rfl)
theorem qWk : jQv Tryz.prog 189 1 1 := jQv.of (by kernel_rfl)
theorem qWv : jQv Tryz.prog 189 2 2 := jQv.of (by kernel_rfl)
theorem qQ5 : jK0 Tryz.prog 45 GEvent.rep := ⟨fun _ => by kernel_rfl, fun _ => by kernel_rfl, fun _ => by kernel_rfl⟩
theorem pl45 : jVp Tryz.prog 45 (fun i => [(0, 1), (1, 1), (2, 1), (3, 1), (4, 1), (5, 1), (6, 1), (7, 1)][i]?) := jVp.of (by kernel_rfl)
theorem jLr : jK0 Tryz.prog 120 jJb.rep := ⟨fun _ => by kernel_rfl, fun _ => by kernel_rfl, fun _ => by kernel_rfl⟩
theorem jPv : jVp Tryz.prog 120 (fun i => [(0, 1), (1, 1), (2, 1), (3, 1)][i]?) := jVp.of (by kernel_rfl)
theorem qYl : Tryz.prog.underlying 115 = some (.slice 120) := by kernel_rfl
theorem qKq : Tryz.prog.underlying 30 = some (.pointer (Tryz.prog.pointee 30)) := by kernel_rfl
theorem jSh : jQv Tryz.prog 45 1 1 := jQv.of (by kernel_rfl)
theorem qJh : jQv Tryz.prog 45 0 0 := jQv.of (by kernel_rfl)
theorem qZx : jQv Tryz.prog 120 2 2 := jQv.of (by kernel_rfl)
theorem tye35 : jK0 Tryz.prog 35 (Rep.sliceE jZk) := ⟨fun _ => by kernel_rfl, fun _ => by kernel_rfl, fun _ => by kernel_rfl⟩
theorem jDe : jQv Tryz.prog 45 2 2 := jQv.of (by kernel_rfl)
theorem qK7 : jQv Tryz.prog 120 3 3 := jQv.of (by kernel_rfl)
theorem ty118 : jK0 Tryz.prog 118 Rep.fnum := ⟨fun _ => by kernel_rfl, fun _ => by kernel_rfl, fun _ => by kernel_rfl⟩
theorem jZ4 : jK0 Tryz.prog 125 jJk.rep := ⟨fun _ => by kernel_rfl, fun _ => by kernel_rfl, fun _ => by kernel_rfl⟩
theorem jPj : jVp Tryz.prog 125 (fun i => [(0, 1), (1, 1)][i]?) := jVp.of (by kernel_rfl)
theorem jLq : jQv Tryz.prog 45 4 4 := jQv.of (by kernel_rfl)
theorem qU3 : jQv Tryz.prog 112 1 1 := jQv.of (by kernel_rfl)
theorem qUs : jFc Tryz.prog 112 1 = some (9, 1) := by kernel_rfl
theorem jL0 : jK0 Tryz.prog 148 jJ9.rep := ⟨fun _ => by kernel_rfl, fun _ => by kernel_rfl, fun _ => by kernel_rfl⟩
theorem qV0 : jVp Tryz.prog 148 (fun i => [(0, 1), (1, 1)][i]?) := jVp.of (by kernel_rfl)
theorem un86 : Tryz.prog.underlying 86 = some (.slice 148) := by kernel_rfl
theorem jNr : jQv Tryz.prog 110 4 7 := jQv.of (by kernel_rfl)
theorem jSd : jK0 Tryz.prog 108 Rep.rawM := ⟨fun _ => by kernel_rfl, fun _ => by kernel_rfl, fun _ => by kernel_rfl⟩
theorem qX1 : Tryz.prog.underlying 108 = some (.map 9 9) := by kernel_rfl
theorem el148 : jTu Tryz.prog 148 jJ9.rep := by unfold jTu; kernel_rfl
theorem qJk : jQv Tryz.prog 148 1 1 := jQv.of (by kernel_rfl)
theorem qV4 : jQv Tryz.prog 148 0 0 := jQv.of (by kernel_rfl)
theorem ty31 : jK0 Tryz.prog 31 jZk := ⟨fun _ => by kernel_rfl, fun _ => by kernel_rfl, fun _ => by kernel_rfl⟩
theorem jT8 : jQv Tryz.prog 45 3 3 := jQv.of (by kernel_rfl)
theorem qZr : jQv Tryz.prog 45 5 5 := jQv.of (by kernel_rfl)
theorem qVy : jQv Tryz.prog 45 6 6 := jQv.of (by kernel_rfl)
theorem pl189 : jVp Tryz.prog 189 (fun i => [(0, 1), (1, 1), (2, 1)][i]?) := jVp.of (by kernel_rfl)
theorem qQl : jQv Tryz.prog 45 7 7 := jQv.of (by kernel_rfl)
theorem qV8 : jQv Tryz.prog 112 2 2 := jQv.of (by kernel_rfl)
theorem qVf : jQv Tryz.prog 125 1 1 := jQv.of (by kernel_rfl)
theorem qUh : jQv Tryz.prog 125 0 0 := jQv.of (by kernel_rfl)
theorem jAg : jQv Tryz.prog 110 5 8 := jQv.of (by kernel_rfl)
theorem ty27 : jK0 Tryz.prog 27 (Rep.slice GEvent.rep) := ⟨fun _ => by kernel_rfl, fun _ => by kernel_rfl, fun _ => by kernel_rfl⟩
theorem el45 : jTu Tryz.prog 45 GEvent.rep := by unfold jTu; kernel_rfl
theorem un3 : Tryz.prog.underlying 3 = some (.int .i64) := by kernel_rfl
theorem un4 : Tryz.prog.underlying 4 = some (.bool) := by kernel_rfl
end Go.KB
