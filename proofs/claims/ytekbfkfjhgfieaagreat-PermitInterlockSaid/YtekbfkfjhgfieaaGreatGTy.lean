/- What the translation says of its types. Printed by a program. No condition. -/
import Derived.Test.YtekbfkfjhgfieaaGreatGTypes
import Derived.Test.YtekbfkfjhgfieaaGreatProg
namespace Go.KB
open Go.Proofs
theorem jG4 : jK2 Tryz.prog 26 GPermitPlan.rep := ⟨fun _ => by kernel_rfl, fun _ => by kernel_rfl, fun _ => by kernel_rfl⟩
theorem jK6 : jQk Tryz.prog 26 0 0 := jQk.of (by kernel_rfl)
theorem jNq : jK2 Tryz.prog 22 (Rep.slice jJ5.rep) := ⟨fun _ => by kernel_rfl, fun _ => by kernel_rfl, fun _ => by kernel_rfl⟩
theorem jFw : Tryz.prog.underlying 22 = some (.slice 64) := by kernel_rfl
theorem jMq : jQk Tryz.prog 26 1 1 := jQk.of (by kernel_rfl)
theorem qWu : jK2 Tryz.prog 23 (Rep.slice jJr.rep) := ⟨fun _ => by kernel_rfl, fun _ => by kernel_rfl, fun _ => by kernel_rfl⟩
theorem qJw : Tryz.prog.underlying 23 = some (.slice 56) := by kernel_rfl
theorem jK1 : jQk Tryz.prog 26 2 2 := jQk.of (by kernel_rfl)
theorem jMr : jK2 Tryz.prog 24 (Rep.slice jJu.rep) := ⟨fun _ => by kernel_rfl, fun _ => by kernel_rfl, fun _ => by kernel_rfl⟩
theorem jBq : Tryz.prog.underlying 24 = some (.slice 58) := by kernel_rfl
theorem jG2 : jK2 Tryz.prog 64 jJ5.rep := ⟨fun _ => by kernel_rfl, fun _ => by kernel_rfl, fun _ => by kernel_rfl⟩
theorem jLw : jQk Tryz.prog 64 2 2 := jQk.of (by kernel_rfl)
theorem jN2 : jK2 Tryz.prog 36 (Rep.slice Rep.str) := ⟨fun _ => by kernel_rfl, fun _ => by kernel_rfl, fun _ => by kernel_rfl⟩
theorem jK8 : Tryz.prog.underlying 36 = some (.slice 9) := by kernel_rfl
theorem jHx : jQk Tryz.prog 64 0 0 := jQk.of (by kernel_rfl)
theorem ty9 : jK2 Tryz.prog 9 Rep.str := ⟨fun _ => by kernel_rfl, fun _ => by kernel_rfl, fun _ => by kernel_rfl⟩
theorem un9 : Tryz.prog.underlying 9 = some (.string) := by kernel_rfl
theorem jY7 : jK2 Tryz.prog 58 jJu.rep := ⟨fun _ => by kernel_rfl, fun _ => by kernel_rfl, fun _ => by kernel_rfl⟩
theorem jF9 : jQk Tryz.prog 58 5 5 := jQk.of (by kernel_rfl)
theorem jK7 : jQk Tryz.prog 58 0 0 := jQk.of (by kernel_rfl)
theorem jC0 : jQk Tryz.prog 26 3 3 := jQk.of (by kernel_rfl)
theorem ty3 : jK2 Tryz.prog 3 jZy := ⟨fun _ => by kernel_rfl, fun _ => by kernel_rfl, fun _ => by kernel_rfl⟩
theorem jTm : jK2 Tryz.prog 56 jJr.rep := ⟨fun _ => by kernel_rfl, fun _ => by kernel_rfl, fun _ => by kernel_rfl⟩
theorem qJl : jQk Tryz.prog 56 0 0 := jQk.of (by kernel_rfl)
theorem qQv : jQk Tryz.prog 56 1 1 := jQk.of (by kernel_rfl)
theorem jCu : jQk Tryz.prog 56 2 2 := jQk.of (by kernel_rfl)
theorem jG3 : jQk Tryz.prog 58 1 1 := jQk.of (by kernel_rfl)
theorem jTc : jQk Tryz.prog 58 3 3 := jQk.of (by kernel_rfl)
theorem jC2 : jQk Tryz.prog 58 4 4 := jQk.of (by kernel_rfl)
theorem jDr : jQk Tryz.prog 58 2 2 := jQk.of (by kernel_rfl)
theorem un27 : Tryz.prog.underlying 27 = some (.slice 45) := by kernel_rfl
theorem pl64 : jVa Tryz.prog 64 (fun i => [(0, 1), (1, 1), (2, 1)][i]?) := jVa.of (by kernel_rfl)
theorem pl56 : jVa Tryz.prog 56 (fun i => [(0, 1), (1, 1), (2, 1)][i]?) := jVa.of (by kernel_rfl)
theorem pl58 : jVa Tryz.prog 58 (fun i => [(0, 1), (1, 1), (2, 1), (3, 1), (4, 1), (5, 1)][i]?) := jVa.of (by kernel_rfl)
theorem pl26 : jVa Tryz.prog 26 (fun i => [(0, 1), (1, 1), (2, 1), (3, 1)][i]?) := jVa.of (by kernel_rfl)
theorem ko9 : jLv Tryz.prog 9 Rep.str jQ4 := jLv.str un9
theorem ty4 : jK2 Tryz.prog 4 Rep.bool := ⟨fun _ => by kernel_rfl, fun _ => by kernel_rfl, fun _ => by kernel_rfl⟩
theorem qVe : Tryz.prog.underlying 180 = some (.map 9 4) := by kernel_rfl
def jNl : Rep (GPermitPlan × Value × Value) := Rep.iso (Rep.prod Rep.raw (Rep.prod (Rep.slice jJr.rep) (Rep.prod Rep.raw (Rep.prod jZy Rep.unit)))) (fun s => (s.2.1, (s.1.Exclusions, (s.2.2, (s.1.GasMinutes, ()))))) (fun t => (⟨[], t.2.1, [], t.2.2.2.1⟩, t.1, t.2.2.1)) (fun _ => rfl)
theorem jTu : Lens jNl Rep.raw 0 (fun y => y.2.1) (fun y z => (y.1, (fun p z => ((z, p.2) : Value × Value)) y.2 z)) := (Lens.iso _ _ _ _).comp (Lens.fst _ _)
theorem qUs : Lens jNl (Rep.slice jJr.rep) 1 (fun y => y.1.Exclusions) (fun y z => ((fun x z => ({ x with Exclusions := z } : GPermitPlan)) y.1 z, y.2)) := (Lens.iso _ _ _ _).comp ((Lens.snd _ _).comp (Lens.fst _ _))
theorem jTw : Lens jNl Rep.raw 2 (fun y => y.2.2) (fun y z => (y.1, (fun p z => ((p.1, z) : Value × Value)) y.2 z)) := (Lens.iso _ _ _ _).comp ((Lens.snd _ _).comp ((Lens.snd _ _).comp (Lens.fst _ _)))
theorem hh26_l3 : Lens jNl jZy 3 (fun y => y.1.GasMinutes) (fun y z => ((fun x z => ({ x with GasMinutes := z } : GPermitPlan)) y.1 z, y.2)) := (Lens.iso _ _ _ _).comp ((Lens.snd _ _).comp ((Lens.snd _ _).comp ((Lens.snd _ _).comp (Lens.fst _ _))))
theorem qUe {h : H} {cs : List Value} {x : GPermitPlan} (hr : GPermitPlan.rep.rel h cs x) : ∃ p, jNl.rel h cs (x, p) := by
  obtain ⟨c0, d0, rfl, k0, c1, d1, rfl, k1, c2, d2, rfl, k2, c3, d3, rfl, k3, kk⟩ := hr
  have f0 := (Rep.slice jJ5.rep).flat k0
  obtain ⟨v0, rfl, _⟩ := k0
  have f2 := (Rep.slice jJu.rep).flat k2
  obtain ⟨v2, rfl, _⟩ := k2
  exact ⟨(v0, v2), _, _, rfl, ⟨rfl, f0 v0 (by simp)⟩, _, _, rfl, k1, _, _, rfl, ⟨rfl, f2 v2 (by simp)⟩, _, _, rfl, k3, kk⟩
theorem qYf {x : GPermitPlan} {v0 v2 : Value} {y0 : (List jJ5)} {y2 : (List jJu)} (h : H) (cs : List Value) (hr : jNl.rel h cs (x, v0, v2)) (s0 : (Rep.slice jJ5.rep).rel h [v0] y0) (s2 : (Rep.slice jJu.rep).rel h [v2] y2) : GPermitPlan.rep.rel h cs ({ x with Spaces := y0, Permits := y2 } : GPermitPlan) := by
  obtain ⟨c0, d0, rfl, ⟨rfl, _⟩, c1, d1, rfl, k1, c2, d2, rfl, ⟨rfl, _⟩, c3, d3, rfl, k3, kk⟩ := hr
  exact ⟨_, _, rfl, s0, _, _, rfl, k1, _, _, rfl, s2, _, _, rfl, k3, kk⟩
theorem el64 : jTv Tryz.prog 64 jJ5.rep := by unfold jTv; kernel_rfl
theorem el56 : jTv Tryz.prog 56 jJr.rep := by unfold jTv; kernel_rfl
theorem el58 : jTv Tryz.prog 58 jJu.rep := by unfold jTv; kernel_rfl
theorem el9 : jTv Tryz.prog 9 Rep.str := by unfold jTv; kernel_rfl
theorem ty110 : jK2 Tryz.prog 110 jJx.rep := ⟨fun _ => by kernel_rfl, fun _ => by kernel_rfl, fun _ => by kernel_rfl⟩
theorem pl110 : jVa Tryz.prog 110 (fun i => [(0, 4), (4, 1), (5, 1), (6, 1), (7, 1), (8, 1)][i]?) := jVa.of (by kernel_rfl)
theorem jD3 : jQk Tryz.prog 110 2 5 := jQk.of (by kernel_rfl)
theorem jL6 : jK2 Tryz.prog 106 Rep.rawM := ⟨fun _ => by kernel_rfl, fun _ => by kernel_rfl, fun _ => by kernel_rfl⟩
theorem jL4 : jK2 Tryz.prog 112 jJq.rep := ⟨fun _ => by kernel_rfl, fun _ => by kernel_rfl, fun _ => by kernel_rfl⟩
theorem pl112 : jVa Tryz.prog 112 (fun i => [(0, 1), (1, 1), (2, 1)][i]?) := jVa.of (by kernel_rfl)
theorem jR2 : Tryz.prog.underlying 106 = some (.map 9 112) := by kernel_rfl
theorem jUn : jQk Tryz.prog 110 0 0 := jQk.of (by kernel_rfl)
theorem jTp : Tryz.prog.underlying 35 = some (.slice 3) := by kernel_rfl
theorem qUa : jFl Tryz.prog 112 0 = some (3, 0) := by kernel_rfl
theorem qUt : jFl Tryz.prog 112 2 = some (3, 2) := by kernel_rfl
theorem jNf : jQk Tryz.prog 110 1 4 := jQk.of (by kernel_rfl)
theorem qVv : jQk Tryz.prog 112 0 0 := jQk.of (by kernel_rfl)
theorem jD8 : jK2 Tryz.prog 30 Rep.rawP := ⟨fun _ => by kernel_rfl, fun _ => by kernel_rfl, fun _ => by kernel_rfl⟩
theorem jRk : jQk Tryz.prog 64 1 1 := jQk.of (by kernel_rfl)
theorem qZ4 : jQk Tryz.prog 110 3 6 := jQk.of (by kernel_rfl)
theorem qKx : jK2 Tryz.prog 107 Rep.rawM := ⟨fun _ => by kernel_rfl, fun _ => by kernel_rfl, fun _ => by kernel_rfl⟩
theorem qW6 : jK2 Tryz.prog 189 jJv.rep := ⟨fun _ => by kernel_rfl, fun _ => by kernel_rfl, fun _ => by kernel_rfl⟩
theorem un107 : Tryz.prog.underlying 107 = some (.map 9 189) := by kernel_rfl
theorem qUb : jQk Tryz.prog 189 0 0 := jQk.of (by kernel_rfl)
theorem qX7 : jQk Tryz.prog 189 1 1 := jQk.of (by kernel_rfl)
theorem qVa : jQk Tryz.prog 189 2 2 := jQk.of (by kernel_rfl)
theorem qW2 : jK2 Tryz.prog 45 GEvent.rep := ⟨fun _ => by kernel_rfl, fun _ => by kernel_rfl, fun _ => by kernel_rfl⟩
theorem pl45 : jVa Tryz.prog 45 (fun i => [(0, 1), (1, 1), (2, 1), (3, 1), (4, 1), (5, 1), (6, 1), (7, 1)][i]?) := jVa.of (by kernel_rfl)
theorem jLj : jK2 Tryz.prog 120 jJb.rep := ⟨fun _ => by kernel_rfl, fun _ => by kernel_rfl, fun _ => by kernel_rfl⟩
theorem jPq : jVa Tryz.prog 120 (fun i => [(0, 1), (1, 1), (2, 1), (3, 1)][i]?) := jVa.of (by kernel_rfl)
theorem qYs : Tryz.prog.underlying 115 = some (.slice 120) := by kernel_rfl
theorem un30 : Tryz.prog.underlying 30 = some (.pointer (Tryz.prog.pointee 30)) := by kernel_rfl
theorem jC6 : jQk Tryz.prog 45 1 1 := jQk.of (by kernel_rfl)
theorem qQl : jQk Tryz.prog 45 0 0 := jQk.of (by kernel_rfl)
theorem qZp : jQk Tryz.prog 120 2 2 := jQk.of (by kernel_rfl)
theorem tye35 : jK2 Tryz.prog 35 (Rep.sliceE jZy) := ⟨fun _ => by kernel_rfl, fun _ => by kernel_rfl, fun _ => by kernel_rfl⟩
theorem jD6 : jQk Tryz.prog 45 2 2 := jQk.of (by kernel_rfl)
theorem qKp : jQk Tryz.prog 120 3 3 := jQk.of (by kernel_rfl)
theorem ty118 : jK2 Tryz.prog 118 Rep.fnum := ⟨fun _ => by kernel_rfl, fun _ => by kernel_rfl, fun _ => by kernel_rfl⟩
theorem jZ8 : jK2 Tryz.prog 125 jJw.rep := ⟨fun _ => by kernel_rfl, fun _ => by kernel_rfl, fun _ => by kernel_rfl⟩
theorem jN6 : jVa Tryz.prog 125 (fun i => [(0, 1), (1, 1)][i]?) := jVa.of (by kernel_rfl)
theorem jLz : jQk Tryz.prog 45 4 4 := jQk.of (by kernel_rfl)
theorem qKm : jQk Tryz.prog 112 1 1 := jQk.of (by kernel_rfl)
theorem qUr : jFl Tryz.prog 112 1 = some (9, 1) := by kernel_rfl
theorem jL3 : jK2 Tryz.prog 148 jJ8.rep := ⟨fun _ => by kernel_rfl, fun _ => by kernel_rfl, fun _ => by kernel_rfl⟩
theorem qZ9 : jVa Tryz.prog 148 (fun i => [(0, 1), (1, 1)][i]?) := jVa.of (by kernel_rfl)
theorem un86 : Tryz.prog.underlying 86 = some (.slice 148) := by kernel_rfl
theorem jNr : jQk Tryz.prog 110 4 7 := jQk.of (by kernel_rfl)
theorem jSb : jK2 Tryz.prog 108 Rep.rawM := ⟨fun _ => by kernel_rfl, fun _ => by kernel_rfl, fun _ => by kernel_rfl⟩
theorem qXs : Tryz.prog.underlying 108 = some (.map 9 9) := by kernel_rfl
theorem el148 : jTv Tryz.prog 148 jJ8.rep := by unfold jTv; kernel_rfl
theorem qJu : jQk Tryz.prog 148 1 1 := jQk.of (by kernel_rfl)
theorem qVu : jQk Tryz.prog 148 0 0 := jQk.of (by kernel_rfl)
theorem ty31 : jK2 Tryz.prog 31 jZy := ⟨fun _ => by kernel_rfl, fun _ => by kernel_rfl, fun _ => by kernel_rfl⟩
theorem jC9 : jQk Tryz.prog 45 3 3 := jQk.of (by kernel_rfl)
theorem qV7 : jQk Tryz.prog 45 5 5 := jQk.of (by kernel_rfl)
theorem qX2 : jQk Tryz.prog 45 6 6 := jQk.of (by kernel_rfl)
theorem pl189 : jVa Tryz.prog 189 (fun i => [(0, 1), (1, 1), (2, 1)][i]?) := jVa.of (by kernel_rfl)
theorem qVj : jQk Tryz.prog 45 7 7 := jQk.of (by kernel_rfl)
theorem qX5 : jQk Tryz.prog 112 2 2 := jQk.of (by kernel_rfl)
theorem qVz : jQk Tryz.prog 125 1 1 := jQk.of (by kernel_rfl)
theorem qUg : jQk Tryz.prog 125 0 0 := jQk.of (by kernel_rfl)
theorem qV5 : jQk Tryz.prog 110 5 8 := jQk.of (by kernel_rfl)
theorem ty27 : jK2 Tryz.prog 27 (Rep.slice GEvent.rep) := ⟨fun _ => by kernel_rfl, fun _ => by kernel_rfl, fun _ => by kernel_rfl⟩
theorem el45 : jTv Tryz.prog 45 GEvent.rep := by unfold jTv; kernel_rfl
theorem un3 : Tryz.prog.underlying 3 = some (.int .i64) := by kernel_rfl
theorem un4 : Tryz.prog.underlying 4 = some (.bool) := by kernel_rfl
end Go.KB
