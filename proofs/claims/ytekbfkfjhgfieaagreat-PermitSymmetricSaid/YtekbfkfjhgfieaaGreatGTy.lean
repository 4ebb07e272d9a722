/- What the translation says of its types. Printed by a program. No condition. -/
import Derived.Test.YtekbfkfjhgfieaaGreatGTypes
import Derived.Test.YtekbfkfjhgfieaaGreatProg
namespace Go.KB
open Go.Proofs
theorem ty26 : TyOk Tryz.prog 26 GPermitPlan.rep := ⟨fun _ => by kernel_rfl, fun _ => by kernel_rfl, fun _ => by kernel_rfl⟩
theorem fo26_0 : FieldOk Tryz.prog 26 0 0 := FieldOk.of (by kernel_rfl)
theorem ty22 : TyOk Tryz.prog 22 (Rep.slice GSpace.rep) := ⟨fun _ => by kernel_rfl, fun _ => by kernel_rfl, fun _ => by kernel_rfl⟩
theorem un22 : Tryz.prog.underlying 22 = some (.slice 64) := by kernel_rfl
theorem fo26_1 : FieldOk Tryz.prog 26 1 1 := FieldOk.of (by kernel_rfl)
theorem ty23 : TyOk Tryz.prog 23 (Rep.slice GExclusion.rep) := ⟨fun _ => by kernel_rfl, fun _ => by kernel_rfl, fun _ => by kernel_rfl⟩
theorem un23 : Tryz.prog.underlying 23 = some (.slice 56) := by kernel_rfl
theorem fo26_2 : FieldOk Tryz.prog 26 2 2 := FieldOk.of (by kernel_rfl)
theorem ty24 : TyOk Tryz.prog 24 (Rep.slice GPermit.rep) := ⟨fun _ => by kernel_rfl, fun _ => by kernel_rfl, fun _ => by kernel_rfl⟩
theorem un24 : Tryz.prog.underlying 24 = some (.slice 58) := by kernel_rfl
theorem ty64 : TyOk Tryz.prog 64 GSpace.rep := ⟨fun _ => by kernel_rfl, fun _ => by kernel_rfl, fun _ => by kernel_rfl⟩
theorem fo64_2 : FieldOk Tryz.prog 64 2 2 := FieldOk.of (by kernel_rfl)
theorem ty36 : TyOk Tryz.prog 36 (Rep.slice Rep.str) := ⟨fun _ => by kernel_rfl, fun _ => by kernel_rfl, fun _ => by kernel_rfl⟩
theorem un36 : Tryz.prog.underlying 36 = some (.slice 9) := by kernel_rfl
theorem fo64_0 : FieldOk Tryz.prog 64 0 0 := FieldOk.of (by kernel_rfl)
theorem ty9 : TyOk Tryz.prog 9 Rep.str := ⟨fun _ => by kernel_rfl, fun _ => by kernel_rfl, fun _ => by kernel_rfl⟩
theorem un9 : Tryz.prog.underlying 9 = some (.string) := by kernel_rfl
theorem ty58 : TyOk Tryz.prog 58 GPermit.rep := ⟨fun _ => by kernel_rfl, fun _ => by kernel_rfl, fun _ => by kernel_rfl⟩
theorem fo58_5 : FieldOk Tryz.prog 58 5 5 := FieldOk.of (by kernel_rfl)
theorem fo58_0 : FieldOk Tryz.prog 58 0 0 := FieldOk.of (by kernel_rfl)
theorem fo26_3 : FieldOk Tryz.prog 26 3 3 := FieldOk.of (by kernel_rfl)
theorem ty3 : TyOk Tryz.prog 3 r_i64 := ⟨fun _ => by kernel_rfl, fun _ => by kernel_rfl, fun _ => by kernel_rfl⟩
theorem ty56 : TyOk Tryz.prog 56 GExclusion.rep := ⟨fun _ => by kernel_rfl, fun _ => by kernel_rfl, fun _ => by kernel_rfl⟩
theorem fo56_0 : FieldOk Tryz.prog 56 0 0 := FieldOk.of (by kernel_rfl)
theorem fo56_1 : FieldOk Tryz.prog 56 1 1 := FieldOk.of (by kernel_rfl)
theorem fo56_2 : FieldOk Tryz.prog 56 2 2 := FieldOk.of (by kernel_rfl)
theorem fo58_1 : FieldOk Tryz.prog 58 1 1 := FieldOk.of (by kernel_rfl)
theorem fo58_3 : FieldOk Tryz.prog 58 3 3 := FieldOk.of (by kernel_rfl)
theorem fo58_4 : FieldOk Tryz.prog 58 4 4 := FieldOk.of (by kernel_rfl)
theorem fo58_2 : FieldOk Tryz.prog 58 2 2 := FieldOk.of (by kernel_rfl)
theorem pl64 : PlacesOk Tryz.prog 64 (fun i => [(0, 1), (1, 1), (2, 1)][i]?) := PlacesOk.of (by kernel_rfl)
theorem pl56 : PlacesOk Tryz.prog 56 (fun i => [(0, 1), (1, 1), (2, 1)][i]?) := PlacesOk.of (by kernel_rfl)
theorem pl58 : PlacesOk Tryz.prog 58 (fun i => [(0, 1), (1, 1), (2, 1), (3, 1), (4, 1), (5, 1)][i]?) := PlacesOk.of (by kernel_rfl)
theorem pl26 : PlacesOk Tryz.prog 26 (fun i => [(0, 1), (1, 1), (2, 1), (3, 1)][i]?) := PlacesOk.of (by kernel_rfl)
theorem ko9 : KeyOk Tryz.prog 9 Rep.str kStr := KeyOk.str un9
theorem ty4 : TyOk Tryz.prog 4 Rep.bool := ⟨fun _ => by kernel_rfl, fun _ => by kernel_rfl, fun _ => by kernel_rfl⟩
theorem un180 : Tryz.prog.underlying 180 = some (.map 9 4) := by kernel_rfl
def hh26 : Rep (GPermitPlan × Value × Value) := Rep.iso (Rep.prod Rep.raw (Rep.prod (Rep.slice GExclusion.rep) (Rep.prod Rep.raw (Rep.prod r_i64 Rep.unit)))) (fun s => (s.2.1, (s.1.Exclusions, (s.2.2, (s.1.GasMinutes, ()))))) (fun t => (⟨[], t.2.1, [], t.2.2.2.1⟩, t.1, t.2.2.1)) (fun _ => rfl)
theorem hh26_l0 : Lens hh26 Rep.raw 0 (fun y => y.2.1) (fun y z => (y.1, (fun p z => ((z, p.2) : Value × Value)) y.2 z)) := (Lens.iso _ _ _ _).comp (Lens.fst _ _)
theorem hh26_l1 : Lens hh26 (Rep.slice GExclusion.rep) 1 (fun y => y.1.Exclusions) (fun y z => ((fun x z => ({ x with Exclusions := z } : GPermitPlan)) y.1 z, y.2)) := (Lens.iso _ _ _ _).comp ((Lens.snd _ _).comp (Lens.fst _ _))
theorem hh26_l2 : Lens hh26 Rep.raw 2 (fun y => y.2.2) (fun y z => (y.1, (fun p z => ((p.1, z) : Value × Value)) y.2 z)) := (Lens.iso _ _ _ _).comp ((Lens.snd _ _).comp ((Lens.snd _ _).comp (Lens.fst _ _)))
theorem hh26_l3 : Lens hh26 r_i64 3 (fun y => y.1.GasMinutes) (fun y z => ((fun x z => ({ x with GasMinutes := z } : GPermitPlan)) y.1 z, y.2)) := (Lens.iso _ _ _ _).comp ((Lens.snd _ _).comp ((Lens.snd _ _).comp ((Lens.snd _ _).comp (Lens.fst _ _))))
theorem hh26_in {h : H} {cs : List Value} {x : GPermitPlan} (hr : GPermitPlan.rep.rel h cs x) : ∃ p, hh26.rel h cs (x, p) := by
  obtain ⟨c0, d0, rfl, k0, c1, d1, rfl, k1, c2, d2, rfl, k2, c3, d3, rfl, k3, kk⟩ := hr
  have f0 := (Rep.slice GSpace.rep).flat k0
  obtain ⟨v0, rfl, _⟩ := k0
  have f2 := (Rep.slice GPermit.rep).flat k2
  obtain ⟨v2, rfl, _⟩ := k2
  exact ⟨(v0, v2), _, _, rfl, ⟨rfl, f0 v0 (by simp)⟩, _, _, rfl, k1, _, _, rfl, ⟨rfl, f2 v2 (by simp)⟩, _, _, rfl, k3, kk⟩
theorem hh26_out {x : GPermitPlan} {v0 v2 : Value} {y0 : (List GSpace)} {y2 : (List GPermit)} (h : H) (cs : List Value) (hr : hh26.rel h cs (x, v0, v2)) (s0 : (Rep.slice GSpace.rep).rel h [v0] y0) (s2 : (Rep.slice GPermit.rep).rel h [v2] y2) : GPermitPlan.rep.rel h cs ({ x with Spaces := y0, Permits := y2 } : GPermitPlan) := by
  obtain ⟨c0, d0, rfl, ⟨rfl, _⟩, c1, d1, rfl, k1, c2, d2, rfl, ⟨rfl, _⟩, c3, d3, rfl, k3, kk⟩ := hr
  exact ⟨_, _, rfl, s0, _, _, rfl, k1, _, _, rfl, s2, _, _, rfl, k3, kk⟩
theorem el64 : ElOk Tryz.prog 64 GSpace.rep := by unfold ElOk; kernel_rfl
theorem el56 : ElOk Tryz.prog 56 GExclusion.rep := by unfold ElOk; kernel_rfl
theorem el58 : ElOk Tryz.prog 58 GPermit.rep := by unfold ElOk; kernel_rfl
theorem el9 : ElOk Tryz.prog 9 Rep.str := by unfold ElOk; kernel_rfl
theorem ty110 : TyOk Tryz.prog 110 Gpermit_Office.rep := ⟨fun _ => by kernel_rfl, fun _ => by kernel_rfl, fun _ => by kernel_rfl⟩
theorem pl110 : PlacesOk Tryz.prog 110 (fun i => [(0, 4), (4, 1), (5, 1), (6, 1), (7, 1), (8, 1)][i]?) := PlacesOk.of (by kernel_rfl)
theorem fo110_2 : FieldOk Tryz.prog 110 2 5 := FieldOk.of (by kernel_rfl)
theorem tyr106 : TyOk Tryz.prog 106 Rep.rawM := ⟨fun _ => by kernel_rfl, fun _ => by kernel_rfl, fun _ => by kernel_rfl⟩
theorem ty112 : TyOk Tryz.prog 112 Gpermit_entry.rep := ⟨fun _ => by kernel_rfl, fun _ => by kernel_rfl, fun _ => by kernel_rfl⟩
theorem pl112 : PlacesOk Tryz.prog 112 (fun i => [(0, 1), (1, 1), (2, 1)][i]?) := PlacesOk.of (by kernel_rfl)
theorem un106 : Tryz.prog.underlying 106 = some (.map 9 112) := by kernel_rfl
theorem fo110_0 : FieldOk Tryz.prog 110 0 0 := FieldOk.of (by kernel_rfl)
theorem un35 : Tryz.prog.underlying 35 = some (.slice 3) := by kernel_rfl
theorem fv112_0 : fieldAtB Tryz.prog 112 0 = some (3, 0) := by kernel_rfl
theorem fv112_2 : fieldAtB Tryz.prog 112 2 = some (3, 2) := by kernel_rfl
theorem fo110_1 : FieldOk Tryz.prog 110 1 4 := FieldOk.of (by kernel_rfl)
theorem fo112_0 : FieldOk Tryz.prog 112 0 0 := FieldOk.of (by kernel_rfl)
theorem tyr30 : TyOk Tryz.prog 30 Rep.rawP := ⟨fun _ => by kernel_rfl, fun _ => by kernel_rfl, fun _ => by kernel_rfl⟩
theorem fo64_1 : FieldOk Tryz.prog 64 1 1 := FieldOk.of (by kernel_rfl)
theorem fo110_3 : FieldOk Tryz.prog 110 3 6 := FieldOk.of (by kernel_rfl)
theorem tyr107 : TyOk Tryz.prog 107 Rep.rawM := ⟨fun _ => by kernel_rfl, fun _ => by kernel_rfl, fun _ => by kernel_rfl⟩
theorem ty189 : TyOk Tryz.prog 189 Gpermit_test.rep := ⟨fun _ => by kernel_rfl, fun _ => by kernel_rfl, fun _ => by kernel_rfl⟩
theorem un107 : Tryz.prog.underlying 107 = some (.map 9 189) := by kernel_rfl
theorem fo189_0 : FieldOk Tryz.prog 189 0 0 := FieldOk.of (by kernel_rfl)
theorem fo189_1 : FieldOk Tryz.prog 189 1 1 := FieldOk.of (by kernel_rfl)
theorem fo189_2 : FieldOk Tryz.prog 189 2 2 := FieldOk.of (by kernel_rfl)
theorem ty45 : TyOk Tryz.prog 45 GEvent.rep := ⟨fun _ => by kernel_rfl, fun _ => by kernel_rfl, fun _ => by kernel_rfl⟩
theorem pl45 : PlacesOk Tryz.prog 45 (fun i => [(0, 1), (1, 1), (2, 1), (3, 1), (4, 1), (5, 1), (6, 1), (7, 1)][i]?) := PlacesOk.of (by kernel_rfl)
theorem ty120 : TyOk Tryz.prog 120 Gpermit_deed.rep := ⟨fun _ => by kernel_rfl, fun _ => by kernel_rfl, fun _ => by kernel_rfl⟩
theorem pl120 : PlacesOk Tryz.prog 120 (fun i => [(0, 1), (1, 1), (2, 1), (3, 1)][i]?) := PlacesOk.of (by kernel_rfl)
theorem un115 : Tryz.prog.underlying 115 = some (.slice 120) := by kernel_rfl
theorem un30 : Tryz.prog.underlying 30 = some (.pointer (Tryz.prog.pointee 30)) := by kernel_rfl
theorem fo45_1 : FieldOk Tryz.prog 45 1 1 := FieldOk.of (by kernel_rfl)
theorem fo45_0 : FieldOk Tryz.prog 45 0 0 := FieldOk.of (by kernel_rfl)
theorem fo120_2 : FieldOk Tryz.prog 120 2 2 := FieldOk.of (by kernel_rfl)
theorem tye35 : TyOk Tryz.prog 35 (Rep.sliceE r_i64) := ⟨fun _ => by kernel_rfl, fun _ => by kernel_rfl, fun _ => by kernel_rfl⟩
theorem fo45_2 : FieldOk Tryz.prog 45 2 2 := FieldOk.of (by kernel_rfl)
theorem fo120_3 : FieldOk Tryz.prog 120 3 3 := FieldOk.of (by kernel_rfl)
theorem ty118 : TyOk Tryz.prog 118 Rep.fnum := ⟨fun _ => by kernel_rfl, fun _ => by kernel_rfl, fun _ => by kernel_rfl⟩
theorem ty125 : TyOk Tryz.prog 125 Gpermit_refusal.rep := ⟨fun _ => by kernel_rfl, fun _ => by kernel_rfl, fun _ => by kernel_rfl⟩
theorem pl125 : PlacesOk Tryz.prog 125 (fun i => [(0, 1), (1, 1)][i]?) := PlacesOk.of (by kernel_rfl)
theorem fo45_4 : FieldOk Tryz.prog 45 4 4 := FieldOk.of (by kernel_rfl)
theorem fo112_1 : FieldOk Tryz.prog 112 1 1 := FieldOk.of (by kernel_rfl)
theorem fv112_1 : fieldAtB Tryz.prog 112 1 = some (9, 1) := by kernel_rfl
theorem ty148 : TyOk Tryz.prog 148 GReason.rep := ⟨fun _ => by kernel_rfl, fun _ => by kernel_rfl, fun _ => by kernel_rfl⟩
theorem pl148 : PlacesOk Tryz.prog 148 (fun i => [(0, 1), (1, 1)][i]?) := PlacesOk.of (by kernel_rfl)
theorem un86 : Tryz.prog.underlying 86 = some (.slice 148) := by kernel_rfl
theorem fo110_4 : FieldOk Tryz.prog 110 4 7 := FieldOk.of (by kernel_rfl)
theorem tyr108 : TyOk Tryz.prog 108 Rep.rawM := ⟨fun _ => by kernel_rfl, fun _ => by kernel_rfl, fun _ => by kernel_rfl⟩
theorem un108 : Tryz.prog.underlying 108 = some (.map 9 9) := by kernel_rfl
theorem el148 : ElOk Tryz.prog 148 GReason.rep := by unfold ElOk; kernel_rfl
theorem fo148_1 : FieldOk Tryz.prog 148 1 1 := FieldOk.of (by kernel_rfl)
theorem fo148_0 : FieldOk Tryz.prog 148 0 0 := FieldOk.of (by kernel_rfl)
theorem ty31 : TyOk Tryz.prog 31 r_i64 := ⟨fun _ => by kernel_rfl, fun _ => by kernel_rfl, fun _ => by kernel_rfl⟩
theorem fo45_3 : FieldOk Tryz.prog 45 3 3 := FieldOk.of (by kernel_rfl)
theorem fo45_5 : FieldOk Tryz.prog 45 5 5 := FieldOk.of (by kernel_rfl)
theorem fo45_6 : FieldOk Tryz.prog 45 6 6 := FieldOk.of (by kernel_rfl)
theorem pl189 : PlacesOk Tryz.prog 189 (fun i => [(0, 1), (1, 1), (2, 1)][i]?) := PlacesOk.of (by kernel_rfl)
theorem fo45_7 : FieldOk Tryz.prog 45 7 7 := FieldOk.of (by kernel_rfl)
theorem fo112_2 : FieldOk Tryz.prog 112 2 2 := FieldOk.of (by kernel_rfl)
theorem fo125_1 : FieldOk Tryz.prog 125 1 1 := FieldOk.of (by kernel_rfl)
theorem fo125_0 : FieldOk Tryz.prog 125 0 0 := FieldOk.of (by kernel_rfl)
theorem fo110_5 : FieldOk Tryz.prog 110 5 8 := FieldOk.of (by kernel_rfl)
theorem ty27 : TyOk Tryz.prog 27 (Rep.slice GEvent.rep) := ⟨fun _ => by kernel_rfl, fun _ => by kernel_rfl, fun _ => by kernel_rfl⟩
theorem un27 : Tryz.prog.underlying 27 = some (.slice 45) := by kernel_rfl
theorem el45 : ElOk Tryz.prog 45 GEvent.rep := by unfold ElOk; kernel_rfl
theorem un4 : Tryz.prog.underlying 4 = some (.bool) := by kernel_rfl
theorem un3 : Tryz.prog.underlying 3 = some (.int .i64) := by kernel_rfl
end Go.KB
