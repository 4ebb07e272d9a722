/- The Go functions compute what the plain functions compute. Printed by a program. No condition. -/
import Derived.Test.YtbedbjphickpaaaGProof3
namespace Go.KB
open Go.Proofs
set_option maxRecDepth 100000
set_option linter.unusedVariables false
theorem ok_f_hull_hydrostatics (N : Nat) (x0 : GShip) (x1 : GAttitude) (x2 : Int) (r : GHydro × Bool) (H : f_hull_hydrostatics N x0 x1 x2 = some r) : FnOk Try.prog 40 [fV GShip.rep x0, fV GAttitude.rep x1, fV r_i64 x2] (fT2 (fV GHydro.rep (r.1)) (fV Rep.bool (r.2))) := by
  unfold f_hull_hydrostatics at H; refine fn_enter Try.func40 rfl rfl (by kernel_rfl) ?_; intro κ B h0 F a w hAt; refine wp_seq ?_
  refine reg [⟨fRef GShip.rep x0, [], [(0, none)], []⟩,
      ⟨fRef GAttitude.rep x1, [], [(1, none)], []⟩,
      ⟨Fact.triv, [(6, some (boxE 65 GHydro.rep (⟨(⟨(⟨false, []⟩ : GInt), (⟨false, []⟩ : GInt)⟩ : GRat), (⟨(⟨false, []⟩ : GInt), (⟨false, []⟩ : GInt)⟩ : GRat), (⟨(⟨false, []⟩ : GInt), (⟨false, []⟩ : GInt)⟩ : GRat), (⟨(⟨false, []⟩ : GInt), (⟨false, []⟩ : GInt)⟩ : GRat), (⟨(⟨false, []⟩ : GInt), (⟨false, []⟩ : GInt)⟩ : GRat), (⟨(⟨false, []⟩ : GInt), (⟨false, []⟩ : GInt)⟩ : GRat), (⟨(⟨false, []⟩ : GInt), (⟨false, []⟩ : GInt)⟩ : GRat), (⟨(⟨false, []⟩ : GInt), (⟨false, []⟩ : GInt)⟩ : GRat), (⟨(⟨false, []⟩ : GInt), (⟨false, []⟩ : GInt)⟩ : GRat)⟩ : GHydro)))], [], []⟩,
      ⟨fV Rep.bool false, [], [], []⟩] [2, 3, 4] [6] hAt
      ⟨ok_box rfl opd0,
      ok_box rfl opd0,
      ok_alloc ty65 rfl rfl,
      ok_assign rfl opdB, trivial⟩ (by kernel_rfl) ?_
  clear hAt; intro a w hAt
  replace hAt : At B h0 (mkG [(2, fV r_i64 x2), (3, fRef GShip.rep x0), (4, fRef GAttitude.rep x1)]) (mkO [(6, boxE 65 GHydro.rep (⟨(⟨(⟨false, []⟩ : GInt), (⟨false, []⟩ : GInt)⟩ : GRat), (⟨(⟨false, []⟩ : GInt), (⟨false, []⟩ : GInt)⟩ : GRat), (⟨(⟨false, []⟩ : GInt), (⟨false, []⟩ : GInt)⟩ : GRat), (⟨(⟨false, []⟩ : GInt), (⟨false, []⟩ : GInt)⟩ : GRat), (⟨(⟨false, []⟩ : GInt), (⟨false, []⟩ : GInt)⟩ : GRat), (⟨(⟨false, []⟩ : GInt), (⟨false, []⟩ : GInt)⟩ : GRat), (⟨(⟨false, []⟩ : GInt), (⟨false, []⟩ : GInt)⟩ : GRat), (⟨(⟨false, []⟩ : GInt), (⟨false, []⟩ : GInt)⟩ : GRat), (⟨(⟨false, []⟩ : GInt), (⟨false, []⟩ : GInt)⟩ : GRat)⟩ : GHydro))]) F 176 a w := hAt
  refine then_n ?_; refine wp_seq ?_; obtain ⟨v1, hv1, H⟩ := bindE H
  refine reg [⟨fV GRat.rep v1, [], [], []⟩,
      ⟨Fact.triv, [(8, some (boxE 32 GRat.rep (⟨(⟨false, []⟩ : GInt), (⟨false, []⟩ : GInt)⟩ : GRat)))], [], []⟩,
      ⟨Fact.triv, [(8, some (boxE 32 GRat.rep v1))], [(18, some 0)], [(8, some 1)]⟩] [2, 3, 4] [6, 8] hAt
      ⟨ok_call (ok_f_hull_whole N 0 _ hv1) Try.func42 (by kernel_rfl) (by kernel_rfl) rfl ⟨opdI, trivial⟩,
      ok_alloc ty32 rfl rfl,
      ok_storeBox ty32 rfl rfl opd0, trivial⟩ (by kernel_rfl) ?_
  clear hAt; intro a w hAt
  replace hAt : At B h0 (mkG [(2, fV r_i64 x2), (3, fRef GShip.rep x0), (4, fRef GAttitude.rep x1)]) (mkO [(6, boxE 65 GHydro.rep (⟨(⟨(⟨false, []⟩ : GInt), (⟨false, []⟩ : GInt)⟩ : GRat), (⟨(⟨false, []⟩ : GInt), (⟨false, []⟩ : GInt)⟩ : GRat), (⟨(⟨false, []⟩ : GInt), (⟨false, []⟩ : GInt)⟩ : GRat), (⟨(⟨false, []⟩ : GInt), (⟨false, []⟩ : GInt)⟩ : GRat), (⟨(⟨false, []⟩ : GInt), (⟨false, []⟩ : GInt)⟩ : GRat), (⟨(⟨false, []⟩ : GInt), (⟨false, []⟩ : GInt)⟩ : GRat), (⟨(⟨false, []⟩ : GInt), (⟨false, []⟩ : GInt)⟩ : GRat), (⟨(⟨false, []⟩ : GInt), (⟨false, []⟩ : GInt)⟩ : GRat), (⟨(⟨false, []⟩ : GInt), (⟨false, []⟩ : GInt)⟩ : GRat)⟩ : GHydro)), (8, boxE 32 GRat.rep v1)]) F 176 a w := hAt
  refine then_n ?_; refine wp_seq ?_
  refine reg [⟨fV GRat.rep v1, [], [], [(8, none)]⟩,
      ⟨fV GRat.rep v1, [], [], [(8, none)]⟩,
      ⟨fV GRat.rep v1, [], [], [(8, none)]⟩,
      ⟨fV GRat.rep v1, [], [], [(8, none)]⟩,
      ⟨fV GRat.rep v1, [], [], [(8, none)]⟩,
      ⟨fV GRat.rep v1, [], [], [(8, none)]⟩,
      ⟨fV GRat.rep v1, [], [], [(8, none)]⟩,
      ⟨fV GHydro.rep (⟨v1, (⟨(⟨false, []⟩ : GInt), (⟨false, []⟩ : GInt)⟩ : GRat), v1, v1, v1, v1, v1, v1, (⟨(⟨false, []⟩ : GInt), (⟨false, []⟩ : GInt)⟩ : GRat)⟩ : GHydro), [], [(19, some 0), (20, some 1), (21, some 2), (22, some 3), (23, some 4), (24, some 5), (25, some 6)], []⟩,
      ⟨Fact.triv, [(9, some (boxE 65 GHydro.rep (⟨(⟨(⟨false, []⟩ : GInt), (⟨false, []⟩ : GInt)⟩ : GRat), (⟨(⟨false, []⟩ : GInt), (⟨false, []⟩ : GInt)⟩ : GRat), (⟨(⟨false, []⟩ : GInt), (⟨false, []⟩ : GInt)⟩ : GRat), (⟨(⟨false, []⟩ : GInt), (⟨false, []⟩ : GInt)⟩ : GRat), (⟨(⟨false, []⟩ : GInt), (⟨false, []⟩ : GInt)⟩ : GRat), (⟨(⟨false, []⟩ : GInt), (⟨false, []⟩ : GInt)⟩ : GRat), (⟨(⟨false, []⟩ : GInt), (⟨false, []⟩ : GInt)⟩ : GRat), (⟨(⟨false, []⟩ : GInt), (⟨false, []⟩ : GInt)⟩ : GRat), (⟨(⟨false, []⟩ : GInt), (⟨false, []⟩ : GInt)⟩ : GRat)⟩ : GHydro)))], [], []⟩,
      ⟨Fact.triv, [(9, some (boxE 65 GHydro.rep (⟨v1, (⟨(⟨false, []⟩ : GInt), (⟨false, []⟩ : GInt)⟩ : GRat), v1, v1, v1, v1, v1, v1, (⟨(⟨false, []⟩ : GInt), (⟨false, []⟩ : GInt)⟩ : GRat)⟩ : GHydro)))], [(26, some 7)], [(9, some 8)]⟩] [2, 3, 4] [6, 9] hAt
      ⟨ok_loadBox ty32 rfl,
      ok_loadBox ty32 rfl,
      ok_loadBox ty32 rfl,
      ok_loadBox ty32 rfl,
      ok_loadBox ty32 rfl,
      ok_loadBox ty32 rfl,
      ok_loadBox ty32 rfl,
      ok_build ty65 rfl pl65 rfl (fillC GHydro.l0 rfl opd0 (fillC GHydro.l2 rfl opd1 (fillC GHydro.l3 rfl opd2 (fillC GHydro.l4 rfl opd3 (fillC GHydro.l5 rfl opd4 (fillC GHydro.l6 rfl opd5 (fillC GHydro.l7 rfl opd6 fillN))))))),
      ok_alloc ty65 rfl rfl,
      ok_storeBox ty65 rfl rfl opd0, trivial⟩ (by kernel_rfl) ?_
  clear hAt; intro a w hAt
  replace hAt : At B h0 (mkG [(2, fV r_i64 x2), (3, fRef GShip.rep x0), (4, fRef GAttitude.rep x1)]) (mkO [(6, boxE 65 GHydro.rep (⟨(⟨(⟨false, []⟩ : GInt), (⟨false, []⟩ : GInt)⟩ : GRat), (⟨(⟨false, []⟩ : GInt), (⟨false, []⟩ : GInt)⟩ : GRat), (⟨(⟨false, []⟩ : GInt), (⟨false, []⟩ : GInt)⟩ : GRat), (⟨(⟨false, []⟩ : GInt), (⟨false, []⟩ : GInt)⟩ : GRat), (⟨(⟨false, []⟩ : GInt), (⟨false, []⟩ : GInt)⟩ : GRat), (⟨(⟨false, []⟩ : GInt), (⟨false, []⟩ : GInt)⟩ : GRat), (⟨(⟨false, []⟩ : GInt), (⟨false, []⟩ : GInt)⟩ : GRat), (⟨(⟨false, []⟩ : GInt), (⟨false, []⟩ : GInt)⟩ : GRat), (⟨(⟨false, []⟩ : GInt), (⟨false, []⟩ : GInt)⟩ : GRat)⟩ : GHydro)), (9, boxE 65 GHydro.rep (⟨v1, (⟨(⟨false, []⟩ : GInt), (⟨false, []⟩ : GInt)⟩ : GRat), v1, v1, v1, v1, v1, v1, (⟨(⟨false, []⟩ : GInt), (⟨false, []⟩ : GInt)⟩ : GRat)⟩ : GHydro))]) F 176 a w := hAt
  refine then_n ?_; refine wp_seq ?_; refine wp_seq ?_
  refine reg [⟨fRef (Rep.slice GStation.rep) x0.Stations, [], [(3, none)], []⟩,
      ⟨fV (Rep.slice GStation.rep) x0.Stations, [], [(27, some 0)], []⟩,
      ⟨fV r_i64 (List.length x0.Stations : Int), [], [(28, some 1)], []⟩,
      ⟨fV r_i64 0, [], [], []⟩] [2, 4, 28, 29, 30] [6, 9] hAt
      ⟨ok_field GShip.l2 fo27_2 rfl opd0,
      ok_load ty22 rfl opd0,
      ok_len un22 rfl opd0,
      ok_move rfl opdI, trivial⟩ (by kernel_rfl) ?_
  clear hAt; intro a w hAt
  replace hAt : At B h0 (mkG [(2, fV r_i64 x2), (4, fRef GAttitude.rep x1), (28, fV (Rep.slice GStation.rep) x0.Stations), (29, fV r_i64 (List.length x0.Stations : Int)), (30, fV r_i64 0)]) (mkO [(6, boxE 65 GHydro.rep (⟨(⟨(⟨false, []⟩ : GInt), (⟨false, []⟩ : GInt)⟩ : GRat), (⟨(⟨false, []⟩ : GInt), (⟨false, []⟩ : GInt)⟩ : GRat), (⟨(⟨false, []⟩ : GInt), (⟨false, []⟩ : GInt)⟩ : GRat), (⟨(⟨false, []⟩ : GInt), (⟨false, []⟩ : GInt)⟩ : GRat), (⟨(⟨false, []⟩ : GInt), (⟨false, []⟩ : GInt)⟩ : GRat), (⟨(⟨false, []⟩ : GInt), (⟨false, []⟩ : GInt)⟩ : GRat), (⟨(⟨false, []⟩ : GInt), (⟨false, []⟩ : GInt)⟩ : GRat), (⟨(⟨false, []⟩ : GInt), (⟨false, []⟩ : GInt)⟩ : GRat), (⟨(⟨false, []⟩ : GInt), (⟨false, []⟩ : GInt)⟩ : GRat)⟩ : GHydro)), (9, boxE 65 GHydro.rep (⟨v1, (⟨(⟨false, []⟩ : GInt), (⟨false, []⟩ : GInt)⟩ : GRat), v1, v1, v1, v1, v1, v1, (⟨(⟨false, []⟩ : GInt), (⟨false, []⟩ : GInt)⟩ : GRat)⟩ : GHydro))]) F 176 a w := hAt
  refine then_n ?_; refine wp_block ?_; obtain ⟨o29, hl30, H⟩ := bindE H
  refine wp_mono (wp_loopN (f := f_hull_hydrostatics_L1 N x0 x1) (fun (s2 : (GHydro × Int)) a w => At B h0 (mkG [(2, fV r_i64 x2), (4, fRef GAttitude.rep x1), (28, fV (Rep.slice GStation.rep) x0.Stations), (29, fV r_i64 (List.length x0.Stations : Int)), (30, fV r_i64 s2.2)]) (mkO [(6, boxE 65 GHydro.rep (⟨(⟨(⟨false, []⟩ : GInt), (⟨false, []⟩ : GInt)⟩ : GRat), (⟨(⟨false, []⟩ : GInt), (⟨false, []⟩ : GInt)⟩ : GRat), (⟨(⟨false, []⟩ : GInt), (⟨false, []⟩ : GInt)⟩ : GRat), (⟨(⟨false, []⟩ : GInt), (⟨false, []⟩ : GInt)⟩ : GRat), (⟨(⟨false, []⟩ : GInt), (⟨false, []⟩ : GInt)⟩ : GRat), (⟨(⟨false, []⟩ : GInt), (⟨false, []⟩ : GInt)⟩ : GRat), (⟨(⟨false, []⟩ : GInt), (⟨false, []⟩ : GInt)⟩ : GRat), (⟨(⟨false, []⟩ : GInt), (⟨false, []⟩ : GInt)⟩ : GRat), (⟨(⟨false, []⟩ : GInt), (⟨false, []⟩ : GInt)⟩ : GRat)⟩ : GHydro)), (9, boxE 65 GHydro.rep s2.1)]) F 176 a w) (fun o e a w => (fun v => e = .exit 0 ∧ At B h0 (mkG [(2, fV r_i64 x2)]) (mkO [(6, boxE 65 GHydro.rep (⟨(⟨(⟨false, []⟩ : GInt), (⟨false, []⟩ : GInt)⟩ : GRat), (⟨(⟨false, []⟩ : GInt), (⟨false, []⟩ : GInt)⟩ : GRat), (⟨(⟨false, []⟩ : GInt), (⟨false, []⟩ : GInt)⟩ : GRat), (⟨(⟨false, []⟩ : GInt), (⟨false, []⟩ : GInt)⟩ : GRat), (⟨(⟨false, []⟩ : GInt), (⟨false, []⟩ : GInt)⟩ : GRat), (⟨(⟨false, []⟩ : GInt), (⟨false, []⟩ : GInt)⟩ : GRat), (⟨(⟨false, []⟩ : GInt), (⟨false, []⟩ : GInt)⟩ : GRat), (⟨(⟨false, []⟩ : GInt), (⟨false, []⟩ : GInt)⟩ : GRat), (⟨(⟨false, []⟩ : GInt), (⟨false, []⟩ : GInt)⟩ : GRat)⟩ : GHydro)), (9, boxE 65 GHydro.rep v)]) F 176 a w) o) ?_ N ((⟨v1, (⟨(⟨false, []⟩ : GInt), (⟨false, []⟩ : GInt)⟩ : GRat), v1, v1, v1, v1, v1, v1, (⟨(⟨false, []⟩ : GInt), (⟨false, []⟩ : GInt)⟩ : GRat)⟩ : GHydro), 0) o29 _ _ hl30 ?_) ?_
  · clear H hAt hl30; intro s2 r47 a w H hAt; unfold f_hull_hydrostatics_L1 at H; refine wp_seq ?_
    refine reg [⟨fV Rep.bool (cmpI .lss s2.2 (List.length x0.Stations : Int)), [], [(30, none), (29, none)], []⟩] [2, 4, 28, 29, 30, 31] [6, 9] hAt
        ⟨ok_cmp (op := .lss) (by simp) rfl rfl opd0 opd1, trivial⟩ (by kernel_rfl) ?_
    clear hAt; intro a w hAt
    replace hAt : At B h0 (mkG [(2, fV r_i64 x2), (4, fRef GAttitude.rep x1), (28, fV (Rep.slice GStation.rep) x0.Stations), (29, fV r_i64 (List.length x0.Stations : Int)), (30, fV r_i64 s2.2), (31, fV Rep.bool (cmpI .lss s2.2 (List.length x0.Stations : Int)))]) (mkO [(6, boxE 65 GHydro.rep (⟨(⟨(⟨false, []⟩ : GInt), (⟨false, []⟩ : GInt)⟩ : GRat), (⟨(⟨false, []⟩ : GInt), (⟨false, []⟩ : GInt)⟩ : GRat), (⟨(⟨false, []⟩ : GInt), (⟨false, []⟩ : GInt)⟩ : GRat), (⟨(⟨false, []⟩ : GInt), (⟨false, []⟩ : GInt)⟩ : GRat), (⟨(⟨false, []⟩ : GInt), (⟨false, []⟩ : GInt)⟩ : GRat), (⟨(⟨false, []⟩ : GInt), (⟨false, []⟩ : GInt)⟩ : GRat), (⟨(⟨false, []⟩ : GInt), (⟨false, []⟩ : GInt)⟩ : GRat), (⟨(⟨false, []⟩ : GInt), (⟨false, []⟩ : GInt)⟩ : GRat), (⟨(⟨false, []⟩ : GInt), (⟨false, []⟩ : GInt)⟩ : GRat)⟩ : GHydro)), (9, boxE 65 GHydro.rep s2.1)]) F 176 a w := hAt
    refine then_n ?_; refine wp_seq ?_; refine wp_if hAt (by rfl) ?_ ?_
    · intro hb28; have H := iteT hb28 H; refine wp_skip ?_; refine then_n ?_; refine wp_seq ?_; refine wp_block ?_; refine wp_seq ?_; obtain ⟨v3, hv3, H⟩ := bindE H
      refine reg [⟨fRef GStation.rep v3, [], [(28, none), (30, none)], []⟩,
          ⟨fV GStation.rep v3, [], [(32, some 0)], []⟩,
          ⟨Fact.triv, [(11, some (boxE 71 GStation.rep (⟨0, 0, [], []⟩ : GStation)))], [], []⟩,
          ⟨Fact.triv, [(11, some (boxE 71 GStation.rep v3))], [(33, some 1)], [(11, some 2)]⟩] [2, 4, 28, 29, 30] [6, 9, 11] hAt
          ⟨ok_index ty71 un22 hv3 rfl opd0 opd1,
          ok_load ty71 rfl opd0,
          ok_alloc ty71 rfl rfl,
          ok_storeBox ty71 rfl rfl opd0, trivial⟩ (by kernel_rfl) ?_
      clear hAt; intro a w hAt
      replace hAt : At B h0 (mkG [(2, fV r_i64 x2), (4, fRef GAttitude.rep x1), (28, fV (Rep.slice GStation.rep) x0.Stations), (29, fV r_i64 (List.length x0.Stations : Int)), (30, fV r_i64 s2.2)]) (mkO [(6, boxE 65 GHydro.rep (⟨(⟨(⟨false, []⟩ : GInt), (⟨false, []⟩ : GInt)⟩ : GRat), (⟨(⟨false, []⟩ : GInt), (⟨false, []⟩ : GInt)⟩ : GRat), (⟨(⟨false, []⟩ : GInt), (⟨false, []⟩ : GInt)⟩ : GRat), (⟨(⟨false, []⟩ : GInt), (⟨false, []⟩ : GInt)⟩ : GRat), (⟨(⟨false, []⟩ : GInt), (⟨false, []⟩ : GInt)⟩ : GRat), (⟨(⟨false, []⟩ : GInt), (⟨false, []⟩ : GInt)⟩ : GRat), (⟨(⟨false, []⟩ : GInt), (⟨false, []⟩ : GInt)⟩ : GRat), (⟨(⟨false, []⟩ : GInt), (⟨false, []⟩ : GInt)⟩ : GRat), (⟨(⟨false, []⟩ : GInt), (⟨false, []⟩ : GInt)⟩ : GRat)⟩ : GHydro)), (9, boxE 65 GHydro.rep s2.1), (11, boxE 71 GStation.rep v3)]) F 176 a w := hAt
      refine then_n ?_; refine wp_seq ?_; obtain ⟨v4, hv4, H⟩ := bindE H; obtain ⟨v5, hv5, H⟩ := bindE H; obtain ⟨v6, hv6, H⟩ := bindE H
      refine regd [⟨fV GAttitude.rep x1, [], [(4, none)], []⟩,
          ⟨fOff 11 0, [], [], [(11, none)]⟩,
          ⟨fV r_i64 v3.X, [], [(35, some 1)], [(11, none)]⟩,
          ⟨fV GRat.rep v4, [], [(34, some 0), (36, some 2)], []⟩,
          ⟨fOff 11 1, [], [], [(11, none)]⟩,
          ⟨fV r_i64 v3.Width, [], [(38, some 4)], [(11, none)]⟩,
          ⟨fV GRat.rep v5, [], [(39, some 5)], []⟩,
          ⟨fOff 11 0, [], [], [(11, none)]⟩,
          ⟨fV r_i64 v3.X, [], [(41, some 7)], [(11, none)]⟩,
          ⟨fV GRat.rep v6, [], [(42, some 8)], []⟩,
          ⟨Fact.triv, [(12, some (boxE 32 GRat.rep (⟨(⟨false, []⟩ : GInt), (⟨false, []⟩ : GInt)⟩ : GRat)))], [], []⟩,
          ⟨Fact.triv, [(13, some (boxE 32 GRat.rep (⟨(⟨false, []⟩ : GInt), (⟨false, []⟩ : GInt)⟩ : GRat)))], [], []⟩,
          ⟨Fact.triv, [(14, some (boxE 32 GRat.rep (⟨(⟨false, []⟩ : GInt), (⟨false, []⟩ : GInt)⟩ : GRat)))], [], []⟩,
          ⟨Fact.triv, [(12, some (boxE 32 GRat.rep v4))], [(37, some 3)], [(12, some 10)]⟩,
          ⟨Fact.triv, [(13, some (boxE 32 GRat.rep v5))], [(40, some 6)], [(13, some 11)]⟩,
          ⟨Fact.triv, [(14, some (boxE 32 GRat.rep v6))], [(43, some 9)], [(14, some 12)]⟩] [0, 1, 2, 3, 4, 5, 6, 7, 8, 9, 10, 11, 12, 13, 14, 15] [0, 1, 2, 3, 4, 5, 6, 7, 8, 9, 10, 11, 12, 13, 14, 15] [2, 4, 28, 29, 30] [6, 9, 11, 12, 13, 14] hAt
          ⟨ok_load ty34 rfl opd0,
          ok_fieldOwn fo71_0 rfl,
          ok_loadOwn GStation.l0 ty3 rfl opd0,
          ok_call (ok_f_hull_Immersion N x1 v3.X _ hv4) Try.func25 (by kernel_rfl) (by kernel_rfl) rfl ⟨opd0, ⟨opd1, trivial⟩⟩,
          ok_fieldOwn fo71_1 rfl,
          ok_loadOwn GStation.l1 ty3 rfl opd0,
          ok_call (ok_f_hull_whole N v3.Width _ hv5) Try.func42 (by kernel_rfl) (by kernel_rfl) rfl ⟨opd0, trivial⟩,
          ok_fieldOwn fo71_0 rfl,
          ok_loadOwn GStation.l0 ty3 rfl opd0,
          ok_call (ok_f_hull_whole N v3.X _ hv6) Try.func42 (by kernel_rfl) (by kernel_rfl) rfl ⟨opd0, trivial⟩,
          ok_alloc ty32 rfl rfl,
          ok_alloc ty32 rfl rfl,
          ok_alloc ty32 rfl rfl,
          ok_storeBox ty32 rfl rfl opd0,
          ok_storeBox ty32 rfl rfl opd0,
          ok_storeBox ty32 rfl rfl opd0, trivial⟩ (by kernel_rfl) ?_
      clear hAt; intro a w hAt
      replace hAt : At B h0 (mkG [(2, fV r_i64 x2), (4, fRef GAttitude.rep x1), (28, fV (Rep.slice GStation.rep) x0.Stations), (29, fV r_i64 (List.length x0.Stations : Int)), (30, fV r_i64 s2.2)]) (mkO [(6, boxE 65 GHydro.rep (⟨(⟨(⟨false, []⟩ : GInt), (⟨false, []⟩ : GInt)⟩ : GRat), (⟨(⟨false, []⟩ : GInt), (⟨false, []⟩ : GInt)⟩ : GRat), (⟨(⟨false, []⟩ : GInt), (⟨false, []⟩ : GInt)⟩ : GRat), (⟨(⟨false, []⟩ : GInt), (⟨false, []⟩ : GInt)⟩ : GRat), (⟨(⟨false, []⟩ : GInt), (⟨false, []⟩ : GInt)⟩ : GRat), (⟨(⟨false, []⟩ : GInt), (⟨false, []⟩ : GInt)⟩ : GRat), (⟨(⟨false, []⟩ : GInt), (⟨false, []⟩ : GInt)⟩ : GRat), (⟨(⟨false, []⟩ : GInt), (⟨false, []⟩ : GInt)⟩ : GRat), (⟨(⟨false, []⟩ : GInt), (⟨false, []⟩ : GInt)⟩ : GRat)⟩ : GHydro)), (9, boxE 65 GHydro.rep s2.1), (11, boxE 71 GStation.rep v3), (12, boxE 32 GRat.rep v4), (13, boxE 32 GRat.rep v5), (14, boxE 32 GRat.rep v6)]) F 176 a w := hAt
      refine then_n ?_; refine wp_seq ?_; obtain ⟨v7, hv7, H⟩ := bindE H
      refine reg [⟨fV GStation.rep v3, [], [], [(11, none)]⟩,
          ⟨fV GRat.rep v4, [], [], [(12, none)]⟩,
          ⟨fV Ghull_section.rep v7, [], [(44, some 0), (45, some 1)], []⟩,
          ⟨Fact.triv, [(15, some (boxE 120 Ghull_section.rep (⟨(⟨(⟨false, []⟩ : GInt), (⟨false, []⟩ : GInt)⟩ : GRat), (⟨(⟨false, []⟩ : GInt), (⟨false, []⟩ : GInt)⟩ : GRat)⟩ : Ghull_section)))], [], []⟩,
          ⟨Fact.triv, [(15, some (boxE 120 Ghull_section.rep v7))], [(46, some 2)], [(15, some 3)]⟩] [2, 4, 28, 29, 30] [6, 9, 11, 12, 13, 14, 15] hAt
          ⟨ok_loadBox ty71 rfl,
          ok_loadBox ty32 rfl,
          ok_call (ok_f_hull_immersed N v3 v4 _ hv7) Try.func78 (by kernel_rfl) (by kernel_rfl) rfl ⟨opd0, ⟨opd1, trivial⟩⟩,
          ok_alloc ty120 rfl rfl,
          ok_storeBox ty120 rfl rfl opd0, trivial⟩ (by kernel_rfl) ?_
      clear hAt; intro a w hAt
      replace hAt : At B h0 (mkG [(2, fV r_i64 x2), (4, fRef GAttitude.rep x1), (28, fV (Rep.slice GStation.rep) x0.Stations), (29, fV r_i64 (List.length x0.Stations : Int)), (30, fV r_i64 s2.2)]) (mkO [(6, boxE 65 GHydro.rep (⟨(⟨(⟨false, []⟩ : GInt), (⟨false, []⟩ : GInt)⟩ : GRat), (⟨(⟨false, []⟩ : GInt), (⟨false, []⟩ : GInt)⟩ : GRat), (⟨(⟨false, []⟩ : GInt), (⟨false, []⟩ : GInt)⟩ : GRat), (⟨(⟨false, []⟩ : GInt), (⟨false, []⟩ : GInt)⟩ : GRat), (⟨(⟨false, []⟩ : GInt), (⟨false, []⟩ : GInt)⟩ : GRat), (⟨(⟨false, []⟩ : GInt), (⟨false, []⟩ : GInt)⟩ : GRat), (⟨(⟨false, []⟩ : GInt), (⟨false, []⟩ : GInt)⟩ : GRat), (⟨(⟨false, []⟩ : GInt), (⟨false, []⟩ : GInt)⟩ : GRat), (⟨(⟨false, []⟩ : GInt), (⟨false, []⟩ : GInt)⟩ : GRat)⟩ : GHydro)), (9, boxE 65 GHydro.rep s2.1), (11, boxE 71 GStation.rep v3), (12, boxE 32 GRat.rep v4), (13, boxE 32 GRat.rep v5), (14, boxE 32 GRat.rep v6), (15, boxE 120 Ghull_section.rep v7)]) F 176 a w := hAt
      refine then_n ?_; refine wp_seq ?_; obtain ⟨v8, hv8, H⟩ := bindE H; obtain ⟨v9, hv9, H⟩ := bindE H
      refine regd [⟨fOff 9 0, [], [], [(9, none)]⟩,
          ⟨fV GRat.rep s2.1.Volume, [], [(47, some 0)], [(9, none)]⟩,
          ⟨fV GRat.rep v5, [], [], [(13, none)]⟩,
          ⟨fOff 15 0, [], [], [(15, none)]⟩,
          ⟨fV GRat.rep v7.area, [], [(50, some 3)], [(15, none)]⟩,
          ⟨fV (Rep.slice GRat.rep) [v5, v7.area], [], [(49, some 2), (51, some 4)], []⟩,
          ⟨fV GRat.rep v8, [], [(52, some 5)], []⟩,
          ⟨fV GRat.rep v9, [], [(48, some 1), (53, some 6)], []⟩,
          ⟨fOff 9 0, [], [], [(9, none)]⟩,
          ⟨Fact.triv, [(9, some (boxE 65 GHydro.rep ({ s2.1 with Volume := v9 } : GHydro)))], [(55, some 8), (54, some 7)], [(9, none)]⟩] [0, 1, 2, 3, 4, 5, 6, 7, 8, 9] [0, 1, 2, 3, 4, 5, 6, 7, 8, 9] [2, 4, 28, 29, 30] [6, 9, 11, 12, 13, 14, 15] hAt
          ⟨ok_fieldOwn fo65_0 rfl,
          ok_loadOwn GHydro.l0 ty32 rfl opd0,
          ok_loadBox ty32 rfl,
          ok_fieldOwn fo120_0 rfl,
          ok_loadOwn Ghull_section.l0 ty32 rfl opd0,
          ok_buildSlice ty32 un126 rfl rfl (fillC (Lens.arr _ _ 0 (by decide)) rfl opd0 (fillC (Lens.arr _ _ 1 (by decide)) rfl opd1 fillN)),
          ok_call (ok_f_hull_times N [v5, v7.area] _ hv8) Try.func43 (by kernel_rfl) (by kernel_rfl) rfl ⟨opd0, trivial⟩,
          ok_call (ok_f_exact_AddRat N s2.1.Volume v8 _ hv9) Try.func22 (by kernel_rfl) (by kernel_rfl) rfl ⟨opd0, ⟨opd1, trivial⟩⟩,
          ok_fieldOwn fo65_0 rfl,
          ok_store GHydro.l0 ty32 rfl rfl opd0 opd1 rfl, trivial⟩ (by kernel_rfl) ?_
      clear hAt; intro a w hAt
      replace hAt : At B h0 (mkG [(2, fV r_i64 x2), (4, fRef GAttitude.rep x1), (28, fV (Rep.slice GStation.rep) x0.Stations), (29, fV r_i64 (List.length x0.Stations : Int)), (30, fV r_i64 s2.2)]) (mkO [(6, boxE 65 GHydro.rep (⟨(⟨(⟨false, []⟩ : GInt), (⟨false, []⟩ : GInt)⟩ : GRat), (⟨(⟨false, []⟩ : GInt), (⟨false, []⟩ : GInt)⟩ : GRat), (⟨(⟨false, []⟩ : GInt), (⟨false, []⟩ : GInt)⟩ : GRat), (⟨(⟨false, []⟩ : GInt), (⟨false, []⟩ : GInt)⟩ : GRat), (⟨(⟨false, []⟩ : GInt), (⟨false, []⟩ : GInt)⟩ : GRat), (⟨(⟨false, []⟩ : GInt), (⟨false, []⟩ : GInt)⟩ : GRat), (⟨(⟨false, []⟩ : GInt), (⟨false, []⟩ : GInt)⟩ : GRat), (⟨(⟨false, []⟩ : GInt), (⟨false, []⟩ : GInt)⟩ : GRat), (⟨(⟨false, []⟩ : GInt), (⟨false, []⟩ : GInt)⟩ : GRat)⟩ : GHydro)), (9, boxE 65 GHydro.rep ({ s2.1 with Volume := v9 } : GHydro)), (11, boxE 71 GStation.rep v3), (12, boxE 32 GRat.rep v4), (13, boxE 32 GRat.rep v5), (14, boxE 32 GRat.rep v6), (15, boxE 120 Ghull_section.rep v7)]) F 176 a w := hAt
      refine then_n ?_; refine wp_seq ?_; obtain ⟨v10, hv10, H⟩ := bindE H; obtain ⟨v11, hv11, H⟩ := bindE H
      refine regd [⟨fOff 9 8, [], [], [(9, none)]⟩,
          ⟨fV GRat.rep (({ s2.1 with Volume := v9 } : GHydro).X), [], [(56, some 0)], [(9, none)]⟩,
          ⟨fV GRat.rep v5, [], [], [(13, none)]⟩,
          ⟨fOff 15 0, [], [], [(15, none)]⟩,
          ⟨fV GRat.rep v7.area, [], [(59, some 3)], [(15, none)]⟩,
          ⟨fV GRat.rep v6, [], [], [(14, none)]⟩,
          ⟨fV (Rep.slice GRat.rep) [v5, v7.area, v6], [], [(58, some 2), (60, some 4), (61, some 5)], []⟩,
          ⟨fV GRat.rep v10, [], [(62, some 6)], []⟩,
          ⟨fV GRat.rep v11, [], [(57, some 1), (63, some 7)], []⟩,
          ⟨fOff 9 8, [], [], [(9, none)]⟩,
          ⟨Fact.triv, [(9, some (boxE 65 GHydro.rep ({ ({ s2.1 with Volume := v9 } : GHydro) with X := v11 } : GHydro)))], [(65, some 9), (64, some 8)], [(9, none)]⟩] [0, 1, 2, 3, 4, 5, 6, 7, 8, 9, 10] [0, 1, 2, 3, 4, 5, 6, 7, 8, 9, 10] [2, 4, 28, 29, 30] [6, 9, 11, 12, 13, 14, 15] hAt
          ⟨ok_fieldOwn fo65_2 rfl,
          ok_loadOwn GHydro.l2 ty32 rfl opd0,
          ok_loadBox ty32 rfl,
          ok_fieldOwn fo120_0 rfl,
          ok_loadOwn Ghull_section.l0 ty32 rfl opd0,
          ok_loadBox ty32 rfl,
          ok_buildSlice ty32 un126 rfl rfl (fillC (Lens.arr _ _ 0 (by decide)) rfl opd0 (fillC (Lens.arr _ _ 1 (by decide)) rfl opd1 (fillC (Lens.arr _ _ 2 (by decide)) rfl opd2 fillN))),
          ok_call (ok_f_hull_times N [v5, v7.area, v6] _ hv10) Try.func43 (by kernel_rfl) (by kernel_rfl) rfl ⟨opd0, trivial⟩,
          ok_call (ok_f_exact_AddRat N (({ s2.1 with Volume := v9 } : GHydro).X) v10 _ hv11) Try.func22 (by kernel_rfl) (by kernel_rfl) rfl ⟨opd0, ⟨opd1, trivial⟩⟩,
          ok_fieldOwn fo65_2 rfl,
          ok_store GHydro.l2 ty32 rfl rfl opd0 opd1 rfl, trivial⟩ (by kernel_rfl) ?_
      clear hAt; intro a w hAt
      replace hAt : At B h0 (mkG [(2, fV r_i64 x2), (4, fRef GAttitude.rep x1), (28, fV (Rep.slice GStation.rep) x0.Stations), (29, fV r_i64 (List.length x0.Stations : Int)), (30, fV r_i64 s2.2)]) (mkO [(6, boxE 65 GHydro.rep (⟨(⟨(⟨false, []⟩ : GInt), (⟨false, []⟩ : GInt)⟩ : GRat), (⟨(⟨false, []⟩ : GInt), (⟨false, []⟩ : GInt)⟩ : GRat), (⟨(⟨false, []⟩ : GInt), (⟨false, []⟩ : GInt)⟩ : GRat), (⟨(⟨false, []⟩ : GInt), (⟨false, []⟩ : GInt)⟩ : GRat), (⟨(⟨false, []⟩ : GInt), (⟨false, []⟩ : GInt)⟩ : GRat), (⟨(⟨false, []⟩ : GInt), (⟨false, []⟩ : GInt)⟩ : GRat), (⟨(⟨false, []⟩ : GInt), (⟨false, []⟩ : GInt)⟩ : GRat), (⟨(⟨false, []⟩ : GInt), (⟨false, []⟩ : GInt)⟩ : GRat), (⟨(⟨false, []⟩ : GInt), (⟨false, []⟩ : GInt)⟩ : GRat)⟩ : GHydro)), (9, boxE 65 GHydro.rep ({ ({ s2.1 with Volume := v9 } : GHydro) with X := v11 } : GHydro)), (11, boxE 71 GStation.rep v3), (12, boxE 32 GRat.rep v4), (13, boxE 32 GRat.rep v5), (14, boxE 32 GRat.rep v6), (15, boxE 120 Ghull_section.rep v7)]) F 176 a w := hAt
      refine then_n ?_; refine wp_seq ?_; obtain ⟨v12, hv12, H⟩ := bindE H; obtain ⟨v13, hv13, H⟩ := bindE H
      refine regd [⟨fOff 9 12, [], [], [(9, none)]⟩,
          ⟨fV GRat.rep (({ ({ s2.1 with Volume := v9 } : GHydro) with X := v11 } : GHydro).Z), [], [(66, some 0)], [(9, none)]⟩,
          ⟨fV GRat.rep v5, [], [], [(13, none)]⟩,
          ⟨fOff 15 4, [], [], [(15, none)]⟩,
          ⟨fV GRat.rep v7.moment, [], [(69, some 3)], [(15, none)]⟩,
          ⟨fV (Rep.slice GRat.rep) [v5, v7.moment], [], [(68, some 2), (70, some 4)], []⟩,
          ⟨fV GRat.rep v12, [], [(71, some 5)], []⟩,
          ⟨fV GRat.rep v13, [], [(67, some 1), (72, some 6)], []⟩,
          ⟨fOff 9 12, [], [], [(9, none)]⟩,
          ⟨Fact.triv, [(9, some (boxE 65 GHydro.rep ({ ({ ({ s2.1 with Volume := v9 } : GHydro) with X := v11 } : GHydro) with Z := v13 } : GHydro)))], [(74, some 8), (73, some 7)], [(9, none)]⟩] [0, 1, 2, 3, 4, 5, 6, 7, 8, 9] [0, 1, 2, 3, 4, 5, 6, 7, 8, 9] [2, 4, 28, 29, 30] [6, 9, 11, 12, 13, 14] hAt
          ⟨ok_fieldOwn fo65_3 rfl,
          ok_loadOwn GHydro.l3 ty32 rfl opd0,
          ok_loadBox ty32 rfl,
          ok_fieldOwn fo120_1 rfl,
          ok_loadOwn Ghull_section.l1 ty32 rfl opd0,
          ok_buildSlice ty32 un126 rfl rfl (fillC (Lens.arr _ _ 0 (by decide)) rfl opd0 (fillC (Lens.arr _ _ 1 (by decide)) rfl opd1 fillN)),
          ok_call (ok_f_hull_times N [v5, v7.moment] _ hv12) Try.func43 (by kernel_rfl) (by kernel_rfl) rfl ⟨opd0, trivial⟩,
          ok_call (ok_f_exact_AddRat N (({ ({ s2.1 with Volume := v9 } : GHydro) with X := v11 } : GHydro).Z) v12 _ hv13) Try.func22 (by kernel_rfl) (by kernel_rfl) rfl ⟨opd0, ⟨opd1, trivial⟩⟩,
          ok_fieldOwn fo65_3 rfl,
          ok_store GHydro.l3 ty32 rfl rfl opd0 opd1 rfl, trivial⟩ (by kernel_rfl) ?_
      clear hAt; intro a w hAt
      replace hAt : At B h0 (mkG [(2, fV r_i64 x2), (4, fRef GAttitude.rep x1), (28, fV (Rep.slice GStation.rep) x0.Stations), (29, fV r_i64 (List.length x0.Stations : Int)), (30, fV r_i64 s2.2)]) (mkO [(6, boxE 65 GHydro.rep (⟨(⟨(⟨false, []⟩ : GInt), (⟨false, []⟩ : GInt)⟩ : GRat), (⟨(⟨false, []⟩ : GInt), (⟨false, []⟩ : GInt)⟩ : GRat), (⟨(⟨false, []⟩ : GInt), (⟨false, []⟩ : GInt)⟩ : GRat), (⟨(⟨false, []⟩ : GInt), (⟨false, []⟩ : GInt)⟩ : GRat), (⟨(⟨false, []⟩ : GInt), (⟨false, []⟩ : GInt)⟩ : GRat), (⟨(⟨false, []⟩ : GInt), (⟨false, []⟩ : GInt)⟩ : GRat), (⟨(⟨false, []⟩ : GInt), (⟨false, []⟩ : GInt)⟩ : GRat), (⟨(⟨false, []⟩ : GInt), (⟨false, []⟩ : GInt)⟩ : GRat), (⟨(⟨false, []⟩ : GInt), (⟨false, []⟩ : GInt)⟩ : GRat)⟩ : GHydro)), (9, boxE 65 GHydro.rep ({ ({ ({ s2.1 with Volume := v9 } : GHydro) with X := v11 } : GHydro) with Z := v13 } : GHydro)), (11, boxE 71 GStation.rep v3), (12, boxE 32 GRat.rep v4), (13, boxE 32 GRat.rep v5), (14, boxE 32 GRat.rep v6)]) F 176 a w := hAt
      refine then_n ?_; refine wp_seq ?_; obtain ⟨v14, hv14, H⟩ := bindE H; obtain ⟨v15, hv15, H⟩ := bindE H
      refine reg [⟨fV GStation.rep v3, [], [], [(11, none)]⟩,
          ⟨fV GRat.rep v4, [], [], [(12, none)]⟩,
          ⟨fV r_i64 v14, [], [(75, some 0), (76, some 1)], []⟩,
          ⟨fV GRat.rep v15, [], [(77, some 2)], []⟩,
          ⟨Fact.triv, [(16, some (boxE 32 GRat.rep (⟨(⟨false, []⟩ : GInt), (⟨false, []⟩ : GInt)⟩ : GRat)))], [], []⟩,
          ⟨Fact.triv, [(16, some (boxE 32 GRat.rep v15))], [(78, some 3)], [(16, some 4)]⟩] [2, 4, 28, 29, 30] [6, 9, 13, 14, 16] hAt
          ⟨ok_loadBox ty71 rfl,
          ok_loadBox ty32 rfl,
          ok_call (ok_f_hull_atWater N v3 v4 _ hv14) Try.func79 (by kernel_rfl) (by kernel_rfl) rfl ⟨opd0, ⟨opd1, trivial⟩⟩,
          ok_call (ok_f_hull_whole N v14 _ hv15) Try.func42 (by kernel_rfl) (by kernel_rfl) rfl ⟨opd0, trivial⟩,
          ok_alloc ty32 rfl rfl,
          ok_storeBox ty32 rfl rfl opd0, trivial⟩ (by kernel_rfl) ?_
      clear hAt; intro a w hAt
      replace hAt : At B h0 (mkG [(2, fV r_i64 x2), (4, fRef GAttitude.rep x1), (28, fV (Rep.slice GStation.rep) x0.Stations), (29, fV r_i64 (List.length x0.Stations : Int)), (30, fV r_i64 s2.2)]) (mkO [(6, boxE 65 GHydro.rep (⟨(⟨(⟨false, []⟩ : GInt), (⟨false, []⟩ : GInt)⟩ : GRat), (⟨(⟨false, []⟩ : GInt), (⟨false, []⟩ : GInt)⟩ : GRat), (⟨(⟨false, []⟩ : GInt), (⟨false, []⟩ : GInt)⟩ : GRat), (⟨(⟨false, []⟩ : GInt), (⟨false, []⟩ : GInt)⟩ : GRat), (⟨(⟨false, []⟩ : GInt), (⟨false, []⟩ : GInt)⟩ : GRat), (⟨(⟨false, []⟩ : GInt), (⟨false, []⟩ : GInt)⟩ : GRat), (⟨(⟨false, []⟩ : GInt), (⟨false, []⟩ : GInt)⟩ : GRat), (⟨(⟨false, []⟩ : GInt), (⟨false, []⟩ : GInt)⟩ : GRat), (⟨(⟨false, []⟩ : GInt), (⟨false, []⟩ : GInt)⟩ : GRat)⟩ : GHydro)), (9, boxE 65 GHydro.rep ({ ({ ({ s2.1 with Volume := v9 } : GHydro) with X := v11 } : GHydro) with Z := v13 } : GHydro)), (13, boxE 32 GRat.rep v5), (14, boxE 32 GRat.rep v6), (16, boxE 32 GRat.rep v15)]) F 176 a w := hAt
      refine then_n ?_; refine wp_seq ?_; obtain ⟨v16, hv16, H⟩ := bindE H; obtain ⟨v17, hv17, H⟩ := bindE H
      refine regd [⟨fV GRat.rep v16, [], [], []⟩,
          ⟨fV GRat.rep v15, [], [], [(16, none)]⟩,
          ⟨fV GRat.rep v5, [], [], [(13, none)]⟩,
          ⟨fV (Rep.slice GRat.rep) [v16, v15, v5], [], [(79, some 0), (80, some 1), (81, some 2)], []⟩,
          ⟨fV GRat.rep v17, [], [(82, some 3)], []⟩,
          ⟨Fact.triv, [(17, some (boxE 32 GRat.rep (⟨(⟨false, []⟩ : GInt), (⟨false, []⟩ : GInt)⟩ : GRat)))], [], []⟩,
          ⟨Fact.triv, [(17, some (boxE 32 GRat.rep v17))], [(83, some 4)], [(17, some 5)]⟩] [0, 1, 2, 3, 4, 5, 6] [0, 1, 2, 3, 4, 5, 6] [2, 4, 28, 29, 30] [6, 9, 13, 14, 16, 17] hAt
          ⟨ok_call (ok_f_hull_whole N 2 _ hv16) Try.func42 (by kernel_rfl) (by kernel_rfl) rfl ⟨opdI, trivial⟩,
          ok_loadBox ty32 rfl,
          ok_loadBox ty32 rfl,
          ok_buildSlice ty32 un126 rfl rfl (fillC (Lens.arr _ _ 0 (by decide)) rfl opd0 (fillC (Lens.arr _ _ 1 (by decide)) rfl opd1 (fillC (Lens.arr _ _ 2 (by decide)) rfl opd2 fillN))),
          ok_call (ok_f_hull_times N [v16, v15, v5] _ hv17) Try.func43 (by kernel_rfl) (by kernel_rfl) rfl ⟨opd0, trivial⟩,
          ok_alloc ty32 rfl rfl,
          ok_storeBox ty32 rfl rfl opd0, trivial⟩ (by kernel_rfl) ?_
      clear hAt; intro a w hAt
      replace hAt : At B h0 (mkG [(2, fV r_i64 x2), (4, fRef GAttitude.rep x1), (28, fV (Rep.slice GStation.rep) x0.Stations), (29, fV r_i64 (List.length x0.Stations : Int)), (30, fV r_i64 s2.2)]) (mkO [(6, boxE 65 GHydro.rep (⟨(⟨(⟨false, []⟩ : GInt), (⟨false, []⟩ : GInt)⟩ : GRat), (⟨(⟨false, []⟩ : GInt), (⟨false, []⟩ : GInt)⟩ : GRat), (⟨(⟨false, []⟩ : GInt), (⟨false, []⟩ : GInt)⟩ : GRat), (⟨(⟨false, []⟩ : GInt), (⟨false, []⟩ : GInt)⟩ : GRat), (⟨(⟨false, []⟩ : GInt), (⟨false, []⟩ : GInt)⟩ : GRat), (⟨(⟨false, []⟩ : GInt), (⟨false, []⟩ : GInt)⟩ : GRat), (⟨(⟨false, []⟩ : GInt), (⟨false, []⟩ : GInt)⟩ : GRat), (⟨(⟨false, []⟩ : GInt), (⟨false, []⟩ : GInt)⟩ : GRat), (⟨(⟨false, []⟩ : GInt), (⟨false, []⟩ : GInt)⟩ : GRat)⟩ : GHydro)), (9, boxE 65 GHydro.rep ({ ({ ({ s2.1 with Volume := v9 } : GHydro) with X := v11 } : GHydro) with Z := v13 } : GHydro)), (13, boxE 32 GRat.rep v5), (14, boxE 32 GRat.rep v6), (16, boxE 32 GRat.rep v15), (17, boxE 32 GRat.rep v17)]) F 176 a w := hAt
      refine then_n ?_; refine wp_seq ?_; obtain ⟨v18, hv18, H⟩ := bindE H
      refine reg [⟨fOff 9 16, [], [], [(9, none)]⟩,
          ⟨fV GRat.rep (({ ({ ({ s2.1 with Volume := v9 } : GHydro) with X := v11 } : GHydro) with Z := v13 } : GHydro).Area), [], [(84, some 0)], [(9, none)]⟩,
          ⟨fV GRat.rep v17, [], [], [(17, none)]⟩,
          ⟨fV GRat.rep v18, [], [(85, some 1), (86, some 2)], []⟩,
          ⟨fOff 9 16, [], [], [(9, none)]⟩,
          ⟨Fact.triv, [(9, some (boxE 65 GHydro.rep ({ ({ ({ ({ s2.1 with Volume := v9 } : GHydro) with X := v11 } : GHydro) with Z := v13 } : GHydro) with Area := v18 } : GHydro)))], [(88, some 4), (87, some 3)], [(9, none)]⟩] [2, 4, 28, 29, 30] [6, 9, 13, 14, 16, 17] hAt
          ⟨ok_fieldOwn fo65_4 rfl,
          ok_loadOwn GHydro.l4 ty32 rfl opd0,
          ok_loadBox ty32 rfl,
          ok_call (ok_f_exact_AddRat N (({ ({ ({ s2.1 with Volume := v9 } : GHydro) with X := v11 } : GHydro) with Z := v13 } : GHydro).Area) v17 _ hv18) Try.func22 (by kernel_rfl) (by kernel_rfl) rfl ⟨opd0, ⟨opd1, trivial⟩⟩,
          ok_fieldOwn fo65_4 rfl,
          ok_store GHydro.l4 ty32 rfl rfl opd0 opd1 rfl, trivial⟩ (by kernel_rfl) ?_
      clear hAt; intro a w hAt
      replace hAt : At B h0 (mkG [(2, fV r_i64 x2), (4, fRef GAttitude.rep x1), (28, fV (Rep.slice GStation.rep) x0.Stations), (29, fV r_i64 (List.length x0.Stations : Int)), (30, fV r_i64 s2.2)]) (mkO [(6, boxE 65 GHydro.rep (⟨(⟨(⟨false, []⟩ : GInt), (⟨false, []⟩ : GInt)⟩ : GRat), (⟨(⟨false, []⟩ : GInt), (⟨false, []⟩ : GInt)⟩ : GRat), (⟨(⟨false, []⟩ : GInt), (⟨false, []⟩ : GInt)⟩ : GRat), (⟨(⟨false, []⟩ : GInt), (⟨false, []⟩ : GInt)⟩ : GRat), (⟨(⟨false, []⟩ : GInt), (⟨false, []⟩ : GInt)⟩ : GRat), (⟨(⟨false, []⟩ : GInt), (⟨false, []⟩ : GInt)⟩ : GRat), (⟨(⟨false, []⟩ : GInt), (⟨false, []⟩ : GInt)⟩ : GRat), (⟨(⟨false, []⟩ : GInt), (⟨false, []⟩ : GInt)⟩ : GRat), (⟨(⟨false, []⟩ : GInt), (⟨false, []⟩ : GInt)⟩ : GRat)⟩ : GHydro)), (9, boxE 65 GHydro.rep ({ ({ ({ ({ s2.1 with Volume := v9 } : GHydro) with X := v11 } : GHydro) with Z := v13 } : GHydro) with Area := v18 } : GHydro)), (13, boxE 32 GRat.rep v5), (14, boxE 32 GRat.rep v6), (16, boxE 32 GRat.rep v15), (17, boxE 32 GRat.rep v17)]) F 176 a w := hAt
      refine then_n ?_; refine wp_seq ?_; obtain ⟨v19, hv19, H⟩ := bindE H; obtain ⟨v20, hv20, H⟩ := bindE H
      refine regd [⟨fOff 9 20, [], [], [(9, none)]⟩,
          ⟨fV GRat.rep (({ ({ ({ ({ s2.1 with Volume := v9 } : GHydro) with X := v11 } : GHydro) with Z := v13 } : GHydro) with Area := v18 } : GHydro).Float), [], [(89, some 0)], [(9, none)]⟩,
          ⟨fV GRat.rep v17, [], [], [(17, none)]⟩,
          ⟨fV GRat.rep v6, [], [], [(14, none)]⟩,
          ⟨fV (Rep.slice GRat.rep) [v17, v6], [], [(91, some 2), (92, some 3)], []⟩,
          ⟨fV GRat.rep v19, [], [(93, some 4)], []⟩,
          ⟨fV GRat.rep v20, [], [(90, some 1), (94, some 5)], []⟩,
          ⟨fOff 9 20, [], [], [(9, none)]⟩,
          ⟨Fact.triv, [(9, some (boxE 65 GHydro.rep ({ ({ ({ ({ ({ s2.1 with Volume := v9 } : GHydro) with X := v11 } : GHydro) with Z := v13 } : GHydro) with Area := v18 } : GHydro) with Float := v20 } : GHydro)))], [(96, some 7), (95, some 6)], [(9, none)]⟩] [0, 1, 2, 3, 4, 5, 6, 7, 8] [0, 1, 2, 3, 4, 5, 6, 7, 8] [2, 4, 28, 29, 30] [6, 9, 13, 14, 16, 17] hAt
          ⟨ok_fieldOwn fo65_5 rfl,
          ok_loadOwn GHydro.l5 ty32 rfl opd0,
          ok_loadBox ty32 rfl,
          ok_loadBox ty32 rfl,
          ok_buildSlice ty32 un126 rfl rfl (fillC (Lens.arr _ _ 0 (by decide)) rfl opd0 (fillC (Lens.arr _ _ 1 (by decide)) rfl opd1 fillN)),
          ok_call (ok_f_hull_times N [v17, v6] _ hv19) Try.func43 (by kernel_rfl) (by kernel_rfl) rfl ⟨opd0, trivial⟩,
          ok_call (ok_f_exact_AddRat N (({ ({ ({ ({ s2.1 with Volume := v9 } : GHydro) with X := v11 } : GHydro) with Z := v13 } : GHydro) with Area := v18 } : GHydro).Float) v19 _ hv20) Try.func22 (by kernel_rfl) (by kernel_rfl) rfl ⟨opd0, ⟨opd1, trivial⟩⟩,
          ok_fieldOwn fo65_5 rfl,
          ok_store GHydro.l5 ty32 rfl rfl opd0 opd1 rfl, trivial⟩ (by kernel_rfl) ?_
      clear hAt; intro a w hAt
      replace hAt : At B h0 (mkG [(2, fV r_i64 x2), (4, fRef GAttitude.rep x1), (28, fV (Rep.slice GStation.rep) x0.Stations), (29, fV r_i64 (List.length x0.Stations : Int)), (30, fV r_i64 s2.2)]) (mkO [(6, boxE 65 GHydro.rep (⟨(⟨(⟨false, []⟩ : GInt), (⟨false, []⟩ : GInt)⟩ : GRat), (⟨(⟨false, []⟩ : GInt), (⟨false, []⟩ : GInt)⟩ : GRat), (⟨(⟨false, []⟩ : GInt), (⟨false, []⟩ : GInt)⟩ : GRat), (⟨(⟨false, []⟩ : GInt), (⟨false, []⟩ : GInt)⟩ : GRat), (⟨(⟨false, []⟩ : GInt), (⟨false, []⟩ : GInt)⟩ : GRat), (⟨(⟨false, []⟩ : GInt), (⟨false, []⟩ : GInt)⟩ : GRat), (⟨(⟨false, []⟩ : GInt), (⟨false, []⟩ : GInt)⟩ : GRat), (⟨(⟨false, []⟩ : GInt), (⟨false, []⟩ : GInt)⟩ : GRat), (⟨(⟨false, []⟩ : GInt), (⟨false, []⟩ : GInt)⟩ : GRat)⟩ : GHydro)), (9, boxE 65 GHydro.rep ({ ({ ({ ({ ({ s2.1 with Volume := v9 } : GHydro) with X := v11 } : GHydro) with Z := v13 } : GHydro) with Area := v18 } : GHydro) with Float := v20 } : GHydro)), (13, boxE 32 GRat.rep v5), (14, boxE 32 GRat.rep v6), (16, boxE 32 GRat.rep v15), (17, boxE 32 GRat.rep v17)]) F 176 a w := hAt
      refine then_n ?_; refine wp_seq ?_; obtain ⟨v21, hv21, H⟩ := bindE H; obtain ⟨v22, hv22, H⟩ := bindE H; obtain ⟨v23, hv23, H⟩ := bindE H; obtain ⟨v24, hv24, H⟩ := bindE H; obtain ⟨v25, hv25, H⟩ := bindE H
      refine regd [⟨fOff 9 24, [], [], [(9, none)]⟩,
          ⟨fV GRat.rep (({ ({ ({ ({ ({ s2.1 with Volume := v9 } : GHydro) with X := v11 } : GHydro) with Z := v13 } : GHydro) with Area := v18 } : GHydro) with Float := v20 } : GHydro).Cross), [], [(97, some 0)], [(9, none)]⟩,
          ⟨fV GRat.rep v21, [], [], []⟩,
          ⟨fV GRat.rep v15, [], [], [(16, none)]⟩,
          ⟨fV GRat.rep v15, [], [], [(16, none)]⟩,
          ⟨fV GRat.rep v15, [], [], [(16, none)]⟩,
          ⟨fV GRat.rep v5, [], [], [(13, none)]⟩,
          ⟨fV (Rep.slice GRat.rep) [v21, v15, v15, v15, v5], [], [(99, some 2), (100, some 3), (101, some 4), (102, some 5), (103, some 6)], []⟩,
          ⟨fV GRat.rep v22, [], [(104, some 7)], []⟩,
          ⟨fV GRat.rep v23, [], [], []⟩,
          ⟨fV GRat.rep v24, [], [(105, some 8), (106, some 9)], []⟩,
          ⟨fV GRat.rep v25, [], [(98, some 1), (107, some 10)], []⟩,
          ⟨fOff 9 24, [], [], [(9, none)]⟩,
          ⟨Fact.triv, [(9, some (boxE 65 GHydro.rep ({ ({ ({ ({ ({ ({ s2.1 with Volume := v9 } : GHydro) with X := v11 } : GHydro) with Z := v13 } : GHydro) with Area := v18 } : GHydro) with Float := v20 } : GHydro) with Cross := v25 } : GHydro)))], [(109, some 12), (108, some 11)], [(9, none)]⟩] [0, 1, 2, 3, 4, 5, 6, 7, 8, 9, 10, 11, 12, 13] [0, 1, 2, 3, 4, 5, 6, 7, 8, 9, 10, 11, 12, 13] [2, 4, 28, 29, 30] [6, 9, 14, 17] hAt
          ⟨ok_fieldOwn fo65_6 rfl,
          ok_loadOwn GHydro.l6 ty32 rfl opd0,
          ok_call (ok_f_hull_whole N 2 _ hv21) Try.func42 (by kernel_rfl) (by kernel_rfl) rfl ⟨opdI, trivial⟩,
          ok_loadBox ty32 rfl,
          ok_loadBox ty32 rfl,
          ok_loadBox ty32 rfl,
          ok_loadBox ty32 rfl,
          ok_buildSlice ty32 un126 rfl rfl (fillC (Lens.arr _ _ 0 (by decide)) rfl opd0 (fillC (Lens.arr _ _ 1 (by decide)) rfl opd1 (fillC (Lens.arr _ _ 2 (by decide)) rfl opd2 (fillC (Lens.arr _ _ 3 (by decide)) rfl opd3 (fillC (Lens.arr _ _ 4 (by decide)) rfl opd4 fillN))))),
          ok_call (ok_f_hull_times N [v21, v15, v15, v15, v5] _ hv22) Try.func43 (by kernel_rfl) (by kernel_rfl) rfl ⟨opd0, trivial⟩,
          ok_call (ok_f_hull_whole N 3 _ hv23) Try.func42 (by kernel_rfl) (by kernel_rfl) rfl ⟨opdI, trivial⟩,
          ok_call (ok_f_hull_over N v22 v23 _ hv24) Try.func44 (by kernel_rfl) (by kernel_rfl) rfl ⟨opd0, ⟨opd1, trivial⟩⟩,
          ok_call (ok_f_exact_AddRat N (({ ({ ({ ({ ({ s2.1 with Volume := v9 } : GHydro) with X := v11 } : GHydro) with Z := v13 } : GHydro) with Area := v18 } : GHydro) with Float := v20 } : GHydro).Cross) v24 _ hv25) Try.func22 (by kernel_rfl) (by kernel_rfl) rfl ⟨opd0, ⟨opd1, trivial⟩⟩,
          ok_fieldOwn fo65_6 rfl,
          ok_store GHydro.l6 ty32 rfl rfl opd0 opd1 rfl, trivial⟩ (by kernel_rfl) ?_
      clear hAt; intro a w hAt
      replace hAt : At B h0 (mkG [(2, fV r_i64 x2), (4, fRef GAttitude.rep x1), (28, fV (Rep.slice GStation.rep) x0.Stations), (29, fV r_i64 (List.length x0.Stations : Int)), (30, fV r_i64 s2.2)]) (mkO [(6, boxE 65 GHydro.rep (⟨(⟨(⟨false, []⟩ : GInt), (⟨false, []⟩ : GInt)⟩ : GRat), (⟨(⟨false, []⟩ : GInt), (⟨false, []⟩ : GInt)⟩ : GRat), (⟨(⟨false, []⟩ : GInt), (⟨false, []⟩ : GInt)⟩ : GRat), (⟨(⟨false, []⟩ : GInt), (⟨false, []⟩ : GInt)⟩ : GRat), (⟨(⟨false, []⟩ : GInt), (⟨false, []⟩ : GInt)⟩ : GRat), (⟨(⟨false, []⟩ : GInt), (⟨false, []⟩ : GInt)⟩ : GRat), (⟨(⟨false, []⟩ : GInt), (⟨false, []⟩ : GInt)⟩ : GRat), (⟨(⟨false, []⟩ : GInt), (⟨false, []⟩ : GInt)⟩ : GRat), (⟨(⟨false, []⟩ : GInt), (⟨false, []⟩ : GInt)⟩ : GRat)⟩ : GHydro)), (9, boxE 65 GHydro.rep ({ ({ ({ ({ ({ ({ s2.1 with Volume := v9 } : GHydro) with X := v11 } : GHydro) with Z := v13 } : GHydro) with Area := v18 } : GHydro) with Float := v20 } : GHydro) with Cross := v25 } : GHydro)), (14, boxE 32 GRat.rep v6), (17, boxE 32 GRat.rep v17)]) F 176 a w := hAt
      refine then_n ?_; obtain ⟨v26, hv26, H⟩ := bindE H; obtain ⟨v27, hv27, H⟩ := bindE H
      refine regd [⟨fOff 9 28, [], [], [(9, none)]⟩,
          ⟨fV GRat.rep (({ ({ ({ ({ ({ ({ s2.1 with Volume := v9 } : GHydro) with X := v11 } : GHydro) with Z := v13 } : GHydro) with Area := v18 } : GHydro) with Float := v20 } : GHydro) with Cross := v25 } : GHydro).Long), [], [(110, some 0)], [(9, none)]⟩,
          ⟨fV GRat.rep v17, [], [], [(17, none)]⟩,
          ⟨fV GRat.rep v6, [], [], [(14, none)]⟩,
          ⟨fV GRat.rep v6, [], [], [(14, none)]⟩,
          ⟨fV (Rep.slice GRat.rep) [v17, v6, v6], [], [(112, some 2), (113, some 3), (114, some 4)], []⟩,
          ⟨fV GRat.rep v26, [], [(115, some 5)], []⟩,
          ⟨fV GRat.rep v27, [], [(111, some 1), (116, some 6)], []⟩,
          ⟨fOff 9 28, [], [], [(9, none)]⟩,
          ⟨Fact.triv, [(9, some (boxE 65 GHydro.rep ({ ({ ({ ({ ({ ({ ({ s2.1 with Volume := v9 } : GHydro) with X := v11 } : GHydro) with Z := v13 } : GHydro) with Area := v18 } : GHydro) with Float := v20 } : GHydro) with Cross := v25 } : GHydro) with Long := v27 } : GHydro)))], [(118, some 8), (117, some 7)], [(9, none)]⟩] [0, 1, 2, 3, 4, 5, 6, 7, 8, 9] [0, 1, 2, 3, 4, 5, 6, 7, 8, 9] [2, 4, 28, 29, 30] [6, 9] hAt
          ⟨ok_fieldOwn fo65_7 rfl,
          ok_loadOwn GHydro.l7 ty32 rfl opd0,
          ok_loadBox ty32 rfl,
          ok_loadBox ty32 rfl,
          ok_loadBox ty32 rfl,
          ok_buildSlice ty32 un126 rfl rfl (fillC (Lens.arr _ _ 0 (by decide)) rfl opd0 (fillC (Lens.arr _ _ 1 (by decide)) rfl opd1 (fillC (Lens.arr _ _ 2 (by decide)) rfl opd2 fillN))),
          ok_call (ok_f_hull_times N [v17, v6, v6] _ hv26) Try.func43 (by kernel_rfl) (by kernel_rfl) rfl ⟨opd0, trivial⟩,
          ok_call (ok_f_exact_AddRat N (({ ({ ({ ({ ({ ({ s2.1 with Volume := v9 } : GHydro) with X := v11 } : GHydro) with Z := v13 } : GHydro) with Area := v18 } : GHydro) with Float := v20 } : GHydro) with Cross := v25 } : GHydro).Long) v26 _ hv27) Try.func22 (by kernel_rfl) (by kernel_rfl) rfl ⟨opd0, ⟨opd1, trivial⟩⟩,
          ok_fieldOwn fo65_7 rfl,
          ok_store GHydro.l7 ty32 rfl rfl opd0 opd1 rfl, trivial⟩ (by kernel_rfl) ?_
      clear hAt; intro a w hAt
      replace hAt : At B h0 (mkG [(2, fV r_i64 x2), (4, fRef GAttitude.rep x1), (28, fV (Rep.slice GStation.rep) x0.Stations), (29, fV r_i64 (List.length x0.Stations : Int)), (30, fV r_i64 s2.2)]) (mkO [(6, boxE 65 GHydro.rep (⟨(⟨(⟨false, []⟩ : GInt), (⟨false, []⟩ : GInt)⟩ : GRat), (⟨(⟨false, []⟩ : GInt), (⟨false, []⟩ : GInt)⟩ : GRat), (⟨(⟨false, []⟩ : GInt), (⟨false, []⟩ : GInt)⟩ : GRat), (⟨(⟨false, []⟩ : GInt), (⟨false, []⟩ : GInt)⟩ : GRat), (⟨(⟨false, []⟩ : GInt), (⟨false, []⟩ : GInt)⟩ : GRat), (⟨(⟨false, []⟩ : GInt), (⟨false, []⟩ : GInt)⟩ : GRat), (⟨(⟨false, []⟩ : GInt), (⟨false, []⟩ : GInt)⟩ : GRat), (⟨(⟨false, []⟩ : GInt), (⟨false, []⟩ : GInt)⟩ : GRat), (⟨(⟨false, []⟩ : GInt), (⟨false, []⟩ : GInt)⟩ : GRat)⟩ : GHydro)), (9, boxE 65 GHydro.rep ({ ({ ({ ({ ({ ({ ({ s2.1 with Volume := v9 } : GHydro) with X := v11 } : GHydro) with Z := v13 } : GHydro) with Area := v18 } : GHydro) with Float := v20 } : GHydro) with Cross := v25 } : GHydro) with Long := v27 } : GHydro))]) F 176 a w := hAt
      refine blk_n ?_; refine then_n ?_
      refine reg [⟨fV r_i64 (IntKind.i64.wrap (s2.2 + 1)), [], [(30, none)], []⟩,
          ⟨fV r_i64 (IntKind.i64.wrap (s2.2 + 1)), [], [(119, some 0)], []⟩] [2, 4, 28, 29, 30] [6, 9] hAt
          ⟨ok_add rfl opd0 opdI,
          ok_move rfl opd0, trivial⟩ (by kernel_rfl) ?_
      clear hAt; intro a w hAt
      replace hAt : At B h0 (mkG [(2, fV r_i64 x2), (4, fRef GAttitude.rep x1), (28, fV (Rep.slice GStation.rep) x0.Stations), (29, fV r_i64 (List.length x0.Stations : Int)), (30, fV r_i64 (IntKind.i64.wrap (s2.2 + 1)))]) (mkO [(6, boxE 65 GHydro.rep (⟨(⟨(⟨false, []⟩ : GInt), (⟨false, []⟩ : GInt)⟩ : GRat), (⟨(⟨false, []⟩ : GInt), (⟨false, []⟩ : GInt)⟩ : GRat), (⟨(⟨false, []⟩ : GInt), (⟨false, []⟩ : GInt)⟩ : GRat), (⟨(⟨false, []⟩ : GInt), (⟨false, []⟩ : GInt)⟩ : GRat), (⟨(⟨false, []⟩ : GInt), (⟨false, []⟩ : GInt)⟩ : GRat), (⟨(⟨false, []⟩ : GInt), (⟨false, []⟩ : GInt)⟩ : GRat), (⟨(⟨false, []⟩ : GInt), (⟨false, []⟩ : GInt)⟩ : GRat), (⟨(⟨false, []⟩ : GInt), (⟨false, []⟩ : GInt)⟩ : GRat), (⟨(⟨false, []⟩ : GInt), (⟨false, []⟩ : GInt)⟩ : GRat)⟩ : GHydro)), (9, boxE 65 GHydro.rep ({ ({ ({ ({ ({ ({ ({ s2.1 with Volume := v9 } : GHydro) with X := v11 } : GHydro) with Z := v13 } : GHydro) with Area := v18 } : GHydro) with Float := v20 } : GHydro) with Cross := v25 } : GHydro) with Long := v27 } : GHydro))]) F 176 a w := hAt
      cases H
      exact ⟨rfl, hAt.pick [2, 4, 28, 29, 30] [6, 9]⟩
    · intro hb28; have H := iteF hb28 H; refine wp_exit ?_; refine then_x ?_
      cases H
      exact ⟨ex_ne, rfl, hAt.pick [2] [6, 9]⟩
  · exact hAt.pick [2, 4, 28, 29, 30] [6, 9]
  · clear hAt; intro e a w hp; obtain ⟨rfl, hAt⟩ := hp; refine blk_eq ?_; refine then_n ?_; refine wp_seq ?_; refine wp_seq ?_; obtain ⟨v31, hv31, H⟩ := bindE H
    refine reg [⟨fOff 9 0, [], [], [(9, none)]⟩,
        ⟨fV GRat.rep o29.Volume, [], [(120, some 0)], [(9, none)]⟩,
        ⟨fV Rep.bool v31, [], [(121, some 1)], []⟩] [2, 122] [6, 9] hAt
        ⟨ok_fieldOwn fo65_0 rfl,
        ok_loadOwn GHydro.l0 ty32 rfl opd0,
        ok_call (ok_f_hull_isZero N o29.Volume _ hv31) Try.func72 (by kernel_rfl) (by kernel_rfl) rfl ⟨opd0, trivial⟩, trivial⟩ (by kernel_rfl) ?_
    clear hAt; intro a w hAt
    replace hAt : At B h0 (mkG [(2, fV r_i64 x2), (122, fV Rep.bool v31)]) (mkO [(6, boxE 65 GHydro.rep (⟨(⟨(⟨false, []⟩ : GInt), (⟨false, []⟩ : GInt)⟩ : GRat), (⟨(⟨false, []⟩ : GInt), (⟨false, []⟩ : GInt)⟩ : GRat), (⟨(⟨false, []⟩ : GInt), (⟨false, []⟩ : GInt)⟩ : GRat), (⟨(⟨false, []⟩ : GInt), (⟨false, []⟩ : GInt)⟩ : GRat), (⟨(⟨false, []⟩ : GInt), (⟨false, []⟩ : GInt)⟩ : GRat), (⟨(⟨false, []⟩ : GInt), (⟨false, []⟩ : GInt)⟩ : GRat), (⟨(⟨false, []⟩ : GInt), (⟨false, []⟩ : GInt)⟩ : GRat), (⟨(⟨false, []⟩ : GInt), (⟨false, []⟩ : GInt)⟩ : GRat), (⟨(⟨false, []⟩ : GInt), (⟨false, []⟩ : GInt)⟩ : GRat)⟩ : GHydro)), (9, boxE 65 GHydro.rep o29)]) F 176 a w := hAt
    refine then_n ?_; refine wp_if hAt (by rfl) ?_ ?_
    · intro hb46; have H := iteT hb46 H; refine wp_seq ?_
      refine reg [⟨fV GHydro.rep (⟨(⟨(⟨false, []⟩ : GInt), (⟨false, []⟩ : GInt)⟩ : GRat), (⟨(⟨false, []⟩ : GInt), (⟨false, []⟩ : GInt)⟩ : GRat), (⟨(⟨false, []⟩ : GInt), (⟨false, []⟩ : GInt)⟩ : GRat), (⟨(⟨false, []⟩ : GInt), (⟨false, []⟩ : GInt)⟩ : GRat), (⟨(⟨false, []⟩ : GInt), (⟨false, []⟩ : GInt)⟩ : GRat), (⟨(⟨false, []⟩ : GInt), (⟨false, []⟩ : GInt)⟩ : GRat), (⟨(⟨false, []⟩ : GInt), (⟨false, []⟩ : GInt)⟩ : GRat), (⟨(⟨false, []⟩ : GInt), (⟨false, []⟩ : GInt)⟩ : GRat), (⟨(⟨false, []⟩ : GInt), (⟨false, []⟩ : GInt)⟩ : GRat)⟩ : GHydro), [], [], []⟩,
          ⟨Fact.triv, [(6, some (boxE 65 GHydro.rep (⟨(⟨(⟨false, []⟩ : GInt), (⟨false, []⟩ : GInt)⟩ : GRat), (⟨(⟨false, []⟩ : GInt), (⟨false, []⟩ : GInt)⟩ : GRat), (⟨(⟨false, []⟩ : GInt), (⟨false, []⟩ : GInt)⟩ : GRat), (⟨(⟨false, []⟩ : GInt), (⟨false, []⟩ : GInt)⟩ : GRat), (⟨(⟨false, []⟩ : GInt), (⟨false, []⟩ : GInt)⟩ : GRat), (⟨(⟨false, []⟩ : GInt), (⟨false, []⟩ : GInt)⟩ : GRat), (⟨(⟨false, []⟩ : GInt), (⟨false, []⟩ : GInt)⟩ : GRat), (⟨(⟨false, []⟩ : GInt), (⟨false, []⟩ : GInt)⟩ : GRat), (⟨(⟨false, []⟩ : GInt), (⟨false, []⟩ : GInt)⟩ : GRat)⟩ : GHydro)))], [(123, some 0)], [(6, none)]⟩,
          ⟨fV Rep.bool false, [], [], []⟩] [7] [6] hAt
          ⟨ok_build ty65 rfl pl65 rfl fillN,
          ok_storeBox ty65 rfl rfl opd0,
          ok_assign rfl opdB, trivial⟩ (by kernel_rfl) ?_
      clear hAt; intro a w hAt
      replace hAt : At B h0 (mkG [(7, fV Rep.bool false)]) (mkO [(6, boxE 65 GHydro.rep (⟨(⟨(⟨false, []⟩ : GInt), (⟨false, []⟩ : GInt)⟩ : GRat), (⟨(⟨false, []⟩ : GInt), (⟨false, []⟩ : GInt)⟩ : GRat), (⟨(⟨false, []⟩ : GInt), (⟨false, []⟩ : GInt)⟩ : GRat), (⟨(⟨false, []⟩ : GInt), (⟨false, []⟩ : GInt)⟩ : GRat), (⟨(⟨false, []⟩ : GInt), (⟨false, []⟩ : GInt)⟩ : GRat), (⟨(⟨false, []⟩ : GInt), (⟨false, []⟩ : GInt)⟩ : GRat), (⟨(⟨false, []⟩ : GInt), (⟨false, []⟩ : GInt)⟩ : GRat), (⟨(⟨false, []⟩ : GInt), (⟨false, []⟩ : GInt)⟩ : GRat), (⟨(⟨false, []⟩ : GInt), (⟨false, []⟩ : GInt)⟩ : GRat)⟩ : GHydro))]) F 176 a w := hAt
      refine then_n ?_; refine wp_ret ?_; refine then_r ?_
      cases H
      exact ret2 rfl (rv_cell ty65 rfl) (rv_tmp rfl rfl) hAt
    · intro hb46; have H := iteF hb46 H; refine wp_skip ?_; refine then_n ?_; refine wp_seq ?_; obtain ⟨v32, hv32, H⟩ := bindE H
      refine reg [⟨fOff 9 0, [], [], [(9, none)]⟩,
          ⟨fV GRat.rep o29.Volume, [], [(124, some 0)], [(9, none)]⟩,
          ⟨fV r_i64 x2, [], [(2, none)], []⟩,
          ⟨fV GRat.rep v32, [], [(125, some 1), (126, some 2)], []⟩,
          ⟨fOff 9 4, [], [], [(9, none)]⟩,
          ⟨Fact.triv, [(9, some (boxE 65 GHydro.rep ({ o29 with Displacement := v32 } : GHydro)))], [(128, some 4), (127, some 3)], [(9, none)]⟩] [] [6, 9] hAt
          ⟨ok_fieldOwn fo65_0 rfl,
          ok_loadOwn GHydro.l0 ty32 rfl opd0,
          ok_move rfl opd0,
          ok_call (ok_f_hull_mass N o29.Volume x2 _ hv32) Try.func80 (by kernel_rfl) (by kernel_rfl) rfl ⟨opd0, ⟨opd1, trivial⟩⟩,
          ok_fieldOwn fo65_1 rfl,
          ok_store GHydro.l1 ty32 rfl rfl opd0 opd1 rfl, trivial⟩ (by kernel_rfl) ?_
      clear hAt; intro a w hAt
      replace hAt : At B h0 (mkG []) (mkO [(6, boxE 65 GHydro.rep (⟨(⟨(⟨false, []⟩ : GInt), (⟨false, []⟩ : GInt)⟩ : GRat), (⟨(⟨false, []⟩ : GInt), (⟨false, []⟩ : GInt)⟩ : GRat), (⟨(⟨false, []⟩ : GInt), (⟨false, []⟩ : GInt)⟩ : GRat), (⟨(⟨false, []⟩ : GInt), (⟨false, []⟩ : GInt)⟩ : GRat), (⟨(⟨false, []⟩ : GInt), (⟨false, []⟩ : GInt)⟩ : GRat), (⟨(⟨false, []⟩ : GInt), (⟨false, []⟩ : GInt)⟩ : GRat), (⟨(⟨false, []⟩ : GInt), (⟨false, []⟩ : GInt)⟩ : GRat), (⟨(⟨false, []⟩ : GInt), (⟨false, []⟩ : GInt)⟩ : GRat), (⟨(⟨false, []⟩ : GInt), (⟨false, []⟩ : GInt)⟩ : GRat)⟩ : GHydro)), (9, boxE 65 GHydro.rep ({ o29 with Displacement := v32 } : GHydro))]) F 176 a w := hAt
      refine then_n ?_; refine wp_seq ?_; obtain ⟨v33, hv33, H⟩ := bindE H; obtain ⟨v34, hv34, H⟩ := bindE H
      refine regd [⟨fOff 9 8, [], [], [(9, none)]⟩,
          ⟨fV GRat.rep (({ o29 with Displacement := v32 } : GHydro).X), [], [(129, some 0)], [(9, none)]⟩,
          ⟨fOff 9 0, [], [], [(9, none)]⟩,
          ⟨fV GRat.rep (({ o29 with Displacement := v32 } : GHydro).Volume), [], [(131, some 2)], [(9, none)]⟩,
          ⟨fV GRat.rep v33, [], [(130, some 1), (132, some 3)], []⟩,
          ⟨fOff 9 12, [], [], [(9, none)]⟩,
          ⟨fV GRat.rep (({ o29 with Displacement := v32 } : GHydro).Z), [], [(134, some 5)], [(9, none)]⟩,
          ⟨fOff 9 0, [], [], [(9, none)]⟩,
          ⟨fV GRat.rep (({ o29 with Displacement := v32 } : GHydro).Volume), [], [(136, some 7)], [(9, none)]⟩,
          ⟨fV GRat.rep v34, [], [(135, some 6), (137, some 8)], []⟩,
          ⟨fOff 9 8, [], [], [(9, none)]⟩,
          ⟨Fact.triv, [(9, some (boxE 65 GHydro.rep ({ ({ o29 with Displacement := v32 } : GHydro) with X := v33 } : GHydro)))], [(139, some 10), (133, some 4)], [(9, none)]⟩,
          ⟨fOff 9 12, [], [], [(9, some 11)]⟩,
          ⟨Fact.triv, [(9, some (boxE 65 GHydro.rep ({ ({ ({ o29 with Displacement := v32 } : GHydro) with X := v33 } : GHydro) with Z := v34 } : GHydro)))], [(140, some 12), (138, some 9)], [(9, some 11)]⟩] [0, 1, 2, 3, 4, 5, 6, 7, 8, 9, 10, 11, 12, 13] [0, 1, 2, 3, 4, 5, 6, 7, 8, 9, 10, 11, 12, 13] [] [6, 9] hAt
          ⟨ok_fieldOwn fo65_2 rfl,
          ok_loadOwn GHydro.l2 ty32 rfl opd0,
          ok_fieldOwn fo65_0 rfl,
          ok_loadOwn GHydro.l0 ty32 rfl opd0,
          ok_call (ok_f_hull_over N (({ o29 with Displacement := v32 } : GHydro).X) (({ o29 with Displacement := v32 } : GHydro).Volume) _ hv33) Try.func44 (by kernel_rfl) (by kernel_rfl) rfl ⟨opd0, ⟨opd1, trivial⟩⟩,
          ok_fieldOwn fo65_3 rfl,
          ok_loadOwn GHydro.l3 ty32 rfl opd0,
          ok_fieldOwn fo65_0 rfl,
          ok_loadOwn GHydro.l0 ty32 rfl opd0,
          ok_call (ok_f_hull_over N (({ o29 with Displacement := v32 } : GHydro).Z) (({ o29 with Displacement := v32 } : GHydro).Volume) _ hv34) Try.func44 (by kernel_rfl) (by kernel_rfl) rfl ⟨opd0, ⟨opd1, trivial⟩⟩,
          ok_fieldOwn fo65_2 rfl,
          ok_store GHydro.l2 ty32 rfl rfl opd0 opd1 rfl,
          ok_fieldOwn fo65_3 rfl,
          ok_store GHydro.l3 ty32 rfl rfl opd0 opd1 rfl, trivial⟩ (by kernel_rfl) ?_
      clear hAt; intro a w hAt
      replace hAt : At B h0 (mkG []) (mkO [(6, boxE 65 GHydro.rep (⟨(⟨(⟨false, []⟩ : GInt), (⟨false, []⟩ : GInt)⟩ : GRat), (⟨(⟨false, []⟩ : GInt), (⟨false, []⟩ : GInt)⟩ : GRat), (⟨(⟨false, []⟩ : GInt), (⟨false, []⟩ : GInt)⟩ : GRat), (⟨(⟨false, []⟩ : GInt), (⟨false, []⟩ : GInt)⟩ : GRat), (⟨(⟨false, []⟩ : GInt), (⟨false, []⟩ : GInt)⟩ : GRat), (⟨(⟨false, []⟩ : GInt), (⟨false, []⟩ : GInt)⟩ : GRat), (⟨(⟨false, []⟩ : GInt), (⟨false, []⟩ : GInt)⟩ : GRat), (⟨(⟨false, []⟩ : GInt), (⟨false, []⟩ : GInt)⟩ : GRat), (⟨(⟨false, []⟩ : GInt), (⟨false, []⟩ : GInt)⟩ : GRat)⟩ : GHydro)), (9, boxE 65 GHydro.rep ({ ({ ({ o29 with Displacement := v32 } : GHydro) with X := v33 } : GHydro) with Z := v34 } : GHydro))]) F 176 a w := hAt
      refine then_n ?_; refine wp_seq ?_; obtain ⟨o42, hl43, H⟩ := bindE H
      refine wp_mono (Q := (fun o e a w => (fun v => e = .normal ∧ At B h0 (mkG []) (mkO [(6, boxE 65 GHydro.rep (⟨(⟨(⟨false, []⟩ : GInt), (⟨false, []⟩ : GInt)⟩ : GRat), (⟨(⟨false, []⟩ : GInt), (⟨false, []⟩ : GInt)⟩ : GRat), (⟨(⟨false, []⟩ : GInt), (⟨false, []⟩ : GInt)⟩ : GRat), (⟨(⟨false, []⟩ : GInt), (⟨false, []⟩ : GInt)⟩ : GRat), (⟨(⟨false, []⟩ : GInt), (⟨false, []⟩ : GInt)⟩ : GRat), (⟨(⟨false, []⟩ : GInt), (⟨false, []⟩ : GInt)⟩ : GRat), (⟨(⟨false, []⟩ : GInt), (⟨false, []⟩ : GInt)⟩ : GRat), (⟨(⟨false, []⟩ : GInt), (⟨false, []⟩ : GInt)⟩ : GRat), (⟨(⟨false, []⟩ : GInt), (⟨false, []⟩ : GInt)⟩ : GRat)⟩ : GHydro)), (9, boxE 65 GHydro.rep v)]) F 176 a w) o) o42) ?_ ?_
      · clear H; have H := hl43; clear hl43; refine wp_seq ?_; obtain ⟨v35, hv35, H⟩ := bindE H
        refine reg [⟨fOff 9 16, [], [], [(9, none)]⟩,
            ⟨fV GRat.rep (({ ({ ({ o29 with Displacement := v32 } : GHydro) with X := v33 } : GHydro) with Z := v34 } : GHydro).Area), [], [(141, some 0)], [(9, none)]⟩,
            ⟨fV Rep.bool v35, [], [(142, some 1)], []⟩] [143] [6, 9] hAt
            ⟨ok_fieldOwn fo65_4 rfl,
            ok_loadOwn GHydro.l4 ty32 rfl opd0,
            ok_call (ok_f_hull_isZero N (({ ({ ({ o29 with Displacement := v32 } : GHydro) with X := v33 } : GHydro) with Z := v34 } : GHydro).Area) _ hv35) Try.func72 (by kernel_rfl) (by kernel_rfl) rfl ⟨opd0, trivial⟩, trivial⟩ (by kernel_rfl) ?_
        clear hAt; intro a w hAt
        replace hAt : At B h0 (mkG [(143, fV Rep.bool v35)]) (mkO [(6, boxE 65 GHydro.rep (⟨(⟨(⟨false, []⟩ : GInt), (⟨false, []⟩ : GInt)⟩ : GRat), (⟨(⟨false, []⟩ : GInt), (⟨false, []⟩ : GInt)⟩ : GRat), (⟨(⟨false, []⟩ : GInt), (⟨false, []⟩ : GInt)⟩ : GRat), (⟨(⟨false, []⟩ : GInt), (⟨false, []⟩ : GInt)⟩ : GRat), (⟨(⟨false, []⟩ : GInt), (⟨false, []⟩ : GInt)⟩ : GRat), (⟨(⟨false, []⟩ : GInt), (⟨false, []⟩ : GInt)⟩ : GRat), (⟨(⟨false, []⟩ : GInt), (⟨false, []⟩ : GInt)⟩ : GRat), (⟨(⟨false, []⟩ : GInt), (⟨false, []⟩ : GInt)⟩ : GRat), (⟨(⟨false, []⟩ : GInt), (⟨false, []⟩ : GInt)⟩ : GRat)⟩ : GHydro)), (9, boxE 65 GHydro.rep ({ ({ ({ o29 with Displacement := v32 } : GHydro) with X := v33 } : GHydro) with Z := v34 } : GHydro))]) F 176 a w := hAt
        refine then_n ?_; refine wp_if hAt (by rfl) ?_ ?_
        · intro hb41; have H := iteT hb41 H; obtain ⟨v36, hv36, H⟩ := bindE H; obtain ⟨v37, hv37, H⟩ := bindE H
          refine reg [⟨fV GRat.rep v36, [], [], []⟩,
              ⟨fV GRat.rep v37, [], [], []⟩,
              ⟨fOff 9 20, [], [], [(9, none)]⟩,
              ⟨Fact.triv, [(9, some (boxE 65 GHydro.rep ({ ({ ({ ({ o29 with Displacement := v32 } : GHydro) with X := v33 } : GHydro) with Z := v34 } : GHydro) with Float := v36 } : GHydro)))], [(146, some 2), (144, some 0)], [(9, none)]⟩,
              ⟨fOff 9 28, [], [], [(9, some 3)]⟩,
              ⟨Fact.triv, [(9, some (boxE 65 GHydro.rep ({ ({ ({ ({ ({ o29 with Displacement := v32 } : GHydro) with X := v33 } : GHydro) with Z := v34 } : GHydro) with Float := v36 } : GHydro) with Long := v37 } : GHydro)))], [(147, some 4), (145, some 1)], [(9, some 3)]⟩] [] [6, 9] hAt
              ⟨ok_call (ok_f_hull_whole N 0 _ hv36) Try.func42 (by kernel_rfl) (by kernel_rfl) rfl ⟨opdI, trivial⟩,
              ok_call (ok_f_hull_whole N 0 _ hv37) Try.func42 (by kernel_rfl) (by kernel_rfl) rfl ⟨opdI, trivial⟩,
              ok_fieldOwn fo65_5 rfl,
              ok_store GHydro.l5 ty32 rfl rfl opd0 opd1 rfl,
              ok_fieldOwn fo65_7 rfl,
              ok_store GHydro.l7 ty32 rfl rfl opd0 opd1 rfl, trivial⟩ (by kernel_rfl) ?_
          clear hAt; intro a w hAt
          replace hAt : At B h0 (mkG []) (mkO [(6, boxE 65 GHydro.rep (⟨(⟨(⟨false, []⟩ : GInt), (⟨false, []⟩ : GInt)⟩ : GRat), (⟨(⟨false, []⟩ : GInt), (⟨false, []⟩ : GInt)⟩ : GRat), (⟨(⟨false, []⟩ : GInt), (⟨false, []⟩ : GInt)⟩ : GRat), (⟨(⟨false, []⟩ : GInt), (⟨false, []⟩ : GInt)⟩ : GRat), (⟨(⟨false, []⟩ : GInt), (⟨false, []⟩ : GInt)⟩ : GRat), (⟨(⟨false, []⟩ : GInt), (⟨false, []⟩ : GInt)⟩ : GRat), (⟨(⟨false, []⟩ : GInt), (⟨false, []⟩ : GInt)⟩ : GRat), (⟨(⟨false, []⟩ : GInt), (⟨false, []⟩ : GInt)⟩ : GRat), (⟨(⟨false, []⟩ : GInt), (⟨false, []⟩ : GInt)⟩ : GRat)⟩ : GHydro)), (9, boxE 65 GHydro.rep ({ ({ ({ ({ ({ o29 with Displacement := v32 } : GHydro) with X := v33 } : GHydro) with Z := v34 } : GHydro) with Float := v36 } : GHydro) with Long := v37 } : GHydro))]) F 176 a w := hAt
          cases H
          exact ⟨rfl, hAt.pick [] [6, 9]⟩
        · intro hb41; have H := iteF hb41 H; refine wp_seq ?_; obtain ⟨v38, hv38, H⟩ := bindE H
          refine reg [⟨fOff 9 20, [], [], [(9, none)]⟩,
              ⟨fV GRat.rep (({ ({ ({ o29 with Displacement := v32 } : GHydro) with X := v33 } : GHydro) with Z := v34 } : GHydro).Float), [], [(148, some 0)], [(9, none)]⟩,
              ⟨fOff 9 16, [], [], [(9, none)]⟩,
              ⟨fV GRat.rep (({ ({ ({ o29 with Displacement := v32 } : GHydro) with X := v33 } : GHydro) with Z := v34 } : GHydro).Area), [], [(150, some 2)], [(9, none)]⟩,
              ⟨fV GRat.rep v38, [], [(149, some 1), (151, some 3)], []⟩,
              ⟨fOff 9 20, [], [], [(9, none)]⟩,
              ⟨Fact.triv, [(9, some (boxE 65 GHydro.rep ({ ({ ({ ({ o29 with Displacement := v32 } : GHydro) with X := v33 } : GHydro) with Z := v34 } : GHydro) with Float := v38 } : GHydro)))], [(153, some 5), (152, some 4)], [(9, none)]⟩] [] [6, 9] hAt
              ⟨ok_fieldOwn fo65_5 rfl,
              ok_loadOwn GHydro.l5 ty32 rfl opd0,
              ok_fieldOwn fo65_4 rfl,
              ok_loadOwn GHydro.l4 ty32 rfl opd0,
              ok_call (ok_f_hull_over N (({ ({ ({ o29 with Displacement := v32 } : GHydro) with X := v33 } : GHydro) with Z := v34 } : GHydro).Float) (({ ({ ({ o29 with Displacement := v32 } : GHydro) with X := v33 } : GHydro) with Z := v34 } : GHydro).Area) _ hv38) Try.func44 (by kernel_rfl) (by kernel_rfl) rfl ⟨opd0, ⟨opd1, trivial⟩⟩,
              ok_fieldOwn fo65_5 rfl,
              ok_store GHydro.l5 ty32 rfl rfl opd0 opd1 rfl, trivial⟩ (by kernel_rfl) ?_
          clear hAt; intro a w hAt
          replace hAt : At B h0 (mkG []) (mkO [(6, boxE 65 GHydro.rep (⟨(⟨(⟨false, []⟩ : GInt), (⟨false, []⟩ : GInt)⟩ : GRat), (⟨(⟨false, []⟩ : GInt), (⟨false, []⟩ : GInt)⟩ : GRat), (⟨(⟨false, []⟩ : GInt), (⟨false, []⟩ : GInt)⟩ : GRat), (⟨(⟨false, []⟩ : GInt), (⟨false, []⟩ : GInt)⟩ : GRat), (⟨(⟨false, []⟩ : GInt), (⟨false, []⟩ : GInt)⟩ : GRat), (⟨(⟨false, []⟩ : GInt), (⟨false, []⟩ : GInt)⟩ : GRat), (⟨(⟨false, []⟩ : GInt), (⟨false, []⟩ : GInt)⟩ : GRat), (⟨(⟨false, []⟩ : GInt), (⟨false, []⟩ : GInt)⟩ : GRat), (⟨(⟨false, []⟩ : GInt), (⟨false, []⟩ : GInt)⟩ : GRat)⟩ : GHydro)), (9, boxE 65 GHydro.rep ({ ({ ({ ({ o29 with Displacement := v32 } : GHydro) with X := v33 } : GHydro) with Z := v34 } : GHydro) with Float := v38 } : GHydro))]) F 176 a w := hAt
          refine then_n ?_; obtain ⟨v39, hv39, H⟩ := bindE H; obtain ⟨v40, hv40, H⟩ := bindE H
          refine regd [⟨fOff 9 28, [], [], [(9, none)]⟩,
              ⟨fV GRat.rep (({ ({ ({ ({ o29 with Displacement := v32 } : GHydro) with X := v33 } : GHydro) with Z := v34 } : GHydro) with Float := v38 } : GHydro).Long), [], [(154, some 0)], [(9, none)]⟩,
              ⟨fOff 9 16, [], [], [(9, none)]⟩,
              ⟨fV GRat.rep (({ ({ ({ ({ o29 with Displacement := v32 } : GHydro) with X := v33 } : GHydro) with Z := v34 } : GHydro) with Float := v38 } : GHydro).Area), [], [(156, some 2)], [(9, none)]⟩,
              ⟨fOff 9 20, [], [], [(9, none)]⟩,
              ⟨fV GRat.rep (({ ({ ({ ({ o29 with Displacement := v32 } : GHydro) with X := v33 } : GHydro) with Z := v34 } : GHydro) with Float := v38 } : GHydro).Float), [], [(158, some 4)], [(9, none)]⟩,
              ⟨fOff 9 20, [], [], [(9, none)]⟩,
              ⟨fV GRat.rep (({ ({ ({ ({ o29 with Displacement := v32 } : GHydro) with X := v33 } : GHydro) with Z := v34 } : GHydro) with Float := v38 } : GHydro).Float), [], [(160, some 6)], [(9, none)]⟩,
              ⟨fV (Rep.slice GRat.rep) [({ ({ ({ ({ o29 with Displacement := v32 } : GHydro) with X := v33 } : GHydro) with Z := v34 } : GHydro) with Float := v38 } : GHydro).Area, ({ ({ ({ ({ o29 with Displacement := v32 } : GHydro) with X := v33 } : GHydro) with Z := v34 } : GHydro) with Float := v38 } : GHydro).Float, ({ ({ ({ ({ o29 with Displacement := v32 } : GHydro) with X := v33 } : GHydro) with Z := v34 } : GHydro) with Float := v38 } : GHydro).Float], [], [(157, some 3), (159, some 5), (161, some 7)], []⟩,
              ⟨fV GRat.rep v39, [], [(162, some 8)], []⟩,
              ⟨fV GRat.rep v40, [], [(155, some 1), (163, some 9)], []⟩,
              ⟨fOff 9 28, [], [], [(9, none)]⟩,
              ⟨Fact.triv, [(9, some (boxE 65 GHydro.rep ({ ({ ({ ({ ({ o29 with Displacement := v32 } : GHydro) with X := v33 } : GHydro) with Z := v34 } : GHydro) with Float := v38 } : GHydro) with Long := v40 } : GHydro)))], [(165, some 11), (164, some 10)], [(9, none)]⟩] [0, 1, 2, 3, 4, 5, 6, 7, 8, 9, 10, 11, 12] [0, 1, 2, 3, 4, 5, 6, 7, 8, 9, 10, 11, 12] [] [6, 9] hAt
              ⟨ok_fieldOwn fo65_7 rfl,
              ok_loadOwn GHydro.l7 ty32 rfl opd0,
              ok_fieldOwn fo65_4 rfl,
              ok_loadOwn GHydro.l4 ty32 rfl opd0,
              ok_fieldOwn fo65_5 rfl,
              ok_loadOwn GHydro.l5 ty32 rfl opd0,
              ok_fieldOwn fo65_5 rfl,
              ok_loadOwn GHydro.l5 ty32 rfl opd0,
              ok_buildSlice ty32 un126 rfl rfl (fillC (Lens.arr _ _ 0 (by decide)) rfl opd0 (fillC (Lens.arr _ _ 1 (by decide)) rfl opd1 (fillC (Lens.arr _ _ 2 (by decide)) rfl opd2 fillN))),
              ok_call (ok_f_hull_times N [({ ({ ({ ({ o29 with Displacement := v32 } : GHydro) with X := v33 } : GHydro) with Z := v34 } : GHydro) with Float := v38 } : GHydro).Area, ({ ({ ({ ({ o29 with Displacement := v32 } : GHydro) with X := v33 } : GHydro) with Z := v34 } : GHydro) with Float := v38 } : GHydro).Float, ({ ({ ({ ({ o29 with Displacement := v32 } : GHydro) with X := v33 } : GHydro) with Z := v34 } : GHydro) with Float := v38 } : GHydro).Float] _ hv39) Try.func43 (by kernel_rfl) (by kernel_rfl) rfl ⟨opd0, trivial⟩,
              ok_call (ok_f_exact_SubRat N (({ ({ ({ ({ o29 with Displacement := v32 } : GHydro) with X := v33 } : GHydro) with Z := v34 } : GHydro) with Float := v38 } : GHydro).Long) v39 _ hv40) Try.func27 (by kernel_rfl) (by kernel_rfl) rfl ⟨opd0, ⟨opd1, trivial⟩⟩,
              ok_fieldOwn fo65_7 rfl,
              ok_store GHydro.l7 ty32 rfl rfl opd0 opd1 rfl, trivial⟩ (by kernel_rfl) ?_
          clear hAt; intro a w hAt
          replace hAt : At B h0 (mkG []) (mkO [(6, boxE 65 GHydro.rep (⟨(⟨(⟨false, []⟩ : GInt), (⟨false, []⟩ : GInt)⟩ : GRat), (⟨(⟨false, []⟩ : GInt), (⟨false, []⟩ : GInt)⟩ : GRat), (⟨(⟨false, []⟩ : GInt), (⟨false, []⟩ : GInt)⟩ : GRat), (⟨(⟨false, []⟩ : GInt), (⟨false, []⟩ : GInt)⟩ : GRat), (⟨(⟨false, []⟩ : GInt), (⟨false, []⟩ : GInt)⟩ : GRat), (⟨(⟨false, []⟩ : GInt), (⟨false, []⟩ : GInt)⟩ : GRat), (⟨(⟨false, []⟩ : GInt), (⟨false, []⟩ : GInt)⟩ : GRat), (⟨(⟨false, []⟩ : GInt), (⟨false, []⟩ : GInt)⟩ : GRat), (⟨(⟨false, []⟩ : GInt), (⟨false, []⟩ : GInt)⟩ : GRat)⟩ : GHydro)), (9, boxE 65 GHydro.rep ({ ({ ({ ({ ({ o29 with Displacement := v32 } : GHydro) with X := v33 } : GHydro) with Z := v34 } : GHydro) with Float := v38 } : GHydro) with Long := v40 } : GHydro))]) F 176 a w := hAt
          cases H
          exact ⟨rfl, hAt.pick [] [6, 9]⟩
      · clear hAt; intro e a w hp; obtain ⟨rfl, hAt⟩ := hp; refine then_n ?_; refine wp_seq ?_; obtain ⟨v44, hv44, H⟩ := bindE H; obtain ⟨v45, hv45, H⟩ := bindE H
        refine regd [⟨fOff 9 12, [], [], [(9, none)]⟩,
            ⟨fV GRat.rep o42.Z, [], [(166, some 0)], [(9, none)]⟩,
            ⟨fOff 9 24, [], [], [(9, none)]⟩,
            ⟨fV GRat.rep o42.Cross, [], [(168, some 2)], [(9, none)]⟩,
            ⟨fOff 9 0, [], [], [(9, none)]⟩,
            ⟨fV GRat.rep o42.Volume, [], [(170, some 4)], [(9, none)]⟩,
            ⟨fV GRat.rep v44, [], [(169, some 3), (171, some 5)], []⟩,
            ⟨fV GRat.rep v45, [], [(167, some 1), (172, some 6)], []⟩,
            ⟨fOff 9 32, [], [], [(9, none)]⟩,
            ⟨Fact.triv, [(9, some (boxE 65 GHydro.rep ({ o42 with Meta := v45 } : GHydro)))], [(174, some 8), (173, some 7)], [(9, none)]⟩] [0, 1, 2, 3, 4, 5, 6, 7, 8, 9] [0, 1, 2, 3, 4, 5, 6, 7, 8, 9] [] [6, 9] hAt
            ⟨ok_fieldOwn fo65_3 rfl,
            ok_loadOwn GHydro.l3 ty32 rfl opd0,
            ok_fieldOwn fo65_6 rfl,
            ok_loadOwn GHydro.l6 ty32 rfl opd0,
            ok_fieldOwn fo65_0 rfl,
            ok_loadOwn GHydro.l0 ty32 rfl opd0,
            ok_call (ok_f_hull_over N o42.Cross o42.Volume _ hv44) Try.func44 (by kernel_rfl) (by kernel_rfl) rfl ⟨opd0, ⟨opd1, trivial⟩⟩,
            ok_call (ok_f_exact_AddRat N o42.Z v44 _ hv45) Try.func22 (by kernel_rfl) (by kernel_rfl) rfl ⟨opd0, ⟨opd1, trivial⟩⟩,
            ok_fieldOwn fo65_8 rfl,
            ok_store GHydro.l8 ty32 rfl rfl opd0 opd1 rfl, trivial⟩ (by kernel_rfl) ?_
        clear hAt; intro a w hAt
        replace hAt : At B h0 (mkG []) (mkO [(6, boxE 65 GHydro.rep (⟨(⟨(⟨false, []⟩ : GInt), (⟨false, []⟩ : GInt)⟩ : GRat), (⟨(⟨false, []⟩ : GInt), (⟨false, []⟩ : GInt)⟩ : GRat), (⟨(⟨false, []⟩ : GInt), (⟨false, []⟩ : GInt)⟩ : GRat), (⟨(⟨false, []⟩ : GInt), (⟨false, []⟩ : GInt)⟩ : GRat), (⟨(⟨false, []⟩ : GInt), (⟨false, []⟩ : GInt)⟩ : GRat), (⟨(⟨false, []⟩ : GInt), (⟨false, []⟩ : GInt)⟩ : GRat), (⟨(⟨false, []⟩ : GInt), (⟨false, []⟩ : GInt)⟩ : GRat), (⟨(⟨false, []⟩ : GInt), (⟨false, []⟩ : GInt)⟩ : GRat), (⟨(⟨false, []⟩ : GInt), (⟨false, []⟩ : GInt)⟩ : GRat)⟩ : GHydro)), (9, boxE 65 GHydro.rep ({ o42 with Meta := v45 } : GHydro))]) F 176 a w := hAt
        refine then_n ?_; refine wp_seq ?_
        refine reg [⟨fV GHydro.rep ({ o42 with Meta := v45 } : GHydro), [], [], [(9, none)]⟩,
            ⟨Fact.triv, [(6, some (boxE 65 GHydro.rep ({ o42 with Meta := v45 } : GHydro)))], [(175, some 0)], [(6, none)]⟩,
            ⟨fV Rep.bool true, [], [], []⟩] [7] [6] hAt
            ⟨ok_loadBox ty65 rfl,
            ok_storeBox ty65 rfl rfl opd0,
            ok_assign rfl opdB, trivial⟩ (by kernel_rfl) ?_
        clear hAt; intro a w hAt; replace hAt : At B h0 (mkG [(7, fV Rep.bool true)]) (mkO [(6, boxE 65 GHydro.rep ({ o42 with Meta := v45 } : GHydro))]) F 176 a w := hAt; refine then_n ?_; refine wp_ret ?_
        cases H
        exact ret2 rfl (rv_cell ty65 rfl) (rv_tmp rfl rfl) hAt
theorem ok_f_hull_Hydrostatics (N : Nat) (x0 : GShip) (x1 : GAttitude) (x2 : Int) (r : GHydro × Int) (H : f_hull_Hydrostatics N x0 x1 x2 = some r) : FnOk Try.prog 23 [fV GShip.rep x0, fV GAttitude.rep x1, fV r_i64 x2] (fT2 (fV GHydro.rep (r.1)) (fV r_i64 (r.2))) := by
  unfold f_hull_Hydrostatics at H; refine fn_enter Try.func23 rfl rfl (by kernel_rfl) ?_; intro κ B h0 F a w hAt; refine wp_seq ?_
  refine reg [⟨fRef GShip.rep x0, [], [(0, none)], []⟩,
      ⟨fRef GAttitude.rep x1, [], [(1, none)], []⟩,
      ⟨Fact.triv, [(6, some (boxE 65 GHydro.rep (⟨(⟨(⟨false, []⟩ : GInt), (⟨false, []⟩ : GInt)⟩ : GRat), (⟨(⟨false, []⟩ : GInt), (⟨false, []⟩ : GInt)⟩ : GRat), (⟨(⟨false, []⟩ : GInt), (⟨false, []⟩ : GInt)⟩ : GRat), (⟨(⟨false, []⟩ : GInt), (⟨false, []⟩ : GInt)⟩ : GRat), (⟨(⟨false, []⟩ : GInt), (⟨false, []⟩ : GInt)⟩ : GRat), (⟨(⟨false, []⟩ : GInt), (⟨false, []⟩ : GInt)⟩ : GRat), (⟨(⟨false, []⟩ : GInt), (⟨false, []⟩ : GInt)⟩ : GRat), (⟨(⟨false, []⟩ : GInt), (⟨false, []⟩ : GInt)⟩ : GRat), (⟨(⟨false, []⟩ : GInt), (⟨false, []⟩ : GInt)⟩ : GRat)⟩ : GHydro)))], [], []⟩,
      ⟨fV r_i64 0, [], [], []⟩] [2, 3, 4] [6] hAt
      ⟨ok_box rfl opd0,
      ok_box rfl opd0,
      ok_alloc ty65 rfl rfl,
      ok_assign rfl opdI, trivial⟩ (by kernel_rfl) ?_
  clear hAt; intro a w hAt
  replace hAt : At B h0 (mkG [(2, fV r_i64 x2), (3, fRef GShip.rep x0), (4, fRef GAttitude.rep x1)]) (mkO [(6, boxE 65 GHydro.rep (⟨(⟨(⟨false, []⟩ : GInt), (⟨false, []⟩ : GInt)⟩ : GRat), (⟨(⟨false, []⟩ : GInt), (⟨false, []⟩ : GInt)⟩ : GRat), (⟨(⟨false, []⟩ : GInt), (⟨false, []⟩ : GInt)⟩ : GRat), (⟨(⟨false, []⟩ : GInt), (⟨false, []⟩ : GInt)⟩ : GRat), (⟨(⟨false, []⟩ : GInt), (⟨false, []⟩ : GInt)⟩ : GRat), (⟨(⟨false, []⟩ : GInt), (⟨false, []⟩ : GInt)⟩ : GRat), (⟨(⟨false, []⟩ : GInt), (⟨false, []⟩ : GInt)⟩ : GRat), (⟨(⟨false, []⟩ : GInt), (⟨false, []⟩ : GInt)⟩ : GRat), (⟨(⟨false, []⟩ : GInt), (⟨false, []⟩ : GInt)⟩ : GRat)⟩ : GHydro))]) F 29 a w := hAt
  refine then_n ?_; refine wp_seq ?_; refine wp_seq ?_; obtain ⟨v1, hv1, H⟩ := bindE H
  refine reg [⟨fV GShip.rep x0, [], [(3, none)], []⟩,
      ⟨fV r_i64 x2, [], [(2, none)], []⟩,
      ⟨fV r_i64 v1, [], [(11, some 0), (12, some 1)], []⟩,
      ⟨fV r_i64 v1, [], [(13, some 2)], []⟩] [2, 3, 4, 8] [6] hAt
      ⟨ok_load ty27 rfl opd0,
      ok_move rfl opd0,
      ok_call (ok_f_hull_floated N x0 x2 _ hv1) Try.func39 (by kernel_rfl) (by kernel_rfl) rfl ⟨opd0, ⟨opd1, trivial⟩⟩,
      ok_assign rfl opd0, trivial⟩ (by kernel_rfl) ?_
  clear hAt; intro a w hAt
  replace hAt : At B h0 (mkG [(2, fV r_i64 x2), (3, fRef GShip.rep x0), (4, fRef GAttitude.rep x1), (8, fV r_i64 v1)]) (mkO [(6, boxE 65 GHydro.rep (⟨(⟨(⟨false, []⟩ : GInt), (⟨false, []⟩ : GInt)⟩ : GRat), (⟨(⟨false, []⟩ : GInt), (⟨false, []⟩ : GInt)⟩ : GRat), (⟨(⟨false, []⟩ : GInt), (⟨false, []⟩ : GInt)⟩ : GRat), (⟨(⟨false, []⟩ : GInt), (⟨false, []⟩ : GInt)⟩ : GRat), (⟨(⟨false, []⟩ : GInt), (⟨false, []⟩ : GInt)⟩ : GRat), (⟨(⟨false, []⟩ : GInt), (⟨false, []⟩ : GInt)⟩ : GRat), (⟨(⟨false, []⟩ : GInt), (⟨false, []⟩ : GInt)⟩ : GRat), (⟨(⟨false, []⟩ : GInt), (⟨false, []⟩ : GInt)⟩ : GRat), (⟨(⟨false, []⟩ : GInt), (⟨false, []⟩ : GInt)⟩ : GRat)⟩ : GHydro))]) F 29 a w := hAt
  refine then_n ?_; refine wp_seq ?_
  refine reg [⟨fV r_i64 v1, [], [(8, none)], []⟩,
      ⟨fV Rep.bool (cmpI .neq v1 0), [], [(14, some 0)], []⟩] [2, 3, 4, 8, 15] [6] hAt
      ⟨ok_move rfl opd0,
      ok_cmp (op := .neq) (by simp) rfl rfl opd0 opdI, trivial⟩ (by kernel_rfl) ?_
  clear hAt; intro a w hAt
  replace hAt : At B h0 (mkG [(2, fV r_i64 x2), (3, fRef GShip.rep x0), (4, fRef GAttitude.rep x1), (8, fV r_i64 v1), (15, fV Rep.bool (cmpI .neq v1 0))]) (mkO [(6, boxE 65 GHydro.rep (⟨(⟨(⟨false, []⟩ : GInt), (⟨false, []⟩ : GInt)⟩ : GRat), (⟨(⟨false, []⟩ : GInt), (⟨false, []⟩ : GInt)⟩ : GRat), (⟨(⟨false, []⟩ : GInt), (⟨false, []⟩ : GInt)⟩ : GRat), (⟨(⟨false, []⟩ : GInt), (⟨false, []⟩ : GInt)⟩ : GRat), (⟨(⟨false, []⟩ : GInt), (⟨false, []⟩ : GInt)⟩ : GRat), (⟨(⟨false, []⟩ : GInt), (⟨false, []⟩ : GInt)⟩ : GRat), (⟨(⟨false, []⟩ : GInt), (⟨false, []⟩ : GInt)⟩ : GRat), (⟨(⟨false, []⟩ : GInt), (⟨false, []⟩ : GInt)⟩ : GRat), (⟨(⟨false, []⟩ : GInt), (⟨false, []⟩ : GInt)⟩ : GRat)⟩ : GHydro))]) F 29 a w := hAt
  refine then_n ?_; refine wp_if hAt (by rfl) ?_ ?_
  · intro hb4; have H := iteT hb4 H; refine wp_seq ?_
    refine reg [⟨fV GHydro.rep (⟨(⟨(⟨false, []⟩ : GInt), (⟨false, []⟩ : GInt)⟩ : GRat), (⟨(⟨false, []⟩ : GInt), (⟨false, []⟩ : GInt)⟩ : GRat), (⟨(⟨false, []⟩ : GInt), (⟨false, []⟩ : GInt)⟩ : GRat), (⟨(⟨false, []⟩ : GInt), (⟨false, []⟩ : GInt)⟩ : GRat), (⟨(⟨false, []⟩ : GInt), (⟨false, []⟩ : GInt)⟩ : GRat), (⟨(⟨false, []⟩ : GInt), (⟨false, []⟩ : GInt)⟩ : GRat), (⟨(⟨false, []⟩ : GInt), (⟨false, []⟩ : GInt)⟩ : GRat), (⟨(⟨false, []⟩ : GInt), (⟨false, []⟩ : GInt)⟩ : GRat), (⟨(⟨false, []⟩ : GInt), (⟨false, []⟩ : GInt)⟩ : GRat)⟩ : GHydro), [], [], []⟩,
        ⟨fV r_i64 v1, [], [(8, none)], []⟩,
        ⟨Fact.triv, [(6, some (boxE 65 GHydro.rep (⟨(⟨(⟨false, []⟩ : GInt), (⟨false, []⟩ : GInt)⟩ : GRat), (⟨(⟨false, []⟩ : GInt), (⟨false, []⟩ : GInt)⟩ : GRat), (⟨(⟨false, []⟩ : GInt), (⟨false, []⟩ : GInt)⟩ : GRat), (⟨(⟨false, []⟩ : GInt), (⟨false, []⟩ : GInt)⟩ : GRat), (⟨(⟨false, []⟩ : GInt), (⟨false, []⟩ : GInt)⟩ : GRat), (⟨(⟨false, []⟩ : GInt), (⟨false, []⟩ : GInt)⟩ : GRat), (⟨(⟨false, []⟩ : GInt), (⟨false, []⟩ : GInt)⟩ : GRat), (⟨(⟨false, []⟩ : GInt), (⟨false, []⟩ : GInt)⟩ : GRat), (⟨(⟨false, []⟩ : GInt), (⟨false, []⟩ : GInt)⟩ : GRat)⟩ : GHydro)))], [(16, some 0)], [(6, none)]⟩,
        ⟨fV r_i64 v1, [], [(17, some 1)], []⟩] [7] [6] hAt
        ⟨ok_build ty65 rfl pl65 rfl fillN,
        ok_move rfl opd0,
        ok_storeBox ty65 rfl rfl opd0,
        ok_assign rfl opd0, trivial⟩ (by kernel_rfl) ?_
    clear hAt; intro a w hAt
    replace hAt : At B h0 (mkG [(7, fV r_i64 v1)]) (mkO [(6, boxE 65 GHydro.rep (⟨(⟨(⟨false, []⟩ : GInt), (⟨false, []⟩ : GInt)⟩ : GRat), (⟨(⟨false, []⟩ : GInt), (⟨false, []⟩ : GInt)⟩ : GRat), (⟨(⟨false, []⟩ : GInt), (⟨false, []⟩ : GInt)⟩ : GRat), (⟨(⟨false, []⟩ : GInt), (⟨false, []⟩ : GInt)⟩ : GRat), (⟨(⟨false, []⟩ : GInt), (⟨false, []⟩ : GInt)⟩ : GRat), (⟨(⟨false, []⟩ : GInt), (⟨false, []⟩ : GInt)⟩ : GRat), (⟨(⟨false, []⟩ : GInt), (⟨false, []⟩ : GInt)⟩ : GRat), (⟨(⟨false, []⟩ : GInt), (⟨false, []⟩ : GInt)⟩ : GRat), (⟨(⟨false, []⟩ : GInt), (⟨false, []⟩ : GInt)⟩ : GRat)⟩ : GHydro))]) F 29 a w := hAt
    refine then_n ?_; refine wp_ret ?_; refine then_r ?_
    cases H
    exact ret2 rfl (rv_cell ty65 rfl) (rv_tmp rfl rfl) hAt
  · intro hb4; have H := iteF hb4 H; refine wp_skip ?_; refine then_n ?_; refine wp_seq ?_; obtain ⟨v2, hv2, H⟩ := bindE H
    refine reg [⟨fV GShip.rep x0, [], [(3, none)], []⟩,
        ⟨fV GAttitude.rep x1, [], [(4, none)], []⟩,
        ⟨fV r_i64 x2, [], [(2, none)], []⟩,
        ⟨fT2 (fV GHydro.rep v2.1) (fV Rep.bool v2.2), [], [(19, some 0), (20, some 1), (21, some 2)], []⟩,
        ⟨fT2 (fV GHydro.rep v2.1) (fV Rep.bool v2.2), [], [(22, some 3)], []⟩,
        ⟨fV GHydro.rep v2.1, [], [(18, some 4)], []⟩,
        ⟨fV Rep.bool v2.2, [], [(18, some 4)], []⟩,
        ⟨Fact.triv, [(9, some (boxE 65 GHydro.rep (⟨(⟨(⟨false, []⟩ : GInt), (⟨false, []⟩ : GInt)⟩ : GRat), (⟨(⟨false, []⟩ : GInt), (⟨false, []⟩ : GInt)⟩ : GRat), (⟨(⟨false, []⟩ : GInt), (⟨false, []⟩ : GInt)⟩ : GRat), (⟨(⟨false, []⟩ : GInt), (⟨false, []⟩ : GInt)⟩ : GRat), (⟨(⟨false, []⟩ : GInt), (⟨false, []⟩ : GInt)⟩ : GRat), (⟨(⟨false, []⟩ : GInt), (⟨false, []⟩ : GInt)⟩ : GRat), (⟨(⟨false, []⟩ : GInt), (⟨false, []⟩ : GInt)⟩ : GRat), (⟨(⟨false, []⟩ : GInt), (⟨false, []⟩ : GInt)⟩ : GRat), (⟨(⟨false, []⟩ : GInt), (⟨false, []⟩ : GInt)⟩ : GRat)⟩ : GHydro)))], [], []⟩,
        ⟨Fact.triv, [(9, some (boxE 65 GHydro.rep v2.1))], [(23, some 5)], [(9, some 7)]⟩,
        ⟨fV Rep.bool v2.2, [], [(24, some 6)], []⟩] [10] [6, 9] hAt
        ⟨ok_load ty27 rfl opd0,
        ok_load ty34 rfl opd0,
        ok_move rfl opd0,
        ok_call (ok_f_hull_hydrostatics N x0 x1 x2 _ hv2) Try.func40 (by kernel_rfl) (by kernel_rfl) rfl ⟨opd0, ⟨opd1, ⟨opd2, trivial⟩⟩⟩,
        ok_move rfl opd0,
        ok_ext20 rfl rfl opd0,
        ok_ext21 rfl rfl opd0,
        ok_alloc ty65 rfl rfl,
        ok_storeBox ty65 rfl rfl opd0,
        ok_assign rfl opd0, trivial⟩ (by kernel_rfl) ?_
    clear hAt; intro a w hAt
    replace hAt : At B h0 (mkG [(10, fV Rep.bool v2.2)]) (mkO [(6, boxE 65 GHydro.rep (⟨(⟨(⟨false, []⟩ : GInt), (⟨false, []⟩ : GInt)⟩ : GRat), (⟨(⟨false, []⟩ : GInt), (⟨false, []⟩ : GInt)⟩ : GRat), (⟨(⟨false, []⟩ : GInt), (⟨false, []⟩ : GInt)⟩ : GRat), (⟨(⟨false, []⟩ : GInt), (⟨false, []⟩ : GInt)⟩ : GRat), (⟨(⟨false, []⟩ : GInt), (⟨false, []⟩ : GInt)⟩ : GRat), (⟨(⟨false, []⟩ : GInt), (⟨false, []⟩ : GInt)⟩ : GRat), (⟨(⟨false, []⟩ : GInt), (⟨false, []⟩ : GInt)⟩ : GRat), (⟨(⟨false, []⟩ : GInt), (⟨false, []⟩ : GInt)⟩ : GRat), (⟨(⟨false, []⟩ : GInt), (⟨false, []⟩ : GInt)⟩ : GRat)⟩ : GHydro)), (9, boxE 65 GHydro.rep v2.1)]) F 29 a w := hAt
    refine then_n ?_; refine wp_seq ?_; refine wp_seq ?_
    refine reg [⟨fV Rep.bool v2.2, [], [(10, none)], []⟩,
        ⟨fV Rep.bool (!v2.2), [], [(25, some 0)], []⟩] [26] [6, 9] hAt
        ⟨ok_move rfl opd0,
        ok_not rfl opd0, trivial⟩ (by kernel_rfl) ?_
    clear hAt; intro a w hAt
    replace hAt : At B h0 (mkG [(26, fV Rep.bool (!v2.2))]) (mkO [(6, boxE 65 GHydro.rep (⟨(⟨(⟨false, []⟩ : GInt), (⟨false, []⟩ : GInt)⟩ : GRat), (⟨(⟨false, []⟩ : GInt), (⟨false, []⟩ : GInt)⟩ : GRat), (⟨(⟨false, []⟩ : GInt), (⟨false, []⟩ : GInt)⟩ : GRat), (⟨(⟨false, []⟩ : GInt), (⟨false, []⟩ : GInt)⟩ : GRat), (⟨(⟨false, []⟩ : GInt), (⟨false, []⟩ : GInt)⟩ : GRat), (⟨(⟨false, []⟩ : GInt), (⟨false, []⟩ : GInt)⟩ : GRat), (⟨(⟨false, []⟩ : GInt), (⟨false, []⟩ : GInt)⟩ : GRat), (⟨(⟨false, []⟩ : GInt), (⟨false, []⟩ : GInt)⟩ : GRat), (⟨(⟨false, []⟩ : GInt), (⟨false, []⟩ : GInt)⟩ : GRat)⟩ : GHydro)), (9, boxE 65 GHydro.rep v2.1)]) F 29 a w := hAt
    refine then_n ?_; refine wp_if hAt (by rfl) ?_ ?_
    · intro hb3; have H := iteT hb3 H; refine wp_seq ?_
      refine reg [⟨fV GHydro.rep (⟨(⟨(⟨false, []⟩ : GInt), (⟨false, []⟩ : GInt)⟩ : GRat), (⟨(⟨false, []⟩ : GInt), (⟨false, []⟩ : GInt)⟩ : GRat), (⟨(⟨false, []⟩ : GInt), (⟨false, []⟩ : GInt)⟩ : GRat), (⟨(⟨false, []⟩ : GInt), (⟨false, []⟩ : GInt)⟩ : GRat), (⟨(⟨false, []⟩ : GInt), (⟨false, []⟩ : GInt)⟩ : GRat), (⟨(⟨false, []⟩ : GInt), (⟨false, []⟩ : GInt)⟩ : GRat), (⟨(⟨false, []⟩ : GInt), (⟨false, []⟩ : GInt)⟩ : GRat), (⟨(⟨false, []⟩ : GInt), (⟨false, []⟩ : GInt)⟩ : GRat), (⟨(⟨false, []⟩ : GInt), (⟨false, []⟩ : GInt)⟩ : GRat)⟩ : GHydro), [], [], []⟩,
          ⟨Fact.triv, [(6, some (boxE 65 GHydro.rep (⟨(⟨(⟨false, []⟩ : GInt), (⟨false, []⟩ : GInt)⟩ : GRat), (⟨(⟨false, []⟩ : GInt), (⟨false, []⟩ : GInt)⟩ : GRat), (⟨(⟨false, []⟩ : GInt), (⟨false, []⟩ : GInt)⟩ : GRat), (⟨(⟨false, []⟩ : GInt), (⟨false, []⟩ : GInt)⟩ : GRat), (⟨(⟨false, []⟩ : GInt), (⟨false, []⟩ : GInt)⟩ : GRat), (⟨(⟨false, []⟩ : GInt), (⟨false, []⟩ : GInt)⟩ : GRat), (⟨(⟨false, []⟩ : GInt), (⟨false, []⟩ : GInt)⟩ : GRat), (⟨(⟨false, []⟩ : GInt), (⟨false, []⟩ : GInt)⟩ : GRat), (⟨(⟨false, []⟩ : GInt), (⟨false, []⟩ : GInt)⟩ : GRat)⟩ : GHydro)))], [(27, some 0)], [(6, none)]⟩,
          ⟨fV r_i64 29, [], [], []⟩] [7] [6] hAt
          ⟨ok_build ty65 rfl pl65 rfl fillN,
          ok_storeBox ty65 rfl rfl opd0,
          ok_assign rfl opdI, trivial⟩ (by kernel_rfl) ?_
      clear hAt; intro a w hAt
      replace hAt : At B h0 (mkG [(7, fV r_i64 29)]) (mkO [(6, boxE 65 GHydro.rep (⟨(⟨(⟨false, []⟩ : GInt), (⟨false, []⟩ : GInt)⟩ : GRat), (⟨(⟨false, []⟩ : GInt), (⟨false, []⟩ : GInt)⟩ : GRat), (⟨(⟨false, []⟩ : GInt), (⟨false, []⟩ : GInt)⟩ : GRat), (⟨(⟨false, []⟩ : GInt), (⟨false, []⟩ : GInt)⟩ : GRat), (⟨(⟨false, []⟩ : GInt), (⟨false, []⟩ : GInt)⟩ : GRat), (⟨(⟨false, []⟩ : GInt), (⟨false, []⟩ : GInt)⟩ : GRat), (⟨(⟨false, []⟩ : GInt), (⟨false, []⟩ : GInt)⟩ : GRat), (⟨(⟨false, []⟩ : GInt), (⟨false, []⟩ : GInt)⟩ : GRat), (⟨(⟨false, []⟩ : GInt), (⟨false, []⟩ : GInt)⟩ : GRat)⟩ : GHydro))]) F 29 a w := hAt
      refine then_n ?_; refine wp_ret ?_; refine then_r ?_
      cases H
      exact ret2 rfl (rv_cell ty65 rfl) (rv_tmp rfl rfl) hAt
    · intro hb3; have H := iteF hb3 H; refine wp_skip ?_; refine then_n ?_; refine wp_seq ?_
      refine reg [⟨fV GHydro.rep v2.1, [], [], [(9, none)]⟩,
          ⟨Fact.triv, [(6, some (boxE 65 GHydro.rep v2.1))], [(28, some 0)], [(6, none)]⟩,
          ⟨fV r_i64 0, [], [], []⟩] [7] [6] hAt
          ⟨ok_loadBox ty65 rfl,
          ok_storeBox ty65 rfl rfl opd0,
          ok_assign rfl opdI, trivial⟩ (by kernel_rfl) ?_
      clear hAt; intro a w hAt; replace hAt : At B h0 (mkG [(7, fV r_i64 0)]) (mkO [(6, boxE 65 GHydro.rep v2.1)]) F 29 a w := hAt; refine then_n ?_; refine wp_ret ?_
      cases H
      exact ret2 rfl (rv_cell ty65 rfl) (rv_tmp rfl rfl) hAt
theorem ok_f_hull_Draught_1 (N : Nat) (x0 : Int) (c0 : GShip) (c1 : Int) (r : GRat) (H : f_hull_Draught_1 N x0 c0 c1 = some r) : FnOk Try.prog 93 [fV r_i64 x0, fRef GShip.rep c0, fRef r_i64 c1] (fV GRat.rep r) := by
  unfold f_hull_Draught_1 at H; refine fn_enter Try.func93 rfl rfl (by kernel_rfl) ?_; intro κ B h0 F a w hAt; refine wp_seq ?_
  refine reg [⟨Fact.triv, [(4, some (boxE 32 GRat.rep (⟨(⟨false, []⟩ : GInt), (⟨false, []⟩ : GInt)⟩ : GRat)))], [], []⟩] [0, 1, 2] [4] hAt
      ⟨ok_alloc ty32 rfl rfl, trivial⟩ (by kernel_rfl) ?_
  clear hAt; intro a w hAt; replace hAt : At B h0 (mkG [(0, fV r_i64 x0), (1, fRef GShip.rep c0), (2, fRef r_i64 c1)]) (mkO [(4, boxE 32 GRat.rep (⟨(⟨false, []⟩ : GInt), (⟨false, []⟩ : GInt)⟩ : GRat))]) F 32 a w := hAt; refine then_n ?_; refine wp_seq ?_; obtain ⟨v1, hv1, H⟩ := bindE H
  refine reg [⟨fV GRat.rep v1, [], [], []⟩,
      ⟨Fact.triv, [(5, some (boxE 32 GRat.rep (⟨(⟨false, []⟩ : GInt), (⟨false, []⟩ : GInt)⟩ : GRat)))], [], []⟩,
      ⟨Fact.triv, [(5, some (boxE 32 GRat.rep v1))], [(8, some 0)], [(5, some 1)]⟩] [0, 1, 2] [4, 5] hAt
      ⟨ok_call (ok_f_hull_whole N 0 _ hv1) Try.func42 (by kernel_rfl) (by kernel_rfl) rfl ⟨opdI, trivial⟩,
      ok_alloc ty32 rfl rfl,
      ok_storeBox ty32 rfl rfl opd0, trivial⟩ (by kernel_rfl) ?_
  clear hAt; intro a w hAt; replace hAt : At B h0 (mkG [(0, fV r_i64 x0), (1, fRef GShip.rep c0), (2, fRef r_i64 c1)]) (mkO [(4, boxE 32 GRat.rep (⟨(⟨false, []⟩ : GInt), (⟨false, []⟩ : GInt)⟩ : GRat)), (5, boxE 32 GRat.rep v1)]) F 32 a w := hAt; refine then_n ?_; refine wp_seq ?_; refine wp_seq ?_
  refine reg [⟨fRef (Rep.slice GStation.rep) c0.Stations, [], [(1, none)], []⟩,
      ⟨fV (Rep.slice GStation.rep) c0.Stations, [], [(9, some 0)], []⟩,
      ⟨fV r_i64 (List.length c0.Stations : Int), [], [(10, some 1)], []⟩,
      ⟨fV r_i64 0, [], [], []⟩] [0, 2, 10, 11, 12] [4, 5] hAt
      ⟨ok_field GShip.l2 fo27_2 rfl opd0,
      ok_load ty22 rfl opd0,
      ok_len un22 rfl opd0,
      ok_move rfl opdI, trivial⟩ (by kernel_rfl) ?_
  clear hAt; intro a w hAt; replace hAt : At B h0 (mkG [(0, fV r_i64 x0), (2, fRef r_i64 c1), (10, fV (Rep.slice GStation.rep) c0.Stations), (11, fV r_i64 (List.length c0.Stations : Int)), (12, fV r_i64 0)]) (mkO [(4, boxE 32 GRat.rep (⟨(⟨false, []⟩ : GInt), (⟨false, []⟩ : GInt)⟩ : GRat)), (5, boxE 32 GRat.rep v1)]) F 32 a w := hAt; refine then_n ?_; refine wp_block ?_
  obtain ⟨o10, hl11, H⟩ := bindE H
  refine wp_mono (wp_loopN (f := f_hull_Draught_1_L1 N x0 c0) (fun (s2 : (GRat × Int)) a w => At B h0 (mkG [(0, fV r_i64 x0), (2, fRef r_i64 c1), (10, fV (Rep.slice GStation.rep) c0.Stations), (11, fV r_i64 (List.length c0.Stations : Int)), (12, fV r_i64 s2.2)]) (mkO [(4, boxE 32 GRat.rep (⟨(⟨false, []⟩ : GInt), (⟨false, []⟩ : GInt)⟩ : GRat)), (5, boxE 32 GRat.rep s2.1)]) F 32 a w) (fun o e a w => (fun v => e = .exit 0 ∧ At B h0 (mkG [(2, fRef r_i64 c1)]) (mkO [(4, boxE 32 GRat.rep (⟨(⟨false, []⟩ : GInt), (⟨false, []⟩ : GInt)⟩ : GRat)), (5, boxE 32 GRat.rep v)]) F 32 a w) o) ?_ N (v1, 0) o10 _ _ hl11 ?_) ?_
  · clear H hAt hl11; intro s2 r13 a w H hAt; unfold f_hull_Draught_1_L1 at H; refine wp_seq ?_
    refine reg [⟨fV Rep.bool (cmpI .lss s2.2 (List.length c0.Stations : Int)), [], [(12, none), (11, none)], []⟩] [0, 2, 10, 11, 12, 13] [4, 5] hAt
        ⟨ok_cmp (op := .lss) (by simp) rfl rfl opd0 opd1, trivial⟩ (by kernel_rfl) ?_
    clear hAt; intro a w hAt
    replace hAt : At B h0 (mkG [(0, fV r_i64 x0), (2, fRef r_i64 c1), (10, fV (Rep.slice GStation.rep) c0.Stations), (11, fV r_i64 (List.length c0.Stations : Int)), (12, fV r_i64 s2.2), (13, fV Rep.bool (cmpI .lss s2.2 (List.length c0.Stations : Int)))]) (mkO [(4, boxE 32 GRat.rep (⟨(⟨false, []⟩ : GInt), (⟨false, []⟩ : GInt)⟩ : GRat)), (5, boxE 32 GRat.rep s2.1)]) F 32 a w := hAt; refine then_n ?_
    refine wp_seq ?_; refine wp_if hAt (by rfl) ?_ ?_
    · intro hb9; have H := iteT hb9 H; refine wp_skip ?_; refine then_n ?_; refine wp_seq ?_; refine wp_block ?_; refine wp_seq ?_; obtain ⟨v3, hv3, H⟩ := bindE H
      refine reg [⟨fRef GStation.rep v3, [], [(10, none), (12, none)], []⟩,
          ⟨fV GStation.rep v3, [], [(14, some 0)], []⟩,
          ⟨Fact.triv, [(7, some (boxE 71 GStation.rep (⟨0, 0, [], []⟩ : GStation)))], [], []⟩,
          ⟨Fact.triv, [(7, some (boxE 71 GStation.rep v3))], [(15, some 1)], [(7, some 2)]⟩] [0, 2, 10, 11, 12] [4, 5, 7] hAt
          ⟨ok_index ty71 un22 hv3 rfl opd0 opd1,
          ok_load ty71 rfl opd0,
          ok_alloc ty71 rfl rfl,
          ok_storeBox ty71 rfl rfl opd0, trivial⟩ (by kernel_rfl) ?_
      clear hAt; intro a w hAt; replace hAt : At B h0 (mkG [(0, fV r_i64 x0), (2, fRef r_i64 c1), (10, fV (Rep.slice GStation.rep) c0.Stations), (11, fV r_i64 (List.length c0.Stations : Int)), (12, fV r_i64 s2.2)]) (mkO [(4, boxE 32 GRat.rep (⟨(⟨false, []⟩ : GInt), (⟨false, []⟩ : GInt)⟩ : GRat)), (5, boxE 32 GRat.rep s2.1), (7, boxE 71 GStation.rep v3)]) F 32 a w := hAt; refine then_n ?_
      obtain ⟨v4, hv4, H⟩ := bindE H; obtain ⟨v5, hv5, H⟩ := bindE H; obtain ⟨v6, hv6, H⟩ := bindE H; obtain ⟨v7, hv7, H⟩ := bindE H; obtain ⟨v8, hv8, H⟩ := bindE H
      refine regd [⟨fV GRat.rep s2.1, [], [], [(5, none)]⟩,
          ⟨fOff 7 1, [], [], [(7, none)]⟩,
          ⟨fV r_i64 v3.Width, [], [(17, some 1)], [(7, none)]⟩,
          ⟨fV GRat.rep v4, [], [(18, some 2)], []⟩,
          ⟨fV GStation.rep v3, [], [], [(7, none)]⟩,
          ⟨fV r_i64 x0, [], [(0, none)], []⟩,
          ⟨fV GRat.rep v5, [], [(21, some 5)], []⟩,
          ⟨fV Ghull_section.rep v6, [], [(20, some 4), (22, some 6)], []⟩,
          ⟨fV GRat.rep v6.area, [], [(23, some 7)], []⟩,
          ⟨fV (Rep.slice GRat.rep) [v4, v6.area], [], [(19, some 3), (24, some 8)], []⟩,
          ⟨fV GRat.rep v7, [], [(25, some 9)], []⟩,
          ⟨fV GRat.rep v8, [], [(16, some 0), (26, some 10)], []⟩,
          ⟨Fact.triv, [(5, some (boxE 32 GRat.rep v8))], [(27, some 11)], [(5, none)]⟩] [0, 1, 2, 3, 4, 5, 6, 7, 8, 9, 10, 11, 12] [0, 1, 2, 3, 4, 5, 6, 7, 8, 9, 10, 11, 12] [0, 2, 10, 11, 12] [4, 5] hAt
          ⟨ok_loadBox ty32 rfl,
          ok_fieldOwn fo71_1 rfl,
          ok_loadOwn GStation.l1 ty3 rfl opd0,
          ok_call (ok_f_hull_whole N v3.Width _ hv4) Try.func42 (by kernel_rfl) (by kernel_rfl) rfl ⟨opd0, trivial⟩,
          ok_loadBox ty71 rfl,
          ok_move rfl opd0,
          ok_call (ok_f_hull_whole N x0 _ hv5) Try.func42 (by kernel_rfl) (by kernel_rfl) rfl ⟨opd0, trivial⟩,
          ok_call (ok_f_hull_immersed N v3 v5 _ hv6) Try.func78 (by kernel_rfl) (by kernel_rfl) rfl ⟨opd0, ⟨opd1, trivial⟩⟩,
          ok_fieldV Ghull_section.l0 rfl fv120_0 ty32 rfl opd0,
          ok_buildSlice ty32 un126 rfl rfl (fillC (Lens.arr _ _ 0 (by decide)) rfl opd0 (fillC (Lens.arr _ _ 1 (by decide)) rfl opd1 fillN)),
          ok_call (ok_f_hull_times N [v4, v6.area] _ hv7) Try.func43 (by kernel_rfl) (by kernel_rfl) rfl ⟨opd0, trivial⟩,
          ok_call (ok_f_exact_AddRat N s2.1 v7 _ hv8) Try.func22 (by kernel_rfl) (by kernel_rfl) rfl ⟨opd0, ⟨opd1, trivial⟩⟩,
          ok_storeBox ty32 rfl rfl opd0, trivial⟩ (by kernel_rfl) ?_
      clear hAt; intro a w hAt; replace hAt : At B h0 (mkG [(0, fV r_i64 x0), (2, fRef r_i64 c1), (10, fV (Rep.slice GStation.rep) c0.Stations), (11, fV r_i64 (List.length c0.Stations : Int)), (12, fV r_i64 s2.2)]) (mkO [(4, boxE 32 GRat.rep (⟨(⟨false, []⟩ : GInt), (⟨false, []⟩ : GInt)⟩ : GRat)), (5, boxE 32 GRat.rep v8)]) F 32 a w := hAt; refine blk_n ?_; refine then_n ?_
      refine reg [⟨fV r_i64 (IntKind.i64.wrap (s2.2 + 1)), [], [(12, none)], []⟩,
          ⟨fV r_i64 (IntKind.i64.wrap (s2.2 + 1)), [], [(28, some 0)], []⟩] [0, 2, 10, 11, 12] [4, 5] hAt
          ⟨ok_add rfl opd0 opdI,
          ok_move rfl opd0, trivial⟩ (by kernel_rfl) ?_
      clear hAt; intro a w hAt; replace hAt : At B h0 (mkG [(0, fV r_i64 x0), (2, fRef r_i64 c1), (10, fV (Rep.slice GStation.rep) c0.Stations), (11, fV r_i64 (List.length c0.Stations : Int)), (12, fV r_i64 (IntKind.i64.wrap (s2.2 + 1)))]) (mkO [(4, boxE 32 GRat.rep (⟨(⟨false, []⟩ : GInt), (⟨false, []⟩ : GInt)⟩ : GRat)), (5, boxE 32 GRat.rep v8)]) F 32 a w := hAt
      cases H
      exact ⟨rfl, hAt.pick [0, 2, 10, 11, 12] [4, 5]⟩
    · intro hb9; have H := iteF hb9 H; refine wp_exit ?_; refine then_x ?_
      cases H
      exact ⟨ex_ne, rfl, hAt.pick [2] [4, 5]⟩
  · exact hAt.pick [0, 2, 10, 11, 12] [4, 5]
  · clear hAt; intro e a w hp; obtain ⟨rfl, hAt⟩ := hp; refine blk_eq ?_; refine then_n ?_; refine wp_seq ?_; obtain ⟨v12, hv12, H⟩ := bindE H
    refine reg [⟨fV GRat.rep o10, [], [], [(5, none)]⟩,
        ⟨fV r_i64 c1, [], [(2, none)], []⟩,
        ⟨fV GRat.rep v12, [], [(29, some 0), (30, some 1)], []⟩,
        ⟨Fact.triv, [(4, some (boxE 32 GRat.rep v12))], [(31, some 2)], [(4, none)]⟩] [] [4] hAt
        ⟨ok_loadBox ty32 rfl,
        ok_load ty3 rfl opd0,
        ok_call (ok_f_hull_mass N o10 c1 _ hv12) Try.func80 (by kernel_rfl) (by kernel_rfl) rfl ⟨opd0, ⟨opd1, trivial⟩⟩,
        ok_storeBox ty32 rfl rfl opd0, trivial⟩ (by kernel_rfl) ?_
    clear hAt; intro a w hAt; replace hAt : At B h0 (mkG []) (mkO [(4, boxE 32 GRat.rep v12)]) F 32 a w := hAt; refine then_n ?_; refine wp_ret ?_
    cases H
    exact ret1 rfl (rv_cell ty32 rfl) hAt
theorem ok_f_bits_Len64 (N : Nat) (x0 : Int) (r : Int) (H : f_bits_Len64 N x0 = some r) : FnOk Try.prog 136 [fV r_u64 x0] (fV r_i64 r) := by
  unfold f_bits_Len64 at H; refine fn_enter Try.func136 rfl rfl (by kernel_rfl) ?_; intro κ B h0 F a w hAt; refine wp_seq ?_
  refine reg [⟨fV r_i64 0, [], [], []⟩] [0, 2] [] hAt
      ⟨ok_assign rfl opdI, trivial⟩ (by kernel_rfl) ?_
  clear hAt; intro a w hAt; replace hAt : At B h0 (mkG [(0, fV r_u64 x0), (2, fV r_i64 0)]) (mkO []) F 25 a w := hAt; refine then_n ?_; refine wp_seq ?_; obtain ⟨o3, hl4, H⟩ := bindE H; refine wp_mono (Q := (fun o e a w => (fun v => e = .normal ∧ At B h0 (mkG [(0, fV r_u64 v.1), (2, fV r_i64 v.2)]) (mkO []) F 25 a w) o) o3) ?_ ?_
  · clear H; have H := hl4; clear hl4; refine wp_seq ?_
    refine reg [⟨fV r_u64 x0, [], [(0, none)], []⟩,
        ⟨fV Rep.bool (cmpI .geq x0 4294967296), [], [(3, some 0)], []⟩] [0, 2, 4] [] hAt
        ⟨ok_move rfl opd0,
        ok_cmp (op := .geq) (by simp) rfl rfl opd0 opdI, trivial⟩ (by kernel_rfl) ?_
    clear hAt; intro a w hAt; replace hAt : At B h0 (mkG [(0, fV r_u64 x0), (2, fV r_i64 0), (4, fV Rep.bool (cmpI .geq x0 4294967296))]) (mkO []) F 25 a w := hAt; refine then_n ?_; refine wp_if hAt (by rfl) ?_ ?_
    · intro hb2; have H := iteT hb2 H; refine wp_seq ?_; obtain ⟨v1, hv1, H⟩ := bindE H
      refine reg [⟨fV r_u64 x0, [], [(0, none)], []⟩,
          ⟨fV r_u64 v1, [], [(5, some 0)], []⟩,
          ⟨fV r_u64 v1, [], [(6, some 1)], []⟩] [0] [] hAt
          ⟨ok_move rfl opd0,
          ok_shr hv1 rfl opd0 opdI,
          ok_assign rfl opd0, trivial⟩ (by kernel_rfl) ?_
      clear hAt; intro a w hAt; replace hAt : At B h0 (mkG [(0, fV r_u64 v1)]) (mkO []) F 25 a w := hAt; refine then_n ?_
      refine reg [⟨fV r_i64 32, [], [], []⟩] [0, 2] [] hAt
          ⟨ok_assign rfl opdI, trivial⟩ (by kernel_rfl) ?_
      clear hAt; intro a w hAt; replace hAt : At B h0 (mkG [(0, fV r_u64 v1), (2, fV r_i64 32)]) (mkO []) F 25 a w := hAt
      cases H
      exact ⟨rfl, hAt.pick [0, 2] []⟩
    · intro hb2; have H := iteF hb2 H; refine wp_skip ?_
      cases H
      exact ⟨rfl, hAt.pick [0, 2] []⟩
  · clear hAt; intro e a w hp; obtain ⟨rfl, hAt⟩ := hp; refine then_n ?_; refine wp_seq ?_; obtain ⟨o7, hl8, H⟩ := bindE H; refine wp_mono (Q := (fun o e a w => (fun v => e = .normal ∧ At B h0 (mkG [(0, fV r_u64 v.1), (2, fV r_i64 v.2)]) (mkO []) F 25 a w) o) o7) ?_ ?_
    · clear H; have H := hl8; clear hl8; refine wp_seq ?_
      refine reg [⟨fV r_u64 o3.1, [], [(0, none)], []⟩,
          ⟨fV Rep.bool (cmpI .geq o3.1 65536), [], [(7, some 0)], []⟩] [0, 2, 8] [] hAt
          ⟨ok_move rfl opd0,
          ok_cmp (op := .geq) (by simp) rfl rfl opd0 opdI, trivial⟩ (by kernel_rfl) ?_
      clear hAt; intro a w hAt; replace hAt : At B h0 (mkG [(0, fV r_u64 o3.1), (2, fV r_i64 o3.2), (8, fV Rep.bool (cmpI .geq o3.1 65536))]) (mkO []) F 25 a w := hAt; refine then_n ?_; refine wp_if hAt (by rfl) ?_ ?_
      · intro hb6; have H := iteT hb6 H; refine wp_seq ?_; obtain ⟨v5, hv5, H⟩ := bindE H
        refine reg [⟨fV r_u64 o3.1, [], [(0, none)], []⟩,
            ⟨fV r_u64 v5, [], [(9, some 0)], []⟩,
            ⟨fV r_u64 v5, [], [(10, some 1)], []⟩] [0, 2] [] hAt
            ⟨ok_move rfl opd0,
            ok_shr hv5 rfl opd0 opdI,
            ok_assign rfl opd0, trivial⟩ (by kernel_rfl) ?_
        clear hAt; intro a w hAt; replace hAt : At B h0 (mkG [(0, fV r_u64 v5), (2, fV r_i64 o3.2)]) (mkO []) F 25 a w := hAt; refine then_n ?_
        refine reg [⟨fV r_i64 o3.2, [], [(2, none)], []⟩,
            ⟨fV r_i64 (IntKind.i64.wrap (o3.2 + 16)), [], [(11, some 0)], []⟩,
            ⟨fV r_i64 (IntKind.i64.wrap (o3.2 + 16)), [], [(12, some 1)], []⟩] [0, 2] [] hAt
            ⟨ok_move rfl opd0,
            ok_add rfl opd0 opdI,
            ok_assign rfl opd0, trivial⟩ (by kernel_rfl) ?_
        clear hAt; intro a w hAt; replace hAt : At B h0 (mkG [(0, fV r_u64 v5), (2, fV r_i64 (IntKind.i64.wrap (o3.2 + 16)))]) (mkO []) F 25 a w := hAt
        cases H
        exact ⟨rfl, hAt.pick [0, 2] []⟩
      · intro hb6; have H := iteF hb6 H; refine wp_skip ?_
        cases H
        exact ⟨rfl, hAt.pick [0, 2] []⟩
    · clear hAt; intro e a w hp; obtain ⟨rfl, hAt⟩ := hp; refine then_n ?_; refine wp_seq ?_; refine wp_seq ?_
      refine reg [⟨fV r_u64 o7.1, [], [(0, none)], []⟩,
          ⟨fV Rep.bool (cmpI .geq o7.1 256), [], [(13, some 0)], []⟩] [0, 2, 14] [] hAt
          ⟨ok_move rfl opd0,
          ok_cmp (op := .geq) (by simp) rfl rfl opd0 opdI, trivial⟩ (by kernel_rfl) ?_
      clear hAt; intro a w hAt; replace hAt : At B h0 (mkG [(0, fV r_u64 o7.1), (2, fV r_i64 o7.2), (14, fV Rep.bool (cmpI .geq o7.1 256))]) (mkO []) F 25 a w := hAt; refine then_n ?_; refine wp_if hAt (by rfl) ?_ ?_
      · intro hb12; have H := iteT hb12 H; refine wp_seq ?_; obtain ⟨v9, hv9, H⟩ := bindE H
        refine reg [⟨fV r_u64 o7.1, [], [(0, none)], []⟩,
            ⟨fV r_u64 v9, [], [(15, some 0)], []⟩,
            ⟨fV r_u64 v9, [], [(16, some 1)], []⟩] [0, 2] [] hAt
            ⟨ok_move rfl opd0,
            ok_shr hv9 rfl opd0 opdI,
            ok_assign rfl opd0, trivial⟩ (by kernel_rfl) ?_
        clear hAt; intro a w hAt; replace hAt : At B h0 (mkG [(0, fV r_u64 v9), (2, fV r_i64 o7.2)]) (mkO []) F 25 a w := hAt; refine then_n ?_
        refine reg [⟨fV r_i64 o7.2, [], [(2, none)], []⟩,
            ⟨fV r_i64 (IntKind.i64.wrap (o7.2 + 8)), [], [(17, some 0)], []⟩,
            ⟨fV r_i64 (IntKind.i64.wrap (o7.2 + 8)), [], [(18, some 1)], []⟩] [0, 2] [] hAt
            ⟨ok_move rfl opd0,
            ok_add rfl opd0 opdI,
            ok_assign rfl opd0, trivial⟩ (by kernel_rfl) ?_
        clear hAt; intro a w hAt; replace hAt : At B h0 (mkG [(0, fV r_u64 v9), (2, fV r_i64 (IntKind.i64.wrap (o7.2 + 8)))]) (mkO []) F 25 a w := hAt; refine then_n ?_; refine wp_seq ?_; obtain ⟨v10, hv10, H⟩ := bindE H
        refine reg [⟨fV r_i64 (IntKind.i64.wrap (o7.2 + 8)), [], [(2, none)], []⟩,
            ⟨fV r_u64 v9, [], [(0, none)], []⟩,
            ⟨fV r_u8 (IntKind.u8.wrap v9), [], [(20, some 1)], []⟩,
            ⟨fV r_u8 ((UInt8.toNat v10 : Nat) : Int), [], [(21, some 2)], []⟩,
            ⟨fV r_i64 (IntKind.i64.wrap ((UInt8.toNat v10 : Nat) : Int)), [], [(22, some 3)], []⟩,
            ⟨fV r_i64 (IntKind.i64.wrap ((IntKind.i64.wrap (o7.2 + 8)) + (IntKind.i64.wrap ((UInt8.toNat v10 : Nat) : Int)))), [], [(19, some 0), (23, some 4)], []⟩,
            ⟨fV r_i64 (IntKind.i64.wrap ((IntKind.i64.wrap (o7.2 + 8)) + (IntKind.i64.wrap ((UInt8.toNat v10 : Nat) : Int)))), [], [(24, some 5)], []⟩] [2] [] hAt
            ⟨ok_move rfl opd0,
            ok_move rfl opd0,
            ok_conv un109 un5 rfl opd0,
            ok_indexS hv10 un9 rfl (opdS rfl) opd0,
            ok_conv un5 un3 rfl opd0,
            ok_add rfl opd0 opd1,
            ok_assign rfl opd0, trivial⟩ (by kernel_rfl) ?_
        clear hAt; intro a w hAt; replace hAt : At B h0 (mkG [(2, fV r_i64 (IntKind.i64.wrap ((IntKind.i64.wrap (o7.2 + 8)) + (IntKind.i64.wrap ((UInt8.toNat v10 : Nat) : Int)))))]) (mkO []) F 25 a w := hAt; refine then_n ?_; refine wp_ret ?_
        cases H
        exact ret1 rfl (rv_tmp rfl rfl) hAt
      · intro hb12; have H := iteF hb12 H; refine wp_skip ?_; refine then_n ?_; refine wp_seq ?_; obtain ⟨v11, hv11, H⟩ := bindE H
        refine reg [⟨fV r_i64 o7.2, [], [(2, none)], []⟩,
            ⟨fV r_u64 o7.1, [], [(0, none)], []⟩,
            ⟨fV r_u8 (IntKind.u8.wrap o7.1), [], [(20, some 1)], []⟩,
            ⟨fV r_u8 ((UInt8.toNat v11 : Nat) : Int), [], [(21, some 2)], []⟩,
            ⟨fV r_i64 (IntKind.i64.wrap ((UInt8.toNat v11 : Nat) : Int)), [], [(22, some 3)], []⟩,
            ⟨fV r_i64 (IntKind.i64.wrap (o7.2 + (IntKind.i64.wrap ((UInt8.toNat v11 : Nat) : Int)))), [], [(19, some 0), (23, some 4)], []⟩,
            ⟨fV r_i64 (IntKind.i64.wrap (o7.2 + (IntKind.i64.wrap ((UInt8.toNat v11 : Nat) : Int)))), [], [(24, some 5)], []⟩] [2] [] hAt
            ⟨ok_move rfl opd0,
            ok_move rfl opd0,
            ok_conv un109 un5 rfl opd0,
            ok_indexS hv11 un9 rfl (opdS rfl) opd0,
            ok_conv un5 un3 rfl opd0,
            ok_add rfl opd0 opd1,
            ok_assign rfl opd0, trivial⟩ (by kernel_rfl) ?_
        clear hAt; intro a w hAt; replace hAt : At B h0 (mkG [(2, fV r_i64 (IntKind.i64.wrap (o7.2 + (IntKind.i64.wrap ((UInt8.toNat v11 : Nat) : Int)))))]) (mkO []) F 25 a w := hAt; refine then_n ?_; refine wp_ret ?_
        cases H
        exact ret1 rfl (rv_tmp rfl rfl) hAt
theorem ok_f_bits_Len (N : Nat) (x0 : Int) (r : Int) (H : f_bits_Len N x0 = some r) : FnOk Try.prog 124 [fV r_u64 x0] (fV r_i64 r) := by
  unfold f_bits_Len at H; refine fn_enter Try.func124 rfl rfl (by kernel_rfl) ?_; intro κ B h0 F a w hAt; refine wp_seq ?_
  refine reg [⟨fV r_i64 0, [], [], []⟩] [0] [] hAt
      ⟨ok_assign rfl opdI, trivial⟩ (by kernel_rfl) ?_
  clear hAt; intro a w hAt; replace hAt : At B h0 (mkG [(0, fV r_u64 x0)]) (mkO []) F 8 a w := hAt; refine then_n ?_; refine wp_seq ?_; refine wp_ifF ?_; refine wp_skip ?_; refine then_n ?_; refine wp_seq ?_; obtain ⟨v1, hv1, H⟩ := bindE H
  refine reg [⟨fV r_u64 x0, [], [(0, none)], []⟩,
      ⟨fV r_i64 v1, [], [(6, some 0)], []⟩,
      ⟨fV r_i64 v1, [], [(7, some 1)], []⟩] [2] [] hAt
      ⟨ok_move rfl opd0,
      ok_call (ok_f_bits_Len64 N x0 _ hv1) Try.func136 (by kernel_rfl) (by kernel_rfl) rfl ⟨opd0, trivial⟩,
      ok_assign rfl opd0, trivial⟩ (by kernel_rfl) ?_
  clear hAt; intro a w hAt; replace hAt : At B h0 (mkG [(2, fV r_i64 v1)]) (mkO []) F 8 a w := hAt; refine then_n ?_; refine wp_ret ?_
  cases H
  exact ret1 rfl (rv_tmp rfl rfl) hAt
theorem ok_f_cmp_isNaNint (N : Nat) (x0 : Int) (r : Bool) (H : f_cmp_isNaNint N x0 = some r) : FnOk Try.prog 142 [fV r_i64 x0] (fV Rep.bool r) := by
  unfold f_cmp_isNaNint at H; refine fn_enter Try.func142 rfl rfl (by kernel_rfl) ?_; intro κ B h0 F a w hAt; refine wp_seq ?_
  refine reg [⟨fV Rep.bool false, [], [], []⟩] [0] [] hAt
      ⟨ok_assign rfl opdB, trivial⟩ (by kernel_rfl) ?_
  clear hAt; intro a w hAt; replace hAt : At B h0 (mkG [(0, fV r_i64 x0)]) (mkO []) F 6 a w := hAt; refine then_n ?_; refine wp_seq ?_
  refine reg [⟨fV r_i64 x0, [], [(0, none)], []⟩,
      ⟨fV r_i64 x0, [], [(0, none)], []⟩,
      ⟨fV Rep.bool (cmpI .neq x0 x0), [], [(3, some 0), (4, some 1)], []⟩,
      ⟨fV Rep.bool (cmpI .neq x0 x0), [], [(5, some 2)], []⟩] [2] [] hAt
      ⟨ok_move rfl opd0,
      ok_move rfl opd0,
      ok_cmp (op := .neq) (by simp) rfl rfl opd0 opd1,
      ok_assign rfl opd0, trivial⟩ (by kernel_rfl) ?_
  clear hAt; intro a w hAt; replace hAt : At B h0 (mkG [(2, fV Rep.bool (cmpI .neq x0 x0))]) (mkO []) F 6 a w := hAt; refine then_n ?_; refine wp_ret ?_
  cases H
  exact ret1 rfl (rv_tmp rfl rfl) hAt
theorem ok_f_cmp_Lessint (N : Nat) (x0 : Int) (x1 : Int) (r : Bool) (H : f_cmp_Lessint N x0 x1 = some r) : FnOk Try.prog 132 [fV r_i64 x0, fV r_i64 x1] (fV Rep.bool r) := by
  unfold f_cmp_Lessint at H; refine fn_enter Try.func132 rfl rfl (by kernel_rfl) ?_; intro κ B h0 F a w hAt; refine wp_seq ?_
  refine reg [⟨fV Rep.bool false, [], [], []⟩] [0, 1] [] hAt
      ⟨ok_assign rfl opdB, trivial⟩ (by kernel_rfl) ?_
  clear hAt; intro a w hAt; replace hAt : At B h0 (mkG [(0, fV r_i64 x0), (1, fV r_i64 x1)]) (mkO []) F 17 a w := hAt; refine then_n ?_; refine wp_seq ?_; obtain ⟨v1, hv1, H⟩ := bindE H; obtain ⟨v2, hv2, H⟩ := bindE H
  refine reg [⟨fV r_i64 x0, [], [(0, none)], []⟩,
      ⟨fV Rep.bool v1, [], [(5, some 0)], []⟩,
      ⟨fV Rep.bool v1, [], [(6, some 1)], []⟩,
      ⟨Fact.when (v1 = true) (fV r_i64 x1), [], [(7, some 2), (1, none)], []⟩,
      ⟨Fact.when (v1 = true) (fV Rep.bool v2), [], [(7, some 2), (8, some 3)], []⟩,
      ⟨Fact.when (v1 = true) (fV Rep.bool (!v2)), [], [(7, some 2), (9, some 4)], []⟩,
      ⟨fV Rep.bool (v1 && (!v2)), [], [(7, some 2), (10, some 5)], []⟩,
      ⟨fV Rep.bool (v1 && (!v2)), [], [(11, some 6)], []⟩,
      ⟨Fact.when ((!(v1 && (!v2))) = true) (fV r_i64 x0), [], [(12, some 7), (0, none)], []⟩,
      ⟨Fact.when ((!(v1 && (!v2))) = true) (fV r_i64 x1), [], [(12, some 7), (1, none)], []⟩,
      ⟨Fact.when ((!(v1 && (!v2))) = true) (fV Rep.bool (cmpI .lss x0 x1)), [], [(12, some 7), (13, some 8), (14, some 9)], []⟩,
      ⟨fV Rep.bool ((v1 && (!v2)) || (cmpI .lss x0 x1)), [], [(12, some 7), (15, some 10)], []⟩,
      ⟨fV Rep.bool ((v1 && (!v2)) || (cmpI .lss x0 x1)), [], [(16, some 11)], []⟩] [4] [] hAt
      ⟨ok_move rfl opd0,
      ok_call (ok_f_cmp_isNaNint N x0 _ hv1) Try.func142 (by kernel_rfl) (by kernel_rfl) rfl ⟨opd0, trivial⟩,
      ok_move rfl opd0,
      obl_tt rfl rfl rfl rfl rfl rfl rfl (fun hg => ok_move rfl opd1),
      obl_tt rfl rfl rfl rfl rfl rfl rfl (fun hg => ok_call (ok_f_cmp_isNaNint N x1 _ (iteT hg hv2)) Try.func142 (by kernel_rfl) (by kernel_rfl) rfl ⟨(opd1.on hg), trivial⟩),
      obl_tt rfl rfl rfl rfl rfl rfl rfl (fun hg => ok_not rfl (opd1.on hg)),
      ok_and rfl opd0 (fun e => (opd1.on e)),
      ok_move rfl opd0,
      obl_tf rfl rfl rfl rfl rfl rfl rfl (fun hg => ok_move rfl opd1),
      obl_tf rfl rfl rfl rfl rfl rfl rfl (fun hg => ok_move rfl opd1),
      obl_tf rfl rfl rfl rfl rfl rfl rfl (fun hg => ok_cmp (op := .lss) (by simp) rfl rfl (opd1.on hg) (opd2.on hg)),
      ok_or rfl opd0 (fun e => (opd1.on (notT e))),
      ok_assign rfl opd0, trivial⟩ (by kernel_rfl) ?_
  clear hAt; intro a w hAt; replace hAt : At B h0 (mkG [(4, fV Rep.bool ((v1 && (!v2)) || (cmpI .lss x0 x1)))]) (mkO []) F 17 a w := hAt; refine then_n ?_; refine wp_ret ?_
  cases H
  exact ret1 rfl (rv_tmp rfl rfl) hAt
theorem okM_f_slices_insertionSortOrderedint (N : Nat) (K : Option SegK) (x0 : (List Int)) (x1 : Int) (x2 : Int) (r : (List Int)) (H : f_slices_insertionSortOrderedint N x0 x1 x2 = some r) : FnOkM Try.prog 126 [Fact.triv, fV r_i64 x1, fV r_i64 x2] 0 (segE K 3 r_i64 x0) (segE K 3 r_i64 r) (fT0) := by
  unfold f_slices_insertionSortOrderedint at H; refine fn_enterM Try.func126 rfl rfl (by kernel_rfl) ?_; intro κ B h0 F a w vM hAt; refine wp_seq ?_
  refine reg [⟨fV r_i64 x1, [], [(1, none)], []⟩,
      ⟨fV r_i64 (IntKind.i64.wrap (x1 + 1)), [], [(8, some 0)], []⟩,
      ⟨fV r_i64 (IntKind.i64.wrap (x1 + 1)), [], [(9, some 1)], []⟩] [0, 1, 2, 6] [0] hAt
      ⟨ok_move rfl opd0,
      ok_add rfl opd0 opdI,
      ok_assign rfl opd0, trivial⟩ (by kernel_rfl) ?_
  clear hAt; intro a w hAt; replace hAt : At B h0 (mkG [(0, fIs vM), (1, fV r_i64 x1), (2, fV r_i64 x2), (6, fV r_i64 (IntKind.i64.wrap (x1 + 1)))]) (mkO [(0, segE K 3 r_i64 x0)]) F 49 a w := hAt; refine then_n ?_; refine wp_block ?_; obtain ⟨o15, hl16, H⟩ := bindE H
  refine wp_mono (wp_loopN (f := f_slices_insertionSortOrderedint_L2 N x1 x2) (fun (s1 : ((List Int) × Int)) a w => At B h0 (mkG [(0, fIs vM), (1, fV r_i64 x1), (2, fV r_i64 x2), (6, fV r_i64 s1.2)]) (mkO [(0, segE K 3 r_i64 s1.1)]) F 49 a w) (fun o e a w => (fun v => e = .exit 0 ∧ At B h0 (mkG [(0, fIs vM)]) (mkO [(0, segE K 3 r_i64 v)]) F 49 a w) o) ?_ N (x0, (IntKind.i64.wrap (x1 + 1))) o15 _ _ hl16 ?_) ?_
  · clear H hAt hl16; intro s1 r17 a w H hAt; unfold f_slices_insertionSortOrderedint_L2 at H; refine wp_seq ?_; refine wp_seq ?_
    refine reg [⟨fV r_i64 s1.2, [], [(6, none)], []⟩,
        ⟨fV r_i64 x2, [], [(2, none)], []⟩,
        ⟨fV Rep.bool (cmpI .lss s1.2 x2), [], [(10, some 0), (11, some 1)], []⟩] [0, 1, 2, 6, 12] [0] hAt
        ⟨ok_move rfl opd0,
        ok_move rfl opd0,
        ok_cmp (op := .lss) (by simp) rfl rfl opd0 opd1, trivial⟩ (by kernel_rfl) ?_
    clear hAt; intro a w hAt; replace hAt : At B h0 (mkG [(0, fIs vM), (1, fV r_i64 x1), (2, fV r_i64 x2), (6, fV r_i64 s1.2), (12, fV Rep.bool (cmpI .lss s1.2 x2))]) (mkO [(0, segE K 3 r_i64 s1.1)]) F 49 a w := hAt; refine then_n ?_; refine wp_if hAt (by rfl) ?_ ?_
    · intro hb14; have H := iteT hb14 H; refine wp_skip ?_; refine then_n ?_; refine wp_seq ?_; refine wp_block ?_; refine wp_seq ?_
      refine reg [⟨fV r_i64 s1.2, [], [(6, none)], []⟩,
          ⟨fV r_i64 s1.2, [], [(15, some 0)], []⟩] [0, 1, 2, 6, 7] [0] hAt
          ⟨ok_move rfl opd0,
          ok_assign rfl opd0, trivial⟩ (by kernel_rfl) ?_
      clear hAt; intro a w hAt; replace hAt : At B h0 (mkG [(0, fIs vM), (1, fV r_i64 x1), (2, fV r_i64 x2), (6, fV r_i64 s1.2), (7, fV r_i64 s1.2)]) (mkO [(0, segE K 3 r_i64 s1.1)]) F 49 a w := hAt; refine then_n ?_; refine wp_block ?_; obtain ⟨o11, hl12, H⟩ := bindE H
      refine wp_mono (wp_loopN (f := f_slices_insertionSortOrderedint_L1 N x1) (fun (s2 : ((List Int) × Int)) a w => At B h0 (mkG [(0, fIs vM), (1, fV r_i64 x1), (2, fV r_i64 x2), (6, fV r_i64 s1.2), (7, fV r_i64 s2.2)]) (mkO [(0, segE K 3 r_i64 s2.1)]) F 49 a w) (fun o e a w => (fun v => e = .exit 2 ∧ At B h0 (mkG [(0, fIs vM), (1, fV r_i64 x1), (2, fV r_i64 x2), (6, fV r_i64 s1.2)]) (mkO [(0, segE K 3 r_i64 v)]) F 49 a w) o) ?_ N (s1.1, s1.2) o11 _ _ hl12 ?_) ?_
      · clear H hAt hl12; intro s2 r13 a w H hAt; unfold f_slices_insertionSortOrderedint_L1 at H; refine wp_seq ?_; refine wp_seq ?_; obtain ⟨v3, hv3, H⟩ := bindE H; obtain ⟨v4, hv4, H⟩ := bindE H; obtain ⟨v5, hv5, H⟩ := bindE H
        refine regd [⟨fV r_i64 s2.2, [], [(7, none)], []⟩,
            ⟨fV r_i64 x1, [], [(1, none)], []⟩,
            ⟨fV Rep.bool (cmpI .gtr s2.2 x1), [], [(16, some 0), (17, some 1)], []⟩,
            ⟨fV Rep.bool (cmpI .gtr s2.2 x1), [], [(18, some 2)], []⟩,
            ⟨Fact.when ((cmpI .gtr s2.2 x1) = true) (fCp 0), [], [(19, some 3)], []⟩,
            ⟨Fact.when ((cmpI .gtr s2.2 x1) = true) (fV r_i64 s2.2), [], [(19, some 3), (7, none)], []⟩,
            ⟨Fact.when ((cmpI .gtr s2.2 x1) = true) (fElS 0 ((Int.toNat s2.2) * r_i64.sz + 0)), [], [(19, some 3), (20, some 4), (21, some 5)], [(0, none)]⟩,
            ⟨Fact.when ((cmpI .gtr s2.2 x1) = true) (fV r_i64 v3), [], [(19, some 3), (22, some 6)], [(0, none)]⟩,
            ⟨Fact.when ((cmpI .gtr s2.2 x1) = true) (fCp 0), [], [(19, some 3)], []⟩,
            ⟨Fact.when ((cmpI .gtr s2.2 x1) = true) (fV r_i64 s2.2), [], [(19, some 3), (7, none)], []⟩,
            ⟨Fact.when ((cmpI .gtr s2.2 x1) = true) (fV r_i64 (IntKind.i64.wrap (s2.2 - 1))), [], [(19, some 3), (25, some 9)], []⟩,
            ⟨Fact.when ((cmpI .gtr s2.2 x1) = true) (fElS 0 ((Int.toNat (IntKind.i64.wrap (s2.2 - 1))) * r_i64.sz + 0)), [], [(19, some 3), (24, some 8), (26, some 10)], [(0, none)]⟩,
            ⟨Fact.when ((cmpI .gtr s2.2 x1) = true) (fV r_i64 v4), [], [(19, some 3), (27, some 11)], [(0, none)]⟩,
            ⟨Fact.when ((cmpI .gtr s2.2 x1) = true) (fV Rep.bool v5), [], [(19, some 3), (23, some 7), (28, some 12)], []⟩,
            ⟨fV Rep.bool ((cmpI .gtr s2.2 x1) && v5), [], [(19, some 3), (29, some 13)], []⟩] [0, 1, 2, 3, 4, 5, 6, 7, 8, 9, 10, 11, 12, 13, 14] [0, 1, 2, 3, 4, 5, 6, 7, 8, 9, 10, 11, 12, 13, 14] [0, 1, 2, 6, 7, 30] [0] hAt
            ⟨ok_move rfl opd0,
            ok_move rfl opd0,
            ok_cmp (op := .gtr) (by simp) rfl rfl opd0 opd1,
            ok_move rfl opd0,
            obl_tt rfl rfl rfl rfl rfl rfl rfl (fun hg => ok_cp rfl),
            obl_tt rfl rfl rfl rfl rfl rfl rfl (fun hg => ok_move rfl opd1),
            obl_tt rfl rfl rfl rfl rfl rfl rfl (fun hg => ok_elSeg (iteT hg hv3) ty3 un69 rfl (opd1.on hg) (opd2.on hg)),
            obl_tt rfl rfl rfl rfl rfl rfl rfl (fun hg => ok_loadSeg (idx_spec (iteT hg hv3)).2.2 (Lens.refl _) ty3 rfl (opd1.on hg)),
            obl_tt rfl rfl rfl rfl rfl rfl rfl (fun hg => ok_cp rfl),
            obl_tt rfl rfl rfl rfl rfl rfl rfl (fun hg => ok_move rfl opd1),
            obl_tt rfl rfl rfl rfl rfl rfl rfl (fun hg => ok_sub rfl (opd1.on hg) opdI),
            obl_tt rfl rfl rfl rfl rfl rfl rfl (fun hg => ok_elSeg (iteT hg hv4) ty3 un69 rfl (opd1.on hg) (opd2.on hg)),
            obl_tt rfl rfl rfl rfl rfl rfl rfl (fun hg => ok_loadSeg (idx_spec (iteT hg hv4)).2.2 (Lens.refl _) ty3 rfl (opd1.on hg)),
            obl_tt rfl rfl rfl rfl rfl rfl rfl (fun hg => ok_call (ok_f_cmp_Lessint N v3 v4 _ (iteT hg hv5)) Try.func132 (by kernel_rfl) (by kernel_rfl) rfl ⟨(opd1.on hg), ⟨(opd2.on hg), trivial⟩⟩),
            ok_and rfl opd0 (fun e => (opd1.on e)), trivial⟩ (by kernel_rfl) ?_
        clear hAt; intro a w hAt; replace hAt : At B h0 (mkG [(0, fIs vM), (1, fV r_i64 x1), (2, fV r_i64 x2), (6, fV r_i64 s1.2), (7, fV r_i64 s2.2), (30, fV Rep.bool ((cmpI .gtr s2.2 x1) && v5))]) (mkO [(0, segE K 3 r_i64 s2.1)]) F 49 a w := hAt; refine then_n ?_; refine wp_if hAt (by rfl) ?_ ?_
        · intro hb10; have H := iteT hb10 H; refine wp_skip ?_; refine then_n ?_; refine wp_seq ?_; refine wp_block ?_; obtain ⟨v6, hv6, H⟩ := bindE H; obtain ⟨v7, hv7, H⟩ := bindE H; obtain ⟨v8, hv8, H⟩ := bindE H; obtain ⟨v9, hv9, H⟩ := bindE H
          refine regd [⟨fCp 0, [], [], []⟩,
              ⟨fV r_i64 s2.2, [], [(7, none)], []⟩,
              ⟨fCp 0, [], [], []⟩,
              ⟨fV r_i64 s2.2, [], [(7, none)], []⟩,
              ⟨fV r_i64 (IntKind.i64.wrap (s2.2 - 1)), [], [(36, some 3)], []⟩,
              ⟨fCp 0, [], [], []⟩,
              ⟨fV r_i64 s2.2, [], [(7, none)], []⟩,
              ⟨fV r_i64 (IntKind.i64.wrap (s2.2 - 1)), [], [(39, some 6)], []⟩,
              ⟨fElS 0 ((Int.toNat (IntKind.i64.wrap (s2.2 - 1))) * r_i64.sz + 0), [], [(38, some 5), (40, some 7)], [(0, none)]⟩,
              ⟨fV r_i64 v6, [], [(41, some 8)], [(0, none)]⟩,
              ⟨fCp 0, [], [], []⟩,
              ⟨fV r_i64 s2.2, [], [(7, none)], []⟩,
              ⟨fElS 0 ((Int.toNat s2.2) * r_i64.sz + 0), [], [(43, some 10), (44, some 11)], [(0, none)]⟩,
              ⟨fV r_i64 v7, [], [(45, some 12)], [(0, none)]⟩,
              ⟨fElS 0 ((Int.toNat s2.2) * r_i64.sz + 0), [], [(33, some 0), (34, some 1)], [(0, none)]⟩,
              ⟨Fact.triv, [(0, some (segE K 3 r_i64 (List.set s2.1 (Int.toNat s2.2) v6)))], [(47, some 14), (42, some 9)], [(0, none)]⟩,
              ⟨fElS 0 ((Int.toNat (IntKind.i64.wrap (s2.2 - 1))) * r_i64.sz + 0), [], [(35, some 2), (37, some 4)], [(0, some 15)]⟩,
              ⟨Fact.triv, [(0, some (segE K 3 r_i64 (List.set (List.set s2.1 (Int.toNat s2.2) v6) (Int.toNat (IntKind.i64.wrap (s2.2 - 1))) v7)))], [(48, some 16), (46, some 13)], [(0, some 15)]⟩] [0, 1, 2, 3, 4, 5, 6, 7, 8, 9, 10, 11, 12, 13, 14, 15, 16, 17] [0, 1, 5, 6, 7, 8, 9, 10, 11, 12, 13, 14, 15, 2, 3, 4, 16, 17] [0, 1, 2, 6, 7] [0] hAt
              ⟨ok_cp rfl,
              ok_move rfl opd0,
              ok_cp rfl,
              ok_move rfl opd0,
              ok_sub rfl opd0 opdI,
              ok_cp rfl,
              ok_move rfl opd0,
              ok_sub rfl opd0 opdI,
              ok_elSeg hv6 ty3 un69 rfl opd0 opd1,
              ok_loadSeg (idx_spec hv6).2.2 (Lens.refl _) ty3 rfl opd0,
              ok_cp rfl,
              ok_move rfl opd0,
              ok_elSeg hv7 ty3 un69 rfl opd0 opd1,
              ok_loadSeg (idx_spec hv7).2.2 (Lens.refl _) ty3 rfl opd0,
              ok_elSeg hv8 ty3 un69 rfl opd0 opd1,
              ok_storeSeg (idx_spec hv8).2.2 (Lens.refl _) ty3 rfl rfl opd0 opd1 rfl,
              ok_elSeg hv9 ty3 un69 rfl opd0 opd1,
              ok_storeSeg (idx_spec hv9).2.2 (Lens.refl _) ty3 rfl rfl opd0 opd1 rfl, trivial⟩ (by kernel_rfl) ?_
          clear hAt; intro a w hAt; replace hAt : At B h0 (mkG [(0, fIs vM), (1, fV r_i64 x1), (2, fV r_i64 x2), (6, fV r_i64 s1.2), (7, fV r_i64 s2.2)]) (mkO [(0, segE K 3 r_i64 (List.set (List.set s2.1 (Int.toNat s2.2) v6) (Int.toNat (IntKind.i64.wrap (s2.2 - 1))) v7))]) F 49 a w := hAt; refine blk_n ?_; refine then_n ?_
          refine reg [⟨fV r_i64 s2.2, [], [(7, none)], []⟩,
              ⟨fV r_i64 (IntKind.i64.wrap (s2.2 - 1)), [], [(31, some 0)], []⟩,
              ⟨fV r_i64 (IntKind.i64.wrap (s2.2 - 1)), [], [(32, some 1)], []⟩] [0, 1, 2, 6, 7] [0] hAt
              ⟨ok_move rfl opd0,
              ok_sub rfl opd0 opdI,
              ok_assign rfl opd0, trivial⟩ (by kernel_rfl) ?_
          clear hAt; intro a w hAt; replace hAt : At B h0 (mkG [(0, fIs vM), (1, fV r_i64 x1), (2, fV r_i64 x2), (6, fV r_i64 s1.2), (7, fV r_i64 (IntKind.i64.wrap (s2.2 - 1)))]) (mkO [(0, segE K 3 r_i64 (List.set (List.set s2.1 (Int.toNat s2.2) v6) (Int.toNat (IntKind.i64.wrap (s2.2 - 1))) v7))]) F 49 a w := hAt
          cases H
          exact ⟨rfl, hAt.pick [0, 1, 2, 6, 7] [0]⟩
        · intro hb10; have H := iteF hb10 H; refine wp_exit ?_; refine then_x ?_
          cases H
          exact ⟨ex_ne, rfl, hAt.pick [0, 1, 2, 6] [0]⟩
      · exact hAt.pick [0, 1, 2, 6, 7] [0]
      · clear hAt; intro e a w hp; obtain ⟨rfl, hAt⟩ := hp; refine blk_eq ?_; refine blk_n ?_; refine then_n ?_
        refine reg [⟨fV r_i64 s1.2, [], [(6, none)], []⟩,
            ⟨fV r_i64 (IntKind.i64.wrap (s1.2 + 1)), [], [(13, some 0)], []⟩,
            ⟨fV r_i64 (IntKind.i64.wrap (s1.2 + 1)), [], [(14, some 1)], []⟩] [0, 1, 2, 6] [0] hAt
            ⟨ok_move rfl opd0,
            ok_add rfl opd0 opdI,
            ok_assign rfl opd0, trivial⟩ (by kernel_rfl) ?_
        clear hAt; intro a w hAt; replace hAt : At B h0 (mkG [(0, fIs vM), (1, fV r_i64 x1), (2, fV r_i64 x2), (6, fV r_i64 (IntKind.i64.wrap (s1.2 + 1)))]) (mkO [(0, segE K 3 r_i64 o11)]) F 49 a w := hAt
        cases H
        exact ⟨rfl, hAt.pick [0, 1, 2, 6] [0]⟩
    · intro hb14; have H := iteF hb14 H; refine wp_exit ?_; refine then_x ?_
      cases H
      exact ⟨ex_ne, rfl, hAt.pick [0] [0]⟩
  · exact hAt.pick [0, 1, 2, 6] [0]
  · clear hAt; intro e a w hp; obtain ⟨rfl, hAt⟩ := hp; refine blk_eq ?_
    cases H
    exact retM0 (i := 0) rfl rfl rfl  hAt
end Go.KB
