/- The Go functions compute what the plain functions compute. Printed by a program. No condition. -/
import Derived.Test.YtbedbjphickpaaaGProof5
namespace Go.KB
open Go.Proofs
set_option maxRecDepth 100000
set_option linter.unusedVariables false
theorem ok_f_hull_total (N : Nat) (x0 : GShip) (r : GCentre) (H : f_hull_total N x0 = some r) : FnOk Try.prog 41 [fV GShip.rep x0] (fV GCentre.rep r) := by
  unfold f_hull_total at H; refine fn_enter Try.func41 rfl rfl (by kernel_rfl) ?_; intro κ B h0 F a w hAt; refine wp_seq ?_
  refine reg [⟨fRef GShip.rep x0, [], [(0, none)], []⟩,
      ⟨Fact.triv, [(2, some (boxE 54 GCentre.rep (⟨0, (⟨(⟨false, []⟩ : GInt), (⟨false, []⟩ : GInt)⟩ : GRat), (⟨(⟨false, []⟩ : GInt), (⟨false, []⟩ : GInt)⟩ : GRat), 0⟩ : GCentre)))], [], []⟩] [1] [2] hAt
      ⟨ok_box rfl opd0,
      ok_alloc ty54 rfl rfl, trivial⟩ (by kernel_rfl) ?_
  clear hAt; intro a w hAt; replace hAt : At B h0 (mkG [(1, fRef GShip.rep x0)]) (mkO [(2, boxE 54 GCentre.rep (⟨0, (⟨(⟨false, []⟩ : GInt), (⟨false, []⟩ : GInt)⟩ : GRat), (⟨(⟨false, []⟩ : GInt), (⟨false, []⟩ : GInt)⟩ : GRat), 0⟩ : GCentre))]) F 59 a w := hAt; refine then_n ?_; refine wp_seq ?_
  refine reg [⟨Fact.triv, [(3, some (boxE 54 GCentre.rep (⟨0, (⟨(⟨false, []⟩ : GInt), (⟨false, []⟩ : GInt)⟩ : GRat), (⟨(⟨false, []⟩ : GInt), (⟨false, []⟩ : GInt)⟩ : GRat), 0⟩ : GCentre)))], [], []⟩] [1] [2, 3] hAt
      ⟨ok_alloc ty54 rfl rfl, trivial⟩ (by kernel_rfl) ?_
  clear hAt; intro a w hAt
  replace hAt : At B h0 (mkG [(1, fRef GShip.rep x0)]) (mkO [(2, boxE 54 GCentre.rep (⟨0, (⟨(⟨false, []⟩ : GInt), (⟨false, []⟩ : GInt)⟩ : GRat), (⟨(⟨false, []⟩ : GInt), (⟨false, []⟩ : GInt)⟩ : GRat), 0⟩ : GCentre)), (3, boxE 54 GCentre.rep (⟨0, (⟨(⟨false, []⟩ : GInt), (⟨false, []⟩ : GInt)⟩ : GRat), (⟨(⟨false, []⟩ : GInt), (⟨false, []⟩ : GInt)⟩ : GRat), 0⟩ : GCentre))]) F 59 a w := hAt
  refine then_n ?_; refine wp_seq ?_; obtain ⟨v1, hv1, H⟩ := bindE H; obtain ⟨v2, hv2, H⟩ := bindE H
  refine reg [⟨fV GRat.rep v1, [], [], []⟩,
      ⟨fV GRat.rep v2, [], [], []⟩,
      ⟨Fact.triv, [(4, some (boxE 32 GRat.rep (⟨(⟨false, []⟩ : GInt), (⟨false, []⟩ : GInt)⟩ : GRat)))], [], []⟩,
      ⟨Fact.triv, [(5, some (boxE 32 GRat.rep (⟨(⟨false, []⟩ : GInt), (⟨false, []⟩ : GInt)⟩ : GRat)))], [], []⟩,
      ⟨Fact.triv, [(4, some (boxE 32 GRat.rep v1))], [(8, some 0)], [(4, some 2)]⟩,
      ⟨Fact.triv, [(5, some (boxE 32 GRat.rep v2))], [(9, some 1)], [(5, some 3)]⟩] [1] [2, 3, 4, 5] hAt
      ⟨ok_call (ok_f_hull_whole N 0 _ hv1) Try.func42 (by kernel_rfl) (by kernel_rfl) rfl ⟨opdI, trivial⟩,
      ok_call (ok_f_hull_whole N 0 _ hv2) Try.func42 (by kernel_rfl) (by kernel_rfl) rfl ⟨opdI, trivial⟩,
      ok_alloc ty32 rfl rfl,
      ok_alloc ty32 rfl rfl,
      ok_storeBox ty32 rfl rfl opd0,
      ok_storeBox ty32 rfl rfl opd0, trivial⟩ (by kernel_rfl) ?_
  clear hAt; intro a w hAt
  replace hAt : At B h0 (mkG [(1, fRef GShip.rep x0)]) (mkO [(2, boxE 54 GCentre.rep (⟨0, (⟨(⟨false, []⟩ : GInt), (⟨false, []⟩ : GInt)⟩ : GRat), (⟨(⟨false, []⟩ : GInt), (⟨false, []⟩ : GInt)⟩ : GRat), 0⟩ : GCentre)), (3, boxE 54 GCentre.rep (⟨0, (⟨(⟨false, []⟩ : GInt), (⟨false, []⟩ : GInt)⟩ : GRat), (⟨(⟨false, []⟩ : GInt), (⟨false, []⟩ : GInt)⟩ : GRat), 0⟩ : GCentre)), (4, boxE 32 GRat.rep v1), (5, boxE 32 GRat.rep v2)]) F 59 a w := hAt
  refine then_n ?_; refine wp_seq ?_; refine wp_seq ?_; obtain ⟨v3, hv3, H⟩ := bindE H
  refine reg [⟨fV GShip.rep x0, [], [(1, none)], []⟩,
      ⟨fV (Rep.slice GLoad.rep) v3, [], [(10, some 0)], []⟩,
      ⟨fV r_i64 (List.length v3 : Int), [], [(11, some 1)], []⟩,
      ⟨fV r_i64 0, [], [], []⟩] [11, 12, 13] [2, 3, 4, 5] hAt
      ⟨ok_load ty27 rfl opd0,
      ok_call (ok_f_hull_loads N x0 _ hv3) Try.func81 (by kernel_rfl) (by kernel_rfl) rfl ⟨opd0, trivial⟩,
      ok_len un25 rfl opd0,
      ok_move rfl opdI, trivial⟩ (by kernel_rfl) ?_
  clear hAt; intro a w hAt
  replace hAt : At B h0 (mkG [(11, fV (Rep.slice GLoad.rep) v3), (12, fV r_i64 (List.length v3 : Int)), (13, fV r_i64 0)]) (mkO [(2, boxE 54 GCentre.rep (⟨0, (⟨(⟨false, []⟩ : GInt), (⟨false, []⟩ : GInt)⟩ : GRat), (⟨(⟨false, []⟩ : GInt), (⟨false, []⟩ : GInt)⟩ : GRat), 0⟩ : GCentre)), (3, boxE 54 GCentre.rep (⟨0, (⟨(⟨false, []⟩ : GInt), (⟨false, []⟩ : GInt)⟩ : GRat), (⟨(⟨false, []⟩ : GInt), (⟨false, []⟩ : GInt)⟩ : GRat), 0⟩ : GCentre)), (4, boxE 32 GRat.rep v1), (5, boxE 32 GRat.rep v2)]) F 59 a w := hAt
  refine then_n ?_; refine wp_block ?_; obtain ⟨o11, hl12, H⟩ := bindE H
  refine wp_mono (wp_loopN (f := f_hull_total_L1 N v3) (fun (s4 : (GCentre × GRat × GRat × Int)) a w => At B h0 (mkG [(11, fV (Rep.slice GLoad.rep) v3), (12, fV r_i64 (List.length v3 : Int)), (13, fV r_i64 s4.2.2.2)]) (mkO [(2, boxE 54 GCentre.rep (⟨0, (⟨(⟨false, []⟩ : GInt), (⟨false, []⟩ : GInt)⟩ : GRat), (⟨(⟨false, []⟩ : GInt), (⟨false, []⟩ : GInt)⟩ : GRat), 0⟩ : GCentre)), (3, boxE 54 GCentre.rep s4.1), (4, boxE 32 GRat.rep s4.2.1), (5, boxE 32 GRat.rep s4.2.2.1)]) F 59 a w) (fun o e a w => (fun v => e = .exit 0 ∧ At B h0 (mkG []) (mkO [(2, boxE 54 GCentre.rep (⟨0, (⟨(⟨false, []⟩ : GInt), (⟨false, []⟩ : GInt)⟩ : GRat), (⟨(⟨false, []⟩ : GInt), (⟨false, []⟩ : GInt)⟩ : GRat), 0⟩ : GCentre)), (3, boxE 54 GCentre.rep v.1), (4, boxE 32 GRat.rep v.2.1), (5, boxE 32 GRat.rep v.2.2)]) F 59 a w) o) ?_ N ((⟨0, (⟨(⟨false, []⟩ : GInt), (⟨false, []⟩ : GInt)⟩ : GRat), (⟨(⟨false, []⟩ : GInt), (⟨false, []⟩ : GInt)⟩ : GRat), 0⟩ : GCentre), v1, v2, 0) o11 _ _ hl12 ?_) ?_
  · clear H hAt hl12; intro s4 r17 a w H hAt; unfold f_hull_total_L1 at H; refine wp_seq ?_
    refine reg [⟨fV Rep.bool (cmpI .lss s4.2.2.2 (List.length v3 : Int)), [], [(13, none), (12, none)], []⟩] [11, 12, 13, 14] [2, 3, 4, 5] hAt
        ⟨ok_cmp (op := .lss) (by simp) rfl rfl opd0 opd1, trivial⟩ (by kernel_rfl) ?_
    clear hAt; intro a w hAt
    replace hAt : At B h0 (mkG [(11, fV (Rep.slice GLoad.rep) v3), (12, fV r_i64 (List.length v3 : Int)), (13, fV r_i64 s4.2.2.2), (14, fV Rep.bool (cmpI .lss s4.2.2.2 (List.length v3 : Int)))]) (mkO [(2, boxE 54 GCentre.rep (⟨0, (⟨(⟨false, []⟩ : GInt), (⟨false, []⟩ : GInt)⟩ : GRat), (⟨(⟨false, []⟩ : GInt), (⟨false, []⟩ : GInt)⟩ : GRat), 0⟩ : GCentre)), (3, boxE 54 GCentre.rep s4.1), (4, boxE 32 GRat.rep s4.2.1), (5, boxE 32 GRat.rep s4.2.2.1)]) F 59 a w := hAt
    refine then_n ?_; refine wp_seq ?_; refine wp_if hAt (by rfl) ?_ ?_
    · intro hb10; have H := iteT hb10 H; refine wp_skip ?_; refine then_n ?_; refine wp_seq ?_; refine wp_block ?_; refine wp_seq ?_; obtain ⟨v5, hv5, H⟩ := bindE H
      refine reg [⟨fRef GLoad.rep v5, [], [(11, none), (13, none)], []⟩,
          ⟨fV GLoad.rep v5, [], [(15, some 0)], []⟩,
          ⟨Fact.triv, [(7, some (boxE 24 GLoad.rep (⟨[], 0, 0, 0, 0⟩ : GLoad)))], [], []⟩,
          ⟨Fact.triv, [(7, some (boxE 24 GLoad.rep v5))], [(16, some 1)], [(7, some 2)]⟩] [11, 12, 13] [2, 3, 4, 5, 7] hAt
          ⟨ok_index ty24 un25 hv5 rfl opd0 opd1,
          ok_load ty24 rfl opd0,
          ok_alloc ty24 rfl rfl,
          ok_storeBox ty24 rfl rfl opd0, trivial⟩ (by kernel_rfl) ?_
      clear hAt; intro a w hAt
      replace hAt : At B h0 (mkG [(11, fV (Rep.slice GLoad.rep) v3), (12, fV r_i64 (List.length v3 : Int)), (13, fV r_i64 s4.2.2.2)]) (mkO [(2, boxE 54 GCentre.rep (⟨0, (⟨(⟨false, []⟩ : GInt), (⟨false, []⟩ : GInt)⟩ : GRat), (⟨(⟨false, []⟩ : GInt), (⟨false, []⟩ : GInt)⟩ : GRat), 0⟩ : GCentre)), (3, boxE 54 GCentre.rep s4.1), (4, boxE 32 GRat.rep s4.2.1), (5, boxE 32 GRat.rep s4.2.2.1), (7, boxE 24 GLoad.rep v5)]) F 59 a w := hAt
      refine then_n ?_; refine wp_seq ?_
      refine reg [⟨fOff 3 0, [], [], [(3, none)]⟩,
          ⟨fV r_i64 s4.1.Mass, [], [(17, some 0)], [(3, none)]⟩,
          ⟨fOff 7 1, [], [], [(7, none)]⟩,
          ⟨fV r_i64 v5.Mass, [], [(19, some 2)], [(7, none)]⟩,
          ⟨fV r_i64 (IntKind.i64.wrap (s4.1.Mass + v5.Mass)), [], [(18, some 1), (20, some 3)], []⟩,
          ⟨fOff 3 0, [], [], [(3, none)]⟩,
          ⟨Fact.triv, [(3, some (boxE 54 GCentre.rep ({ s4.1 with Mass := (IntKind.i64.wrap (s4.1.Mass + v5.Mass)) } : GCentre)))], [(22, some 5), (21, some 4)], [(3, none)]⟩] [11, 12, 13] [2, 3, 4, 5, 7] hAt
          ⟨ok_fieldOwn fo54_0 rfl,
          ok_loadOwn GCentre.l0 ty3 rfl opd0,
          ok_fieldOwn fo24_1 rfl,
          ok_loadOwn GLoad.l1 ty3 rfl opd0,
          ok_add rfl opd0 opd1,
          ok_fieldOwn fo54_0 rfl,
          ok_store GCentre.l0 ty3 rfl rfl opd0 opd1 rfl, trivial⟩ (by kernel_rfl) ?_
      clear hAt; intro a w hAt
      replace hAt : At B h0 (mkG [(11, fV (Rep.slice GLoad.rep) v3), (12, fV r_i64 (List.length v3 : Int)), (13, fV r_i64 s4.2.2.2)]) (mkO [(2, boxE 54 GCentre.rep (⟨0, (⟨(⟨false, []⟩ : GInt), (⟨false, []⟩ : GInt)⟩ : GRat), (⟨(⟨false, []⟩ : GInt), (⟨false, []⟩ : GInt)⟩ : GRat), 0⟩ : GCentre)), (3, boxE 54 GCentre.rep ({ s4.1 with Mass := (IntKind.i64.wrap (s4.1.Mass + v5.Mass)) } : GCentre)), (4, boxE 32 GRat.rep s4.2.1), (5, boxE 32 GRat.rep s4.2.2.1), (7, boxE 24 GLoad.rep v5)]) F 59 a w := hAt
      refine then_n ?_; refine wp_seq ?_
      refine reg [⟨fOff 3 9, [], [], [(3, none)]⟩,
          ⟨fV r_i64 (({ s4.1 with Mass := (IntKind.i64.wrap (s4.1.Mass + v5.Mass)) } : GCentre).Free), [], [(23, some 0)], [(3, none)]⟩,
          ⟨fOff 7 4, [], [], [(7, none)]⟩,
          ⟨fV r_i64 v5.Free, [], [(25, some 2)], [(7, none)]⟩,
          ⟨fV r_i64 (IntKind.i64.wrap ((({ s4.1 with Mass := (IntKind.i64.wrap (s4.1.Mass + v5.Mass)) } : GCentre).Free) + v5.Free)), [], [(24, some 1), (26, some 3)], []⟩,
          ⟨fOff 3 9, [], [], [(3, none)]⟩,
          ⟨Fact.triv, [(3, some (boxE 54 GCentre.rep ({ ({ s4.1 with Mass := (IntKind.i64.wrap (s4.1.Mass + v5.Mass)) } : GCentre) with Free := (IntKind.i64.wrap ((({ s4.1 with Mass := (IntKind.i64.wrap (s4.1.Mass + v5.Mass)) } : GCentre).Free) + v5.Free)) } : GCentre)))], [(28, some 5), (27, some 4)], [(3, none)]⟩] [11, 12, 13] [2, 3, 4, 5, 7] hAt
          ⟨ok_fieldOwn fo54_3 rfl,
          ok_loadOwn GCentre.l3 ty3 rfl opd0,
          ok_fieldOwn fo24_4 rfl,
          ok_loadOwn GLoad.l4 ty3 rfl opd0,
          ok_add rfl opd0 opd1,
          ok_fieldOwn fo54_3 rfl,
          ok_store GCentre.l3 ty3 rfl rfl opd0 opd1 rfl, trivial⟩ (by kernel_rfl) ?_
      clear hAt; intro a w hAt
      replace hAt : At B h0 (mkG [(11, fV (Rep.slice GLoad.rep) v3), (12, fV r_i64 (List.length v3 : Int)), (13, fV r_i64 s4.2.2.2)]) (mkO [(2, boxE 54 GCentre.rep (⟨0, (⟨(⟨false, []⟩ : GInt), (⟨false, []⟩ : GInt)⟩ : GRat), (⟨(⟨false, []⟩ : GInt), (⟨false, []⟩ : GInt)⟩ : GRat), 0⟩ : GCentre)), (3, boxE 54 GCentre.rep ({ ({ s4.1 with Mass := (IntKind.i64.wrap (s4.1.Mass + v5.Mass)) } : GCentre) with Free := (IntKind.i64.wrap ((({ s4.1 with Mass := (IntKind.i64.wrap (s4.1.Mass + v5.Mass)) } : GCentre).Free) + v5.Free)) } : GCentre)), (4, boxE 32 GRat.rep s4.2.1), (5, boxE 32 GRat.rep s4.2.2.1), (7, boxE 24 GLoad.rep v5)]) F 59 a w := hAt
      refine then_n ?_; refine wp_seq ?_; obtain ⟨v6, hv6, H⟩ := bindE H; obtain ⟨v7, hv7, H⟩ := bindE H
      refine regd [⟨fV GRat.rep s4.2.1, [], [], [(4, none)]⟩,
          ⟨fOff 7 1, [], [], [(7, none)]⟩,
          ⟨fV r_i64 v5.Mass, [], [(30, some 1)], [(7, none)]⟩,
          ⟨fOff 7 2, [], [], [(7, none)]⟩,
          ⟨fV r_i64 v5.X, [], [(32, some 3)], [(7, none)]⟩,
          ⟨fV r_i64 (IntKind.i64.wrap (v5.Mass * v5.X)), [], [(31, some 2), (33, some 4)], []⟩,
          ⟨fV GRat.rep v6, [], [(34, some 5)], []⟩,
          ⟨fV GRat.rep v7, [], [(29, some 0), (35, some 6)], []⟩,
          ⟨Fact.triv, [(4, some (boxE 32 GRat.rep v7))], [(36, some 7)], [(4, none)]⟩] [0, 1, 2, 3, 4, 5, 6, 7, 8] [0, 1, 2, 3, 4, 5, 6, 7, 8] [11, 12, 13] [2, 3, 4, 5, 7] hAt
          ⟨ok_loadBox ty32 rfl,
          ok_fieldOwn fo24_1 rfl,
          ok_loadOwn GLoad.l1 ty3 rfl opd0,
          ok_fieldOwn fo24_2 rfl,
          ok_loadOwn GLoad.l2 ty3 rfl opd0,
          ok_mul rfl opd0 opd1,
          ok_call (ok_f_hull_whole N (IntKind.i64.wrap (v5.Mass * v5.X)) _ hv6) Try.func42 (by kernel_rfl) (by kernel_rfl) rfl ⟨opd0, trivial⟩,
          ok_call (ok_f_exact_AddRat N s4.2.1 v6 _ hv7) Try.func22 (by kernel_rfl) (by kernel_rfl) rfl ⟨opd0, ⟨opd1, trivial⟩⟩,
          ok_storeBox ty32 rfl rfl opd0, trivial⟩ (by kernel_rfl) ?_
      clear hAt; intro a w hAt
      replace hAt : At B h0 (mkG [(11, fV (Rep.slice GLoad.rep) v3), (12, fV r_i64 (List.length v3 : Int)), (13, fV r_i64 s4.2.2.2)]) (mkO [(2, boxE 54 GCentre.rep (⟨0, (⟨(⟨false, []⟩ : GInt), (⟨false, []⟩ : GInt)⟩ : GRat), (⟨(⟨false, []⟩ : GInt), (⟨false, []⟩ : GInt)⟩ : GRat), 0⟩ : GCentre)), (3, boxE 54 GCentre.rep ({ ({ s4.1 with Mass := (IntKind.i64.wrap (s4.1.Mass + v5.Mass)) } : GCentre) with Free := (IntKind.i64.wrap ((({ s4.1 with Mass := (IntKind.i64.wrap (s4.1.Mass + v5.Mass)) } : GCentre).Free) + v5.Free)) } : GCentre)), (4, boxE 32 GRat.rep v7), (5, boxE 32 GRat.rep s4.2.2.1), (7, boxE 24 GLoad.rep v5)]) F 59 a w := hAt
      refine then_n ?_; obtain ⟨v8, hv8, H⟩ := bindE H; obtain ⟨v9, hv9, H⟩ := bindE H
      refine regd [⟨fV GRat.rep s4.2.2.1, [], [], [(5, none)]⟩,
          ⟨fOff 7 1, [], [], [(7, none)]⟩,
          ⟨fV r_i64 v5.Mass, [], [(38, some 1)], [(7, none)]⟩,
          ⟨fOff 7 3, [], [], [(7, none)]⟩,
          ⟨fV r_i64 v5.Z, [], [(40, some 3)], [(7, none)]⟩,
          ⟨fV r_i64 (IntKind.i64.wrap (v5.Mass * v5.Z)), [], [(39, some 2), (41, some 4)], []⟩,
          ⟨fV GRat.rep v8, [], [(42, some 5)], []⟩,
          ⟨fV GRat.rep v9, [], [(37, some 0), (43, some 6)], []⟩,
          ⟨Fact.triv, [(5, some (boxE 32 GRat.rep v9))], [(44, some 7)], [(5, none)]⟩] [0, 1, 2, 3, 4, 5, 6, 7, 8] [0, 1, 2, 3, 4, 5, 6, 7, 8] [11, 12, 13] [2, 3, 4, 5] hAt
          ⟨ok_loadBox ty32 rfl,
          ok_fieldOwn fo24_1 rfl,
          ok_loadOwn GLoad.l1 ty3 rfl opd0,
          ok_fieldOwn fo24_3 rfl,
          ok_loadOwn GLoad.l3 ty3 rfl opd0,
          ok_mul rfl opd0 opd1,
          ok_call (ok_f_hull_whole N (IntKind.i64.wrap (v5.Mass * v5.Z)) _ hv8) Try.func42 (by kernel_rfl) (by kernel_rfl) rfl ⟨opd0, trivial⟩,
          ok_call (ok_f_exact_AddRat N s4.2.2.1 v8 _ hv9) Try.func22 (by kernel_rfl) (by kernel_rfl) rfl ⟨opd0, ⟨opd1, trivial⟩⟩,
          ok_storeBox ty32 rfl rfl opd0, trivial⟩ (by kernel_rfl) ?_
      clear hAt; intro a w hAt
      replace hAt : At B h0 (mkG [(11, fV (Rep.slice GLoad.rep) v3), (12, fV r_i64 (List.length v3 : Int)), (13, fV r_i64 s4.2.2.2)]) (mkO [(2, boxE 54 GCentre.rep (⟨0, (⟨(⟨false, []⟩ : GInt), (⟨false, []⟩ : GInt)⟩ : GRat), (⟨(⟨false, []⟩ : GInt), (⟨false, []⟩ : GInt)⟩ : GRat), 0⟩ : GCentre)), (3, boxE 54 GCentre.rep ({ ({ s4.1 with Mass := (IntKind.i64.wrap (s4.1.Mass + v5.Mass)) } : GCentre) with Free := (IntKind.i64.wrap ((({ s4.1 with Mass := (IntKind.i64.wrap (s4.1.Mass + v5.Mass)) } : GCentre).Free) + v5.Free)) } : GCentre)), (4, boxE 32 GRat.rep v7), (5, boxE 32 GRat.rep v9)]) F 59 a w := hAt
      refine blk_n ?_; refine then_n ?_
      refine reg [⟨fV r_i64 (IntKind.i64.wrap (s4.2.2.2 + 1)), [], [(13, none)], []⟩,
          ⟨fV r_i64 (IntKind.i64.wrap (s4.2.2.2 + 1)), [], [(45, some 0)], []⟩] [11, 12, 13] [2, 3, 4, 5] hAt
          ⟨ok_add rfl opd0 opdI,
          ok_move rfl opd0, trivial⟩ (by kernel_rfl) ?_
      clear hAt; intro a w hAt
      replace hAt : At B h0 (mkG [(11, fV (Rep.slice GLoad.rep) v3), (12, fV r_i64 (List.length v3 : Int)), (13, fV r_i64 (IntKind.i64.wrap (s4.2.2.2 + 1)))]) (mkO [(2, boxE 54 GCentre.rep (⟨0, (⟨(⟨false, []⟩ : GInt), (⟨false, []⟩ : GInt)⟩ : GRat), (⟨(⟨false, []⟩ : GInt), (⟨false, []⟩ : GInt)⟩ : GRat), 0⟩ : GCentre)), (3, boxE 54 GCentre.rep ({ ({ s4.1 with Mass := (IntKind.i64.wrap (s4.1.Mass + v5.Mass)) } : GCentre) with Free := (IntKind.i64.wrap ((({ s4.1 with Mass := (IntKind.i64.wrap (s4.1.Mass + v5.Mass)) } : GCentre).Free) + v5.Free)) } : GCentre)), (4, boxE 32 GRat.rep v7), (5, boxE 32 GRat.rep v9)]) F 59 a w := hAt
      cases H
      exact ⟨rfl, hAt.pick [11, 12, 13] [2, 3, 4, 5]⟩
    · intro hb10; have H := iteF hb10 H; refine wp_exit ?_; refine then_x ?_
      cases H
      exact ⟨ex_ne, rfl, hAt.pick [] [2, 3, 4, 5]⟩
  · exact hAt.pick [11, 12, 13] [2, 3, 4, 5]
  · clear hAt; intro e a w hp; obtain ⟨rfl, hAt⟩ := hp; refine blk_eq ?_; refine then_n ?_; refine wp_seq ?_; obtain ⟨v13, hv13, H⟩ := bindE H; obtain ⟨v14, hv14, H⟩ := bindE H; obtain ⟨v15, hv15, H⟩ := bindE H; obtain ⟨v16, hv16, H⟩ := bindE H
    refine regd [⟨fV GRat.rep o11.2.1, [], [], [(4, none)]⟩,
        ⟨fOff 3 0, [], [], [(3, none)]⟩,
        ⟨fV r_i64 o11.1.Mass, [], [(47, some 1)], [(3, none)]⟩,
        ⟨fV GRat.rep v13, [], [(48, some 2)], []⟩,
        ⟨fV GRat.rep v14, [], [(46, some 0), (49, some 3)], []⟩,
        ⟨fV GRat.rep o11.2.2, [], [], [(5, none)]⟩,
        ⟨fOff 3 0, [], [], [(3, none)]⟩,
        ⟨fV r_i64 o11.1.Mass, [], [(52, some 6)], [(3, none)]⟩,
        ⟨fV GRat.rep v15, [], [(53, some 7)], []⟩,
        ⟨fV GRat.rep v16, [], [(51, some 5), (54, some 8)], []⟩,
        ⟨fOff 3 1, [], [], [(3, none)]⟩,
        ⟨Fact.triv, [(3, some (boxE 54 GCentre.rep ({ o11.1 with X := v14 } : GCentre)))], [(56, some 10), (50, some 4)], [(3, none)]⟩,
        ⟨fOff 3 5, [], [], [(3, some 11)]⟩,
        ⟨Fact.triv, [(3, some (boxE 54 GCentre.rep ({ ({ o11.1 with X := v14 } : GCentre) with Z := v16 } : GCentre)))], [(57, some 12), (55, some 9)], [(3, some 11)]⟩] [0, 1, 2, 3, 4, 5, 6, 7, 8, 9, 10, 11, 12, 13] [0, 1, 2, 3, 4, 5, 6, 7, 8, 9, 10, 11, 12, 13] [] [2, 3] hAt
        ⟨ok_loadBox ty32 rfl,
        ok_fieldOwn fo54_0 rfl,
        ok_loadOwn GCentre.l0 ty3 rfl opd0,
        ok_call (ok_f_hull_whole N o11.1.Mass _ hv13) Try.func42 (by kernel_rfl) (by kernel_rfl) rfl ⟨opd0, trivial⟩,
        ok_call (ok_f_hull_over N o11.2.1 v13 _ hv14) Try.func44 (by kernel_rfl) (by kernel_rfl) rfl ⟨opd0, ⟨opd1, trivial⟩⟩,
        ok_loadBox ty32 rfl,
        ok_fieldOwn fo54_0 rfl,
        ok_loadOwn GCentre.l0 ty3 rfl opd0,
        ok_call (ok_f_hull_whole N o11.1.Mass _ hv15) Try.func42 (by kernel_rfl) (by kernel_rfl) rfl ⟨opd0, trivial⟩,
        ok_call (ok_f_hull_over N o11.2.2 v15 _ hv16) Try.func44 (by kernel_rfl) (by kernel_rfl) rfl ⟨opd0, ⟨opd1, trivial⟩⟩,
        ok_fieldOwn fo54_1 rfl,
        ok_store GCentre.l1 ty32 rfl rfl opd0 opd1 rfl,
        ok_fieldOwn fo54_2 rfl,
        ok_store GCentre.l2 ty32 rfl rfl opd0 opd1 rfl, trivial⟩ (by kernel_rfl) ?_
    clear hAt; intro a w hAt; replace hAt : At B h0 (mkG []) (mkO [(2, boxE 54 GCentre.rep (⟨0, (⟨(⟨false, []⟩ : GInt), (⟨false, []⟩ : GInt)⟩ : GRat), (⟨(⟨false, []⟩ : GInt), (⟨false, []⟩ : GInt)⟩ : GRat), 0⟩ : GCentre)), (3, boxE 54 GCentre.rep ({ ({ o11.1 with X := v14 } : GCentre) with Z := v16 } : GCentre))]) F 59 a w := hAt; refine then_n ?_; refine wp_seq ?_
    refine reg [⟨fV GCentre.rep ({ ({ o11.1 with X := v14 } : GCentre) with Z := v16 } : GCentre), [], [], [(3, none)]⟩,
        ⟨Fact.triv, [(2, some (boxE 54 GCentre.rep ({ ({ o11.1 with X := v14 } : GCentre) with Z := v16 } : GCentre)))], [(58, some 0)], [(2, none)]⟩] [] [2] hAt
        ⟨ok_loadBox ty54 rfl,
        ok_storeBox ty54 rfl rfl opd0, trivial⟩ (by kernel_rfl) ?_
    clear hAt; intro a w hAt; replace hAt : At B h0 (mkG []) (mkO [(2, boxE 54 GCentre.rep ({ ({ o11.1 with X := v14 } : GCentre) with Z := v16 } : GCentre))]) F 59 a w := hAt; refine then_n ?_; refine wp_ret ?_
    cases H
    exact ret1 rfl (rv_cell ty54 rfl) hAt
theorem ok_f_hull_Stability (N : Nat) (x0 : GShip) (x1 : GAttitude) (x2 : GRaised) (r : GStable × Int) (H : f_hull_Stability N x0 x1 x2 = some r) : FnOk Try.prog 13 [fV GShip.rep x0, fV GAttitude.rep x1, fV GRaised.rep x2] (fT2 (fV GStable.rep (r.1)) (fV r_i64 (r.2))) := by
  unfold f_hull_Stability at H; refine fn_enter Try.func13 rfl rfl (by kernel_rfl) ?_; intro κ B h0 F a w hAt; refine wp_seq ?_
  refine reg [⟨fRef GShip.rep x0, [], [(0, none)], []⟩,
      ⟨fRef GAttitude.rep x1, [], [(1, none)], []⟩,
      ⟨fRef GRaised.rep x2, [], [(2, none)], []⟩,
      ⟨Fact.triv, [(6, some (boxE 48 GStable.rep (⟨(⟨(⟨false, []⟩ : GInt), (⟨false, []⟩ : GInt)⟩ : GRat), (⟨(⟨false, []⟩ : GInt), (⟨false, []⟩ : GInt)⟩ : GRat), (⟨(⟨false, []⟩ : GInt), (⟨false, []⟩ : GInt)⟩ : GRat), (⟨(⟨false, []⟩ : GInt), (⟨false, []⟩ : GInt)⟩ : GRat)⟩ : GStable)))], [], []⟩,
      ⟨fV r_i64 0, [], [], []⟩] [3, 4, 5] [6] hAt
      ⟨ok_box rfl opd0,
      ok_box rfl opd0,
      ok_box rfl opd0,
      ok_alloc ty48 rfl rfl,
      ok_assign rfl opdI, trivial⟩ (by kernel_rfl) ?_
  clear hAt; intro a w hAt
  replace hAt : At B h0 (mkG [(3, fRef GShip.rep x0), (4, fRef GAttitude.rep x1), (5, fRef GRaised.rep x2)]) (mkO [(6, boxE 48 GStable.rep (⟨(⟨(⟨false, []⟩ : GInt), (⟨false, []⟩ : GInt)⟩ : GRat), (⟨(⟨false, []⟩ : GInt), (⟨false, []⟩ : GInt)⟩ : GRat), (⟨(⟨false, []⟩ : GInt), (⟨false, []⟩ : GInt)⟩ : GRat), (⟨(⟨false, []⟩ : GInt), (⟨false, []⟩ : GInt)⟩ : GRat)⟩ : GStable))]) F 84 a w := hAt
  refine then_n ?_; refine wp_seq ?_; refine wp_seq ?_; obtain ⟨v1, hv1, H⟩ := bindE H
  refine reg [⟨fV GShip.rep x0, [], [(3, none)], []⟩,
      ⟨fRef r_i64 x2.Density, [], [(5, none)], []⟩,
      ⟨fV r_i64 x2.Density, [], [(15, some 1)], []⟩,
      ⟨fV r_i64 v1, [], [(14, some 0), (16, some 2)], []⟩,
      ⟨fV r_i64 v1, [], [(17, some 3)], []⟩] [3, 4, 5, 8] [6] hAt
      ⟨ok_load ty27 rfl opd0,
      ok_field GRaised.l0 fo52_0 rfl opd0,
      ok_load ty3 rfl opd0,
      ok_call (ok_f_hull_floated N x0 x2.Density _ hv1) Try.func39 (by kernel_rfl) (by kernel_rfl) rfl ⟨opd0, ⟨opd1, trivial⟩⟩,
      ok_assign rfl opd0, trivial⟩ (by kernel_rfl) ?_
  clear hAt; intro a w hAt
  replace hAt : At B h0 (mkG [(3, fRef GShip.rep x0), (4, fRef GAttitude.rep x1), (5, fRef GRaised.rep x2), (8, fV r_i64 v1)]) (mkO [(6, boxE 48 GStable.rep (⟨(⟨(⟨false, []⟩ : GInt), (⟨false, []⟩ : GInt)⟩ : GRat), (⟨(⟨false, []⟩ : GInt), (⟨false, []⟩ : GInt)⟩ : GRat), (⟨(⟨false, []⟩ : GInt), (⟨false, []⟩ : GInt)⟩ : GRat), (⟨(⟨false, []⟩ : GInt), (⟨false, []⟩ : GInt)⟩ : GRat)⟩ : GStable))]) F 84 a w := hAt
  refine then_n ?_; refine wp_seq ?_
  refine reg [⟨fV r_i64 v1, [], [(8, none)], []⟩,
      ⟨fV Rep.bool (cmpI .neq v1 0), [], [(18, some 0)], []⟩] [3, 4, 5, 8, 19] [6] hAt
      ⟨ok_move rfl opd0,
      ok_cmp (op := .neq) (by simp) rfl rfl opd0 opdI, trivial⟩ (by kernel_rfl) ?_
  clear hAt; intro a w hAt
  replace hAt : At B h0 (mkG [(3, fRef GShip.rep x0), (4, fRef GAttitude.rep x1), (5, fRef GRaised.rep x2), (8, fV r_i64 v1), (19, fV Rep.bool (cmpI .neq v1 0))]) (mkO [(6, boxE 48 GStable.rep (⟨(⟨(⟨false, []⟩ : GInt), (⟨false, []⟩ : GInt)⟩ : GRat), (⟨(⟨false, []⟩ : GInt), (⟨false, []⟩ : GInt)⟩ : GRat), (⟨(⟨false, []⟩ : GInt), (⟨false, []⟩ : GInt)⟩ : GRat), (⟨(⟨false, []⟩ : GInt), (⟨false, []⟩ : GInt)⟩ : GRat)⟩ : GStable))]) F 84 a w := hAt
  refine then_n ?_; refine wp_if hAt (by rfl) ?_ ?_
  · intro hb21; have H := iteT hb21 H; refine wp_seq ?_
    refine reg [⟨fV GStable.rep (⟨(⟨(⟨false, []⟩ : GInt), (⟨false, []⟩ : GInt)⟩ : GRat), (⟨(⟨false, []⟩ : GInt), (⟨false, []⟩ : GInt)⟩ : GRat), (⟨(⟨false, []⟩ : GInt), (⟨false, []⟩ : GInt)⟩ : GRat), (⟨(⟨false, []⟩ : GInt), (⟨false, []⟩ : GInt)⟩ : GRat)⟩ : GStable), [], [], []⟩,
        ⟨fV r_i64 v1, [], [(8, none)], []⟩,
        ⟨Fact.triv, [(6, some (boxE 48 GStable.rep (⟨(⟨(⟨false, []⟩ : GInt), (⟨false, []⟩ : GInt)⟩ : GRat), (⟨(⟨false, []⟩ : GInt), (⟨false, []⟩ : GInt)⟩ : GRat), (⟨(⟨false, []⟩ : GInt), (⟨false, []⟩ : GInt)⟩ : GRat), (⟨(⟨false, []⟩ : GInt), (⟨false, []⟩ : GInt)⟩ : GRat)⟩ : GStable)))], [(20, some 0)], [(6, none)]⟩,
        ⟨fV r_i64 v1, [], [(21, some 1)], []⟩] [7] [6] hAt
        ⟨ok_build ty48 rfl pl48 rfl fillN,
        ok_move rfl opd0,
        ok_storeBox ty48 rfl rfl opd0,
        ok_assign rfl opd0, trivial⟩ (by kernel_rfl) ?_
    clear hAt; intro a w hAt; replace hAt : At B h0 (mkG [(7, fV r_i64 v1)]) (mkO [(6, boxE 48 GStable.rep (⟨(⟨(⟨false, []⟩ : GInt), (⟨false, []⟩ : GInt)⟩ : GRat), (⟨(⟨false, []⟩ : GInt), (⟨false, []⟩ : GInt)⟩ : GRat), (⟨(⟨false, []⟩ : GInt), (⟨false, []⟩ : GInt)⟩ : GRat), (⟨(⟨false, []⟩ : GInt), (⟨false, []⟩ : GInt)⟩ : GRat)⟩ : GStable))]) F 84 a w := hAt; refine then_n ?_; refine wp_ret ?_
    refine then_r ?_
    cases H
    exact ret2 rfl (rv_cell ty48 rfl) (rv_tmp rfl rfl) hAt
  · intro hb21; have H := iteF hb21 H; refine wp_skip ?_; refine then_n ?_; refine wp_seq ?_; obtain ⟨v2, hv2, H⟩ := bindE H
    refine reg [⟨fV GShip.rep x0, [], [(3, none)], []⟩,
        ⟨fV GAttitude.rep x1, [], [(4, none)], []⟩,
        ⟨fRef r_i64 x2.Density, [], [(5, none)], []⟩,
        ⟨fV r_i64 x2.Density, [], [(25, some 2)], []⟩,
        ⟨fT2 (fV GHydro.rep v2.1) (fV Rep.bool v2.2), [], [(23, some 0), (24, some 1), (26, some 3)], []⟩,
        ⟨fT2 (fV GHydro.rep v2.1) (fV Rep.bool v2.2), [], [(27, some 4)], []⟩,
        ⟨fV GHydro.rep v2.1, [], [(22, some 5)], []⟩,
        ⟨fV Rep.bool v2.2, [], [(22, some 5)], []⟩,
        ⟨Fact.triv, [(9, some (boxE 65 GHydro.rep (⟨(⟨(⟨false, []⟩ : GInt), (⟨false, []⟩ : GInt)⟩ : GRat), (⟨(⟨false, []⟩ : GInt), (⟨false, []⟩ : GInt)⟩ : GRat), (⟨(⟨false, []⟩ : GInt), (⟨false, []⟩ : GInt)⟩ : GRat), (⟨(⟨false, []⟩ : GInt), (⟨false, []⟩ : GInt)⟩ : GRat), (⟨(⟨false, []⟩ : GInt), (⟨false, []⟩ : GInt)⟩ : GRat), (⟨(⟨false, []⟩ : GInt), (⟨false, []⟩ : GInt)⟩ : GRat), (⟨(⟨false, []⟩ : GInt), (⟨false, []⟩ : GInt)⟩ : GRat), (⟨(⟨false, []⟩ : GInt), (⟨false, []⟩ : GInt)⟩ : GRat), (⟨(⟨false, []⟩ : GInt), (⟨false, []⟩ : GInt)⟩ : GRat)⟩ : GHydro)))], [], []⟩,
        ⟨Fact.triv, [(9, some (boxE 65 GHydro.rep v2.1))], [(28, some 6)], [(9, some 8)]⟩,
        ⟨fV Rep.bool v2.2, [], [(29, some 7)], []⟩] [3, 5, 10] [6, 9] hAt
        ⟨ok_load ty27 rfl opd0,
        ok_load ty34 rfl opd0,
        ok_field GRaised.l0 fo52_0 rfl opd0,
        ok_load ty3 rfl opd0,
        ok_call (ok_f_hull_hydrostatics N x0 x1 x2.Density _ hv2) Try.func40 (by kernel_rfl) (by kernel_rfl) rfl ⟨opd0, ⟨opd1, ⟨opd2, trivial⟩⟩⟩,
        ok_move rfl opd0,
        ok_ext20 rfl rfl opd0,
        ok_ext21 rfl rfl opd0,
        ok_alloc ty65 rfl rfl,
        ok_storeBox ty65 rfl rfl opd0,
        ok_assign rfl opd0, trivial⟩ (by kernel_rfl) ?_
    clear hAt; intro a w hAt
    replace hAt : At B h0 (mkG [(3, fRef GShip.rep x0), (5, fRef GRaised.rep x2), (10, fV Rep.bool v2.2)]) (mkO [(6, boxE 48 GStable.rep (⟨(⟨(⟨false, []⟩ : GInt), (⟨false, []⟩ : GInt)⟩ : GRat), (⟨(⟨false, []⟩ : GInt), (⟨false, []⟩ : GInt)⟩ : GRat), (⟨(⟨false, []⟩ : GInt), (⟨false, []⟩ : GInt)⟩ : GRat), (⟨(⟨false, []⟩ : GInt), (⟨false, []⟩ : GInt)⟩ : GRat)⟩ : GStable)), (9, boxE 65 GHydro.rep v2.1)]) F 84 a w := hAt
    refine then_n ?_; refine wp_seq ?_; refine wp_seq ?_
    refine reg [⟨fV Rep.bool v2.2, [], [(10, none)], []⟩,
        ⟨fV Rep.bool (!v2.2), [], [(30, some 0)], []⟩] [3, 5, 31] [6, 9] hAt
        ⟨ok_move rfl opd0,
        ok_not rfl opd0, trivial⟩ (by kernel_rfl) ?_
    clear hAt; intro a w hAt
    replace hAt : At B h0 (mkG [(3, fRef GShip.rep x0), (5, fRef GRaised.rep x2), (31, fV Rep.bool (!v2.2))]) (mkO [(6, boxE 48 GStable.rep (⟨(⟨(⟨false, []⟩ : GInt), (⟨false, []⟩ : GInt)⟩ : GRat), (⟨(⟨false, []⟩ : GInt), (⟨false, []⟩ : GInt)⟩ : GRat), (⟨(⟨false, []⟩ : GInt), (⟨false, []⟩ : GInt)⟩ : GRat), (⟨(⟨false, []⟩ : GInt), (⟨false, []⟩ : GInt)⟩ : GRat)⟩ : GStable)), (9, boxE 65 GHydro.rep v2.1)]) F 84 a w := hAt
    refine then_n ?_; refine wp_if hAt (by rfl) ?_ ?_
    · intro hb20; have H := iteT hb20 H; refine wp_seq ?_
      refine reg [⟨fV GStable.rep (⟨(⟨(⟨false, []⟩ : GInt), (⟨false, []⟩ : GInt)⟩ : GRat), (⟨(⟨false, []⟩ : GInt), (⟨false, []⟩ : GInt)⟩ : GRat), (⟨(⟨false, []⟩ : GInt), (⟨false, []⟩ : GInt)⟩ : GRat), (⟨(⟨false, []⟩ : GInt), (⟨false, []⟩ : GInt)⟩ : GRat)⟩ : GStable), [], [], []⟩,
          ⟨Fact.triv, [(6, some (boxE 48 GStable.rep (⟨(⟨(⟨false, []⟩ : GInt), (⟨false, []⟩ : GInt)⟩ : GRat), (⟨(⟨false, []⟩ : GInt), (⟨false, []⟩ : GInt)⟩ : GRat), (⟨(⟨false, []⟩ : GInt), (⟨false, []⟩ : GInt)⟩ : GRat), (⟨(⟨false, []⟩ : GInt), (⟨false, []⟩ : GInt)⟩ : GRat)⟩ : GStable)))], [(32, some 0)], [(6, none)]⟩,
          ⟨fV r_i64 29, [], [], []⟩] [7] [6] hAt
          ⟨ok_build ty48 rfl pl48 rfl fillN,
          ok_storeBox ty48 rfl rfl opd0,
          ok_assign rfl opdI, trivial⟩ (by kernel_rfl) ?_
      clear hAt; intro a w hAt; replace hAt : At B h0 (mkG [(7, fV r_i64 29)]) (mkO [(6, boxE 48 GStable.rep (⟨(⟨(⟨false, []⟩ : GInt), (⟨false, []⟩ : GInt)⟩ : GRat), (⟨(⟨false, []⟩ : GInt), (⟨false, []⟩ : GInt)⟩ : GRat), (⟨(⟨false, []⟩ : GInt), (⟨false, []⟩ : GInt)⟩ : GRat), (⟨(⟨false, []⟩ : GInt), (⟨false, []⟩ : GInt)⟩ : GRat)⟩ : GStable))]) F 84 a w := hAt; refine then_n ?_; refine wp_ret ?_
      refine then_r ?_
      cases H
      exact ret2 rfl (rv_cell ty48 rfl) (rv_tmp rfl rfl) hAt
    · intro hb20; have H := iteF hb20 H; refine wp_skip ?_; refine then_n ?_; refine wp_seq ?_; obtain ⟨v3, hv3, H⟩ := bindE H
      refine reg [⟨fV GShip.rep x0, [], [(3, none)], []⟩,
          ⟨fV GCentre.rep v3, [], [(33, some 0)], []⟩,
          ⟨Fact.triv, [(11, some (boxE 54 GCentre.rep (⟨0, (⟨(⟨false, []⟩ : GInt), (⟨false, []⟩ : GInt)⟩ : GRat), (⟨(⟨false, []⟩ : GInt), (⟨false, []⟩ : GInt)⟩ : GRat), 0⟩ : GCentre)))], [], []⟩,
          ⟨Fact.triv, [(11, some (boxE 54 GCentre.rep v3))], [(34, some 1)], [(11, some 2)]⟩] [5] [6, 9, 11] hAt
          ⟨ok_load ty27 rfl opd0,
          ok_call (ok_f_hull_total N x0 _ hv3) Try.func41 (by kernel_rfl) (by kernel_rfl) rfl ⟨opd0, trivial⟩,
          ok_alloc ty54 rfl rfl,
          ok_storeBox ty54 rfl rfl opd0, trivial⟩ (by kernel_rfl) ?_
      clear hAt; intro a w hAt
      replace hAt : At B h0 (mkG [(5, fRef GRaised.rep x2)]) (mkO [(6, boxE 48 GStable.rep (⟨(⟨(⟨false, []⟩ : GInt), (⟨false, []⟩ : GInt)⟩ : GRat), (⟨(⟨false, []⟩ : GInt), (⟨false, []⟩ : GInt)⟩ : GRat), (⟨(⟨false, []⟩ : GInt), (⟨false, []⟩ : GInt)⟩ : GRat), (⟨(⟨false, []⟩ : GInt), (⟨false, []⟩ : GInt)⟩ : GRat)⟩ : GStable)), (9, boxE 65 GHydro.rep v2.1), (11, boxE 54 GCentre.rep v3)]) F 84 a w := hAt
      refine then_n ?_; refine wp_seq ?_; obtain ⟨v4, hv4, H⟩ := bindE H; obtain ⟨v5, hv5, H⟩ := bindE H
      refine regd [⟨fOff 11 0, [], [], [(11, none)]⟩,
          ⟨fV r_i64 v3.Mass, [], [(35, some 0)], [(11, none)]⟩,
          ⟨fV GRat.rep v4, [], [(36, some 1)], []⟩,
          ⟨fRef GRat.rep x2.Upthrust, [], [(5, none)], []⟩,
          ⟨fV GRat.rep x2.Upthrust, [], [(38, some 3)], []⟩,
          ⟨fV GRat.rep v5, [], [(37, some 2), (39, some 4)], []⟩,
          ⟨Fact.triv, [(12, some (boxE 32 GRat.rep (⟨(⟨false, []⟩ : GInt), (⟨false, []⟩ : GInt)⟩ : GRat)))], [], []⟩,
          ⟨Fact.triv, [(12, some (boxE 32 GRat.rep v5))], [(40, some 5)], [(12, some 6)]⟩] [0, 1, 2, 3, 4, 5, 6, 7] [0, 1, 2, 3, 4, 5, 6, 7] [5] [6, 9, 11, 12] hAt
          ⟨ok_fieldOwn fo54_0 rfl,
          ok_loadOwn GCentre.l0 ty3 rfl opd0,
          ok_call (ok_f_hull_whole N v3.Mass _ hv4) Try.func42 (by kernel_rfl) (by kernel_rfl) rfl ⟨opd0, trivial⟩,
          ok_field GRaised.l1 fo52_1 rfl opd0,
          ok_load ty32 rfl opd0,
          ok_call (ok_f_exact_SubRat N v4 x2.Upthrust _ hv5) Try.func27 (by kernel_rfl) (by kernel_rfl) rfl ⟨opd0, ⟨opd1, trivial⟩⟩,
          ok_alloc ty32 rfl rfl,
          ok_storeBox ty32 rfl rfl opd0, trivial⟩ (by kernel_rfl) ?_
      clear hAt; intro a w hAt
      replace hAt : At B h0 (mkG [(5, fRef GRaised.rep x2)]) (mkO [(6, boxE 48 GStable.rep (⟨(⟨(⟨false, []⟩ : GInt), (⟨false, []⟩ : GInt)⟩ : GRat), (⟨(⟨false, []⟩ : GInt), (⟨false, []⟩ : GInt)⟩ : GRat), (⟨(⟨false, []⟩ : GInt), (⟨false, []⟩ : GInt)⟩ : GRat), (⟨(⟨false, []⟩ : GInt), (⟨false, []⟩ : GInt)⟩ : GRat)⟩ : GStable)), (9, boxE 65 GHydro.rep v2.1), (11, boxE 54 GCentre.rep v3), (12, boxE 32 GRat.rep v5)]) F 84 a w := hAt
      refine then_n ?_; refine wp_seq ?_; refine wp_seq ?_; obtain ⟨v6, hv6, H⟩ := bindE H; obtain ⟨v7, hv7, H⟩ := bindE H; obtain ⟨v8, hv8, H⟩ := bindE H; obtain ⟨v9, hv9, H⟩ := bindE H
      refine regd [⟨fRef GRat.rep x2.Upthrust, [], [(5, none)], []⟩,
          ⟨fV GRat.rep x2.Upthrust, [], [(41, some 0)], []⟩,
          ⟨fV GRat.rep v6, [], [], []⟩,
          ⟨fV r_i64 v7, [], [(42, some 1), (43, some 2)], []⟩,
          ⟨fV Rep.bool (cmpI .lss v7 0), [], [(44, some 3)], []⟩,
          ⟨fV Rep.bool (cmpI .lss v7 0), [], [(45, some 4)], []⟩,
          ⟨Fact.when ((!(cmpI .lss v7 0)) = true) (fV GRat.rep v5), [], [(46, some 5)], [(12, none)]⟩,
          ⟨Fact.when ((!(cmpI .lss v7 0)) = true) (fV GRat.rep v8), [], [(46, some 5)], []⟩,
          ⟨Fact.when ((!(cmpI .lss v7 0)) = true) (fV r_i64 v9), [], [(46, some 5), (47, some 6), (48, some 7)], []⟩,
          ⟨Fact.when ((!(cmpI .lss v7 0)) = true) (fV Rep.bool (cmpI .leq v9 0)), [], [(46, some 5), (49, some 8)], []⟩,
          ⟨fV Rep.bool ((cmpI .lss v7 0) || (cmpI .leq v9 0)), [], [(46, some 5), (50, some 9)], []⟩] [0, 1, 2, 3, 4, 5, 6, 7, 8, 9, 10] [0, 1, 2, 3, 4, 5, 6, 7, 8, 9, 10] [51] [6, 9, 11, 12] hAt
          ⟨ok_field GRaised.l1 fo52_1 rfl opd0,
          ok_load ty32 rfl opd0,
          ok_call (ok_f_hull_whole N 0 _ hv6) Try.func42 (by kernel_rfl) (by kernel_rfl) rfl ⟨opdI, trivial⟩,
          ok_call (ok_f_exact_CmpRat N x2.Upthrust v6 _ hv7) Try.func24 (by kernel_rfl) (by kernel_rfl) rfl ⟨opd0, ⟨opd1, trivial⟩⟩,
          ok_cmp (op := .lss) (by simp) rfl rfl opd0 opdI,
          ok_move rfl opd0,
          obl_tf rfl rfl rfl rfl rfl rfl rfl (fun hg => ok_loadBox ty32 rfl),
          obl_tf rfl rfl rfl rfl rfl rfl rfl (fun hg => ok_call (ok_f_hull_whole N 0 _ (iteT hg hv8)) Try.func42 (by kernel_rfl) (by kernel_rfl) rfl ⟨opdI, trivial⟩),
          obl_tf rfl rfl rfl rfl rfl rfl rfl (fun hg => ok_call (ok_f_exact_CmpRat N v5 v8 _ (iteT hg hv9)) Try.func24 (by kernel_rfl) (by kernel_rfl) rfl ⟨(opd1.on hg), ⟨(opd2.on hg), trivial⟩⟩),
          obl_tf rfl rfl rfl rfl rfl rfl rfl (fun hg => ok_cmp (op := .leq) (by simp) rfl rfl (opd1.on hg) opdI),
          ok_or rfl opd0 (fun e => (opd1.on (notT e))), trivial⟩ (by kernel_rfl) ?_
      clear hAt; intro a w hAt
      replace hAt : At B h0 (mkG [(51, fV Rep.bool ((cmpI .lss v7 0) || (cmpI .leq v9 0)))]) (mkO [(6, boxE 48 GStable.rep (⟨(⟨(⟨false, []⟩ : GInt), (⟨false, []⟩ : GInt)⟩ : GRat), (⟨(⟨false, []⟩ : GInt), (⟨false, []⟩ : GInt)⟩ : GRat), (⟨(⟨false, []⟩ : GInt), (⟨false, []⟩ : GInt)⟩ : GRat), (⟨(⟨false, []⟩ : GInt), (⟨false, []⟩ : GInt)⟩ : GRat)⟩ : GStable)), (9, boxE 65 GHydro.rep v2.1), (11, boxE 54 GCentre.rep v3), (12, boxE 32 GRat.rep v5)]) F 84 a w := hAt
      refine then_n ?_; refine wp_if hAt (by rfl) ?_ ?_
      · intro hb19; have H := iteT hb19 H; refine wp_seq ?_
        refine reg [⟨fV GStable.rep (⟨(⟨(⟨false, []⟩ : GInt), (⟨false, []⟩ : GInt)⟩ : GRat), (⟨(⟨false, []⟩ : GInt), (⟨false, []⟩ : GInt)⟩ : GRat), (⟨(⟨false, []⟩ : GInt), (⟨false, []⟩ : GInt)⟩ : GRat), (⟨(⟨false, []⟩ : GInt), (⟨false, []⟩ : GInt)⟩ : GRat)⟩ : GStable), [], [], []⟩,
            ⟨Fact.triv, [(6, some (boxE 48 GStable.rep (⟨(⟨(⟨false, []⟩ : GInt), (⟨false, []⟩ : GInt)⟩ : GRat), (⟨(⟨false, []⟩ : GInt), (⟨false, []⟩ : GInt)⟩ : GRat), (⟨(⟨false, []⟩ : GInt), (⟨false, []⟩ : GInt)⟩ : GRat), (⟨(⟨false, []⟩ : GInt), (⟨false, []⟩ : GInt)⟩ : GRat)⟩ : GStable)))], [(52, some 0)], [(6, none)]⟩,
            ⟨fV r_i64 16, [], [], []⟩] [7] [6] hAt
            ⟨ok_build ty48 rfl pl48 rfl fillN,
            ok_storeBox ty48 rfl rfl opd0,
            ok_assign rfl opdI, trivial⟩ (by kernel_rfl) ?_
        clear hAt; intro a w hAt; replace hAt : At B h0 (mkG [(7, fV r_i64 16)]) (mkO [(6, boxE 48 GStable.rep (⟨(⟨(⟨false, []⟩ : GInt), (⟨false, []⟩ : GInt)⟩ : GRat), (⟨(⟨false, []⟩ : GInt), (⟨false, []⟩ : GInt)⟩ : GRat), (⟨(⟨false, []⟩ : GInt), (⟨false, []⟩ : GInt)⟩ : GRat), (⟨(⟨false, []⟩ : GInt), (⟨false, []⟩ : GInt)⟩ : GRat)⟩ : GStable))]) F 84 a w := hAt; refine then_n ?_; refine wp_ret ?_
        refine then_r ?_
        cases H
        exact ret2 rfl (rv_cell ty48 rfl) (rv_tmp rfl rfl) hAt
      · intro hb19; have H := iteF hb19 H; refine wp_skip ?_; refine then_n ?_; refine wp_seq ?_; obtain ⟨v10, hv10, H⟩ := bindE H; obtain ⟨v11, hv11, H⟩ := bindE H; obtain ⟨v12, hv12, H⟩ := bindE H; obtain ⟨v13, hv13, H⟩ := bindE H; obtain ⟨v14, hv14, H⟩ := bindE H; obtain ⟨v15, hv15, H⟩ := bindE H
        refine regd [⟨fV GRat.rep v5, [], [], [(12, none)]⟩,
            ⟨fOff 9 32, [], [], [(9, none)]⟩,
            ⟨fV GRat.rep v2.1.Meta, [], [(54, some 1)], [(9, none)]⟩,
            ⟨fV (Rep.slice GRat.rep) [v5, v2.1.Meta], [], [(53, some 0), (55, some 2)], []⟩,
            ⟨fV GRat.rep v10, [], [(56, some 3)], []⟩,
            ⟨fOff 11 0, [], [], [(11, none)]⟩,
            ⟨fV r_i64 v3.Mass, [], [(58, some 5)], [(11, none)]⟩,
            ⟨fV GRat.rep v11, [], [(59, some 6)], []⟩,
            ⟨fOff 11 5, [], [], [(11, none)]⟩,
            ⟨fV GRat.rep v3.Z, [], [(61, some 8)], [(11, none)]⟩,
            ⟨fV (Rep.slice GRat.rep) [v11, v3.Z], [], [(60, some 7), (62, some 9)], []⟩,
            ⟨fV GRat.rep v12, [], [(63, some 10)], []⟩,
            ⟨fV GRat.rep v13, [], [(57, some 4), (64, some 11)], []⟩,
            ⟨fOff 11 9, [], [], [(11, none)]⟩,
            ⟨fV r_i64 v3.Free, [], [(66, some 13)], [(11, none)]⟩,
            ⟨fV r_i64 (IntKind.i64.wrap (1000 * v3.Free)), [], [(67, some 14)], []⟩,
            ⟨fV GRat.rep v14, [], [(68, some 15)], []⟩,
            ⟨fV GRat.rep v15, [], [(65, some 12), (69, some 16)], []⟩,
            ⟨Fact.triv, [(13, some (boxE 32 GRat.rep (⟨(⟨false, []⟩ : GInt), (⟨false, []⟩ : GInt)⟩ : GRat)))], [], []⟩,
            ⟨Fact.triv, [(13, some (boxE 32 GRat.rep v15))], [(70, some 17)], [(13, some 18)]⟩] [0, 1, 2, 3, 4, 5, 6, 7, 8, 9, 10, 11, 12, 13, 14, 15, 16, 17, 18, 19] [0, 1, 2, 3, 4, 5, 6, 7, 8, 9, 10, 11, 12, 13, 14, 15, 16, 17, 18, 19] [] [6, 9, 11, 12, 13] hAt
            ⟨ok_loadBox ty32 rfl,
            ok_fieldOwn fo65_8 rfl,
            ok_loadOwn GHydro.l8 ty32 rfl opd0,
            ok_buildSlice ty32 un126 rfl rfl (fillC (Lens.arr _ _ 0 (by decide)) rfl opd0 (fillC (Lens.arr _ _ 1 (by decide)) rfl opd1 fillN)),
            ok_call (ok_f_hull_times N [v5, v2.1.Meta] _ hv10) Try.func43 (by kernel_rfl) (by kernel_rfl) rfl ⟨opd0, trivial⟩,
            ok_fieldOwn fo54_0 rfl,
            ok_loadOwn GCentre.l0 ty3 rfl opd0,
            ok_call (ok_f_hull_whole N v3.Mass _ hv11) Try.func42 (by kernel_rfl) (by kernel_rfl) rfl ⟨opd0, trivial⟩,
            ok_fieldOwn fo54_2 rfl,
            ok_loadOwn GCentre.l2 ty32 rfl opd0,
            ok_buildSlice ty32 un126 rfl rfl (fillC (Lens.arr _ _ 0 (by decide)) rfl opd0 (fillC (Lens.arr _ _ 1 (by decide)) rfl opd1 fillN)),
            ok_call (ok_f_hull_times N [v11, v3.Z] _ hv12) Try.func43 (by kernel_rfl) (by kernel_rfl) rfl ⟨opd0, trivial⟩,
            ok_call (ok_f_exact_SubRat N v10 v12 _ hv13) Try.func27 (by kernel_rfl) (by kernel_rfl) rfl ⟨opd0, ⟨opd1, trivial⟩⟩,
            ok_fieldOwn fo54_3 rfl,
            ok_loadOwn GCentre.l3 ty3 rfl opd0,
            ok_mul rfl opdI opd0,
            ok_call (ok_f_hull_whole N (IntKind.i64.wrap (1000 * v3.Free)) _ hv14) Try.func42 (by kernel_rfl) (by kernel_rfl) rfl ⟨opd0, trivial⟩,
            ok_call (ok_f_exact_SubRat N v13 v14 _ hv15) Try.func27 (by kernel_rfl) (by kernel_rfl) rfl ⟨opd0, ⟨opd1, trivial⟩⟩,
            ok_alloc ty32 rfl rfl,
            ok_storeBox ty32 rfl rfl opd0, trivial⟩ (by kernel_rfl) ?_
        clear hAt; intro a w hAt
        replace hAt : At B h0 (mkG []) (mkO [(6, boxE 48 GStable.rep (⟨(⟨(⟨false, []⟩ : GInt), (⟨false, []⟩ : GInt)⟩ : GRat), (⟨(⟨false, []⟩ : GInt), (⟨false, []⟩ : GInt)⟩ : GRat), (⟨(⟨false, []⟩ : GInt), (⟨false, []⟩ : GInt)⟩ : GRat), (⟨(⟨false, []⟩ : GInt), (⟨false, []⟩ : GInt)⟩ : GRat)⟩ : GStable)), (9, boxE 65 GHydro.rep v2.1), (11, boxE 54 GCentre.rep v3), (12, boxE 32 GRat.rep v5), (13, boxE 32 GRat.rep v15)]) F 84 a w := hAt
        refine then_n ?_; refine wp_seq ?_; obtain ⟨v16, hv16, H⟩ := bindE H; obtain ⟨v17, hv17, H⟩ := bindE H; obtain ⟨v18, hv18, H⟩ := bindE H
        refine regd [⟨fOff 9 32, [], [], [(9, none)]⟩,
            ⟨fV GRat.rep v2.1.Meta, [], [(71, some 0)], [(9, none)]⟩,
            ⟨fOff 11 5, [], [], [(11, none)]⟩,
            ⟨fV GRat.rep v3.Z, [], [(73, some 2)], [(11, none)]⟩,
            ⟨fV GRat.rep v15, [], [], [(13, none)]⟩,
            ⟨fOff 11 0, [], [], [(11, none)]⟩,
            ⟨fV r_i64 v3.Mass, [], [(76, some 5)], [(11, none)]⟩,
            ⟨fV GRat.rep v16, [], [(77, some 6)], []⟩,
            ⟨fV GRat.rep v17, [], [(75, some 4), (78, some 7)], []⟩,
            ⟨fV GRat.rep v15, [], [], [(13, none)]⟩,
            ⟨fV GRat.rep v5, [], [], [(12, none)]⟩,
            ⟨fV GRat.rep v18, [], [(80, some 9), (81, some 10)], []⟩,
            ⟨fV GStable.rep (⟨v2.1.Meta, v3.Z, v17, v18⟩ : GStable), [], [(72, some 1), (74, some 3), (79, some 8), (82, some 11)], []⟩,
            ⟨Fact.triv, [(6, some (boxE 48 GStable.rep (⟨v2.1.Meta, v3.Z, v17, v18⟩ : GStable)))], [(83, some 12)], [(6, none)]⟩,
            ⟨fV r_i64 0, [], [], []⟩] [0, 1, 2, 3, 4, 5, 6, 7, 8, 9, 10, 11, 12, 13, 14] [0, 1, 2, 3, 4, 5, 6, 7, 8, 9, 10, 11, 12, 13, 14] [7] [6] hAt
            ⟨ok_fieldOwn fo65_8 rfl,
            ok_loadOwn GHydro.l8 ty32 rfl opd0,
            ok_fieldOwn fo54_2 rfl,
            ok_loadOwn GCentre.l2 ty32 rfl opd0,
            ok_loadBox ty32 rfl,
            ok_fieldOwn fo54_0 rfl,
            ok_loadOwn GCentre.l0 ty3 rfl opd0,
            ok_call (ok_f_hull_whole N v3.Mass _ hv16) Try.func42 (by kernel_rfl) (by kernel_rfl) rfl ⟨opd0, trivial⟩,
            ok_call (ok_f_hull_over N v15 v16 _ hv17) Try.func44 (by kernel_rfl) (by kernel_rfl) rfl ⟨opd0, ⟨opd1, trivial⟩⟩,
            ok_loadBox ty32 rfl,
            ok_loadBox ty32 rfl,
            ok_call (ok_f_hull_over N v15 v5 _ hv18) Try.func44 (by kernel_rfl) (by kernel_rfl) rfl ⟨opd0, ⟨opd1, trivial⟩⟩,
            ok_build ty48 rfl pl48 rfl (fillC GStable.l0 rfl opd0 (fillC GStable.l1 rfl opd1 (fillC GStable.l2 rfl opd2 (fillC GStable.l3 rfl opd3 fillN)))),
            ok_storeBox ty48 rfl rfl opd0,
            ok_assign rfl opdI, trivial⟩ (by kernel_rfl) ?_
        clear hAt; intro a w hAt; replace hAt : At B h0 (mkG [(7, fV r_i64 0)]) (mkO [(6, boxE 48 GStable.rep (⟨v2.1.Meta, v3.Z, v17, v18⟩ : GStable))]) F 84 a w := hAt; refine then_n ?_; refine wp_ret ?_
        cases H
        exact ret2 rfl (rv_cell ty48 rfl) (rv_tmp rfl rfl) hAt
theorem ok_f_base_SameInt (N : Nat) (x0 : GInt) (x1 : GInt) (r : Bool) (H : f_base_SameInt N x0 x1 = some r) : FnOk Try.prog 48 [fV GInt.rep x0, fV GInt.rep x1] (fV Rep.bool r) := by
  unfold f_base_SameInt at H; refine fn_enter Try.func48 rfl rfl (by kernel_rfl) ?_; intro κ B h0 F a w hAt; refine wp_seq ?_
  refine reg [⟨fRef GInt.rep x0, [], [(0, none)], []⟩,
      ⟨fRef GInt.rep x1, [], [(1, none)], []⟩,
      ⟨fV Rep.bool false, [], [], []⟩] [2, 3] [] hAt
      ⟨ok_box rfl opd0,
      ok_box rfl opd0,
      ok_assign rfl opdB, trivial⟩ (by kernel_rfl) ?_
  clear hAt; intro a w hAt; replace hAt : At B h0 (mkG [(2, fRef GInt.rep x0), (3, fRef GInt.rep x1)]) (mkO []) F 38 a w := hAt; refine then_n ?_; refine wp_seq ?_; refine wp_seq ?_
  refine reg [⟨fRef Rep.bool x0.Neg, [], [(2, none)], []⟩,
      ⟨fV Rep.bool x0.Neg, [], [(6, some 0)], []⟩,
      ⟨fRef Rep.bool x1.Neg, [], [(3, none)], []⟩,
      ⟨fV Rep.bool x1.Neg, [], [(8, some 2)], []⟩,
      ⟨fV Rep.bool (!(x0.Neg == x1.Neg)), [], [(7, some 1), (9, some 3)], []⟩,
      ⟨fV Rep.bool (!(x0.Neg == x1.Neg)), [], [(10, some 4)], []⟩,
      ⟨Fact.when ((!(!(x0.Neg == x1.Neg))) = true) (fRef (Rep.slice r_u16) x0.Limbs), [], [(11, some 5), (2, none)], []⟩,
      ⟨Fact.when ((!(!(x0.Neg == x1.Neg))) = true) (fV (Rep.slice r_u16) x0.Limbs), [], [(11, some 5), (12, some 6)], []⟩,
      ⟨Fact.when ((!(!(x0.Neg == x1.Neg))) = true) (fV r_i64 (List.length x0.Limbs : Int)), [], [(11, some 5), (13, some 7)], []⟩,
      ⟨Fact.when ((!(!(x0.Neg == x1.Neg))) = true) (fRef (Rep.slice r_u16) x1.Limbs), [], [(11, some 5), (3, none)], []⟩,
      ⟨Fact.when ((!(!(x0.Neg == x1.Neg))) = true) (fV (Rep.slice r_u16) x1.Limbs), [], [(11, some 5), (15, some 9)], []⟩,
      ⟨Fact.when ((!(!(x0.Neg == x1.Neg))) = true) (fV r_i64 (List.length x1.Limbs : Int)), [], [(11, some 5), (16, some 10)], []⟩,
      ⟨Fact.when ((!(!(x0.Neg == x1.Neg))) = true) (fV Rep.bool (cmpI .neq (List.length x0.Limbs : Int) (List.length x1.Limbs : Int))), [], [(11, some 5), (14, some 8), (17, some 11)], []⟩,
      ⟨fV Rep.bool ((!(x0.Neg == x1.Neg)) || (cmpI .neq (List.length x0.Limbs : Int) (List.length x1.Limbs : Int))), [], [(11, some 5), (18, some 12)], []⟩] [2, 3, 19] [] hAt
      ⟨ok_field GInt.l0 fo30_0 rfl opd0,
      ok_load ty4 rfl opd0,
      ok_field GInt.l0 fo30_0 rfl opd0,
      ok_load ty4 rfl opd0,
      ok_neB un4 rfl opd0 opd1,
      ok_move rfl opd0,
      obl_tf rfl rfl rfl rfl rfl rfl rfl (fun hg => ok_field GInt.l1 fo30_1 rfl opd1),
      obl_tf rfl rfl rfl rfl rfl rfl rfl (fun hg => ok_load ty28 rfl (opd1.on hg)),
      obl_tf rfl rfl rfl rfl rfl rfl rfl (fun hg => ok_len un28 rfl (opd1.on hg)),
      obl_tf rfl rfl rfl rfl rfl rfl rfl (fun hg => ok_field GInt.l1 fo30_1 rfl opd1),
      obl_tf rfl rfl rfl rfl rfl rfl rfl (fun hg => ok_load ty28 rfl (opd1.on hg)),
      obl_tf rfl rfl rfl rfl rfl rfl rfl (fun hg => ok_len un28 rfl (opd1.on hg)),
      obl_tf rfl rfl rfl rfl rfl rfl rfl (fun hg => ok_cmp (op := .neq) (by simp) rfl rfl (opd1.on hg) (opd2.on hg)),
      ok_or rfl opd0 (fun e => (opd1.on (notT e))), trivial⟩ (by kernel_rfl) ?_
  clear hAt; intro a w hAt; replace hAt : At B h0 (mkG [(2, fRef GInt.rep x0), (3, fRef GInt.rep x1), (19, fV Rep.bool ((!(x0.Neg == x1.Neg)) || (cmpI .neq (List.length x0.Limbs : Int) (List.length x1.Limbs : Int))))]) (mkO []) F 38 a w := hAt; refine then_n ?_; refine wp_if hAt (by rfl) ?_ ?_
  · intro hb11; have H := iteT hb11 H; refine wp_seq ?_
    refine reg [⟨fV Rep.bool false, [], [], []⟩] [4] [] hAt
        ⟨ok_assign rfl opdB, trivial⟩ (by kernel_rfl) ?_
    clear hAt; intro a w hAt; replace hAt : At B h0 (mkG [(4, fV Rep.bool false)]) (mkO []) F 38 a w := hAt; refine then_n ?_; refine wp_ret ?_; refine then_r ?_
    cases H
    exact ret1 rfl (rv_tmp rfl rfl) hAt
  · intro hb11; have H := iteF hb11 H; refine wp_skip ?_; refine then_n ?_; refine wp_seq ?_; refine wp_seq ?_
    refine reg [⟨fV r_i64 0, [], [], []⟩] [2, 3, 5] [] hAt
        ⟨ok_assign rfl opdI, trivial⟩ (by kernel_rfl) ?_
    clear hAt; intro a w hAt; replace hAt : At B h0 (mkG [(2, fRef GInt.rep x0), (3, fRef GInt.rep x1), (5, fV r_i64 0)]) (mkO []) F 38 a w := hAt; refine then_n ?_; refine wp_block ?_; obtain ⟨o6, hl7, H⟩ := bindE H
    refine wp_mono (wp_loopN (f := f_base_SameInt_L1 N x0 x1) (fun (s1 : Int) a w => At B h0 (mkG [(2, fRef GInt.rep x0), (3, fRef GInt.rep x1), (5, fV r_i64 s1)]) (mkO []) F 38 a w) (fun o e a w => (Sum.elim (fun v => e = .exit 0 ∧ At B h0 (mkG []) (mkO []) F 38 a w) (fun v => e = .ret ∧ At B h0 (mkG [(4, fV Rep.bool v)]) (mkO []) F 38 a w)) o) ?_ N 0 o6 _ _ hl7 ?_) ?_
    · clear H hAt hl7; intro s1 r10 a w H hAt; unfold f_base_SameInt_L1 at H; refine wp_seq ?_; refine wp_seq ?_
      refine reg [⟨fV r_i64 s1, [], [(5, none)], []⟩,
          ⟨fRef (Rep.slice r_u16) x0.Limbs, [], [(2, none)], []⟩,
          ⟨fV (Rep.slice r_u16) x0.Limbs, [], [(21, some 1)], []⟩,
          ⟨fV r_i64 (List.length x0.Limbs : Int), [], [(22, some 2)], []⟩,
          ⟨fV Rep.bool (cmpI .lss s1 (List.length x0.Limbs : Int)), [], [(20, some 0), (23, some 3)], []⟩] [2, 3, 5, 24] [] hAt
          ⟨ok_move rfl opd0,
          ok_field GInt.l1 fo30_1 rfl opd0,
          ok_load ty28 rfl opd0,
          ok_len un28 rfl opd0,
          ok_cmp (op := .lss) (by simp) rfl rfl opd0 opd1, trivial⟩ (by kernel_rfl) ?_
      clear hAt; intro a w hAt; replace hAt : At B h0 (mkG [(2, fRef GInt.rep x0), (3, fRef GInt.rep x1), (5, fV r_i64 s1), (24, fV Rep.bool (cmpI .lss s1 (List.length x0.Limbs : Int)))]) (mkO []) F 38 a w := hAt; refine then_n ?_; refine wp_if hAt (by rfl) ?_ ?_
      · intro hb5; have H := iteT hb5 H; refine wp_skip ?_; refine then_n ?_; refine wp_seq ?_; refine wp_block ?_; refine wp_seq ?_; obtain ⟨v2, hv2, H⟩ := bindE H; obtain ⟨v3, hv3, H⟩ := bindE H
        refine regd [⟨fRef (Rep.slice r_u16) x0.Limbs, [], [(2, none)], []⟩,
            ⟨fV (Rep.slice r_u16) x0.Limbs, [], [(27, some 0)], []⟩,
            ⟨fV r_i64 s1, [], [(5, none)], []⟩,
            ⟨fRef r_u16 v2, [], [(28, some 1), (29, some 2)], []⟩,
            ⟨fV r_u16 v2, [], [(30, some 3)], []⟩,
            ⟨fRef (Rep.slice r_u16) x1.Limbs, [], [(3, none)], []⟩,
            ⟨fV (Rep.slice r_u16) x1.Limbs, [], [(32, some 5)], []⟩,
            ⟨fV r_i64 s1, [], [(5, none)], []⟩,
            ⟨fRef r_u16 v3, [], [(33, some 6), (34, some 7)], []⟩,
            ⟨fV r_u16 v3, [], [(35, some 8)], []⟩,
            ⟨fV Rep.bool (cmpI .neq v2 v3), [], [(31, some 4), (36, some 9)], []⟩] [0, 1, 2, 3, 4, 5, 6, 7, 8, 9, 10] [0, 1, 2, 3, 4, 5, 6, 7, 8, 9, 10] [2, 3, 5, 37] [] hAt
            ⟨ok_field GInt.l1 fo30_1 rfl opd0,
            ok_load ty28 rfl opd0,
            ok_move rfl opd0,
            ok_index ty35 un28 hv2 rfl opd0 opd1,
            ok_load ty35 rfl opd0,
            ok_field GInt.l1 fo30_1 rfl opd0,
            ok_load ty28 rfl opd0,
            ok_move rfl opd0,
            ok_index ty35 un28 hv3 rfl opd0 opd1,
            ok_load ty35 rfl opd0,
            ok_cmp (op := .neq) (by simp) rfl rfl opd0 opd1, trivial⟩ (by kernel_rfl) ?_
        clear hAt; intro a w hAt; replace hAt : At B h0 (mkG [(2, fRef GInt.rep x0), (3, fRef GInt.rep x1), (5, fV r_i64 s1), (37, fV Rep.bool (cmpI .neq v2 v3))]) (mkO []) F 38 a w := hAt; refine then_n ?_; refine wp_if hAt (by rfl) ?_ ?_
        · intro hb4; have H := iteT hb4 H; refine wp_seq ?_
          refine reg [⟨fV Rep.bool false, [], [], []⟩] [4] [] hAt
              ⟨ok_assign rfl opdB, trivial⟩ (by kernel_rfl) ?_
          clear hAt; intro a w hAt; replace hAt : At B h0 (mkG [(4, fV Rep.bool false)]) (mkO []) F 38 a w := hAt; refine then_n ?_; refine wp_ret ?_; refine blk_r ?_; refine then_r ?_
          cases H
          exact ⟨ret_ne, rfl, hAt.pick [4] []⟩
        · intro hb4; have H := iteF hb4 H; refine wp_skip ?_; refine blk_n ?_; refine then_n ?_
          refine reg [⟨fV r_i64 s1, [], [(5, none)], []⟩,
              ⟨fV r_i64 (IntKind.i64.wrap (s1 + 1)), [], [(25, some 0)], []⟩,
              ⟨fV r_i64 (IntKind.i64.wrap (s1 + 1)), [], [(26, some 1)], []⟩] [2, 3, 5] [] hAt
              ⟨ok_move rfl opd0,
              ok_add rfl opd0 opdI,
              ok_assign rfl opd0, trivial⟩ (by kernel_rfl) ?_
          clear hAt; intro a w hAt; replace hAt : At B h0 (mkG [(2, fRef GInt.rep x0), (3, fRef GInt.rep x1), (5, fV r_i64 (IntKind.i64.wrap (s1 + 1)))]) (mkO []) F 38 a w := hAt
          cases H
          exact ⟨rfl, hAt.pick [2, 3, 5] []⟩
      · intro hb5; have H := iteF hb5 H; refine wp_exit ?_; refine then_x ?_
        cases H
        exact ⟨ex_ne, rfl, hAt.pick [] []⟩
    · exact hAt.pick [2, 3, 5] []
    · clear hAt; intro e a w hp
      cases o6 with
      | inl l8 =>
        rw [Sum.elim_inl] at H; obtain ⟨rfl, hAt⟩ := hp; refine blk_eq ?_; refine then_n ?_; refine wp_seq ?_
        refine reg [⟨fV Rep.bool true, [], [], []⟩] [4] [] hAt
            ⟨ok_assign rfl opdB, trivial⟩ (by kernel_rfl) ?_
        clear hAt; intro a w hAt; replace hAt : At B h0 (mkG [(4, fV Rep.bool true)]) (mkO []) F 38 a w := hAt; refine then_n ?_; refine wp_ret ?_
        cases H
        exact ret1 rfl (rv_tmp rfl rfl) hAt
      | inr r9 =>
        rw [Sum.elim_inr] at H; replace hp := hp; obtain ⟨rfl, hAt⟩ := hp; refine blk_r ?_; refine then_r ?_
        cases H
        exact ret1 rfl (rv_tmp rfl rfl) hAt
theorem ok_f_base_SameRat (N : Nat) (x0 : GRat) (x1 : GRat) (r : Bool) (H : f_base_SameRat N x0 x1 = some r) : FnOk Try.prog 16 [fV GRat.rep x0, fV GRat.rep x1] (fV Rep.bool r) := by
  unfold f_base_SameRat at H; refine fn_enter Try.func16 rfl rfl (by kernel_rfl) ?_; intro κ B h0 F a w hAt; refine wp_seq ?_
  refine reg [⟨fRef GRat.rep x0, [], [(0, none)], []⟩,
      ⟨fRef GRat.rep x1, [], [(1, none)], []⟩,
      ⟨fV Rep.bool false, [], [], []⟩] [2, 3] [] hAt
      ⟨ok_box rfl opd0,
      ok_box rfl opd0,
      ok_assign rfl opdB, trivial⟩ (by kernel_rfl) ?_
  clear hAt; intro a w hAt; replace hAt : At B h0 (mkG [(2, fRef GRat.rep x0), (3, fRef GRat.rep x1)]) (mkO []) F 17 a w := hAt; refine then_n ?_; refine wp_seq ?_; obtain ⟨v1, hv1, H⟩ := bindE H; obtain ⟨v2, hv2, H⟩ := bindE H
  refine reg [⟨fRef GInt.rep x0.Num, [], [(2, none)], []⟩,
      ⟨fV GInt.rep x0.Num, [], [(5, some 0)], []⟩,
      ⟨fRef GInt.rep x1.Num, [], [(3, none)], []⟩,
      ⟨fV GInt.rep x1.Num, [], [(7, some 2)], []⟩,
      ⟨fV Rep.bool v1, [], [(6, some 1), (8, some 3)], []⟩,
      ⟨fV Rep.bool v1, [], [(9, some 4)], []⟩,
      ⟨Fact.when (v1 = true) (fRef GInt.rep x0.Den), [], [(10, some 5), (2, none)], []⟩,
      ⟨Fact.when (v1 = true) (fV GInt.rep x0.Den), [], [(10, some 5), (11, some 6)], []⟩,
      ⟨Fact.when (v1 = true) (fRef GInt.rep x1.Den), [], [(10, some 5), (3, none)], []⟩,
      ⟨Fact.when (v1 = true) (fV GInt.rep x1.Den), [], [(10, some 5), (13, some 8)], []⟩,
      ⟨Fact.when (v1 = true) (fV Rep.bool v2), [], [(10, some 5), (12, some 7), (14, some 9)], []⟩,
      ⟨fV Rep.bool (v1 && v2), [], [(10, some 5), (15, some 10)], []⟩,
      ⟨fV Rep.bool (v1 && v2), [], [(16, some 11)], []⟩] [4] [] hAt
      ⟨ok_field GRat.l0 fo32_0 rfl opd0,
      ok_load ty30 rfl opd0,
      ok_field GRat.l0 fo32_0 rfl opd0,
      ok_load ty30 rfl opd0,
      ok_call (ok_f_base_SameInt N x0.Num x1.Num _ hv1) Try.func48 (by kernel_rfl) (by kernel_rfl) rfl ⟨opd0, ⟨opd1, trivial⟩⟩,
      ok_move rfl opd0,
      obl_tt rfl rfl rfl rfl rfl rfl rfl (fun hg => ok_field GRat.l1 fo32_1 rfl opd1),
      obl_tt rfl rfl rfl rfl rfl rfl rfl (fun hg => ok_load ty30 rfl (opd1.on hg)),
      obl_tt rfl rfl rfl rfl rfl rfl rfl (fun hg => ok_field GRat.l1 fo32_1 rfl opd1),
      obl_tt rfl rfl rfl rfl rfl rfl rfl (fun hg => ok_load ty30 rfl (opd1.on hg)),
      obl_tt rfl rfl rfl rfl rfl rfl rfl (fun hg => ok_call (ok_f_base_SameInt N x0.Den x1.Den _ (iteT hg hv2)) Try.func48 (by kernel_rfl) (by kernel_rfl) rfl ⟨(opd1.on hg), ⟨(opd2.on hg), trivial⟩⟩),
      ok_and rfl opd0 (fun e => (opd1.on e)),
      ok_assign rfl opd0, trivial⟩ (by kernel_rfl) ?_
  clear hAt; intro a w hAt; replace hAt : At B h0 (mkG [(4, fV Rep.bool (v1 && v2))]) (mkO []) F 17 a w := hAt; refine then_n ?_; refine wp_ret ?_
  cases H
  exact ret1 rfl (rv_tmp rfl rfl) hAt
theorem ok_f_base_Q (N : Nat) (x0 : Int) (x1 : Int) (r : GRat) (H : f_base_Q N x0 x1 = some r) : FnOk Try.prog 54 [fV r_i64 x0, fV r_i64 x1] (fV GRat.rep r) := by
  unfold f_base_Q at H; refine fn_enter Try.func54 rfl rfl (by kernel_rfl) ?_; intro κ B h0 F a w hAt; refine wp_seq ?_
  refine reg [⟨Fact.triv, [(4, some (boxE 32 GRat.rep (⟨(⟨false, []⟩ : GInt), (⟨false, []⟩ : GInt)⟩ : GRat)))], [], []⟩] [0, 1] [4] hAt
      ⟨ok_alloc ty32 rfl rfl, trivial⟩ (by kernel_rfl) ?_
  clear hAt; intro a w hAt; replace hAt : At B h0 (mkG [(0, fV r_i64 x0), (1, fV r_i64 x1)]) (mkO [(4, boxE 32 GRat.rep (⟨(⟨false, []⟩ : GInt), (⟨false, []⟩ : GInt)⟩ : GRat))]) F 34 a w := hAt; refine then_n ?_; refine wp_seq ?_; obtain ⟨o2, hl3, H⟩ := bindE H
  refine wp_mono (Q := (fun o e a w => (fun v => e = .normal ∧ At B h0 (mkG [(0, fV r_i64 v.1), (1, fV r_i64 v.2)]) (mkO [(4, boxE 32 GRat.rep (⟨(⟨false, []⟩ : GInt), (⟨false, []⟩ : GInt)⟩ : GRat))]) F 34 a w) o) o2) ?_ ?_
  · clear H; have H := hl3; clear hl3; refine wp_seq ?_
    refine reg [⟨fV r_i64 x1, [], [(1, none)], []⟩,
        ⟨fV Rep.bool (cmpI .lss x1 0), [], [(7, some 0)], []⟩] [0, 1, 8] [4] hAt
        ⟨ok_move rfl opd0,
        ok_cmp (op := .lss) (by simp) rfl rfl opd0 opdI, trivial⟩ (by kernel_rfl) ?_
    clear hAt; intro a w hAt; replace hAt : At B h0 (mkG [(0, fV r_i64 x0), (1, fV r_i64 x1), (8, fV Rep.bool (cmpI .lss x1 0))]) (mkO [(4, boxE 32 GRat.rep (⟨(⟨false, []⟩ : GInt), (⟨false, []⟩ : GInt)⟩ : GRat))]) F 34 a w := hAt; refine then_n ?_; refine wp_if hAt (by rfl) ?_ ?_
    · intro hb1; have H := iteT hb1 H
      refine reg [⟨fV r_i64 x0, [], [(0, none)], []⟩,
          ⟨fV r_i64 (IntKind.i64.wrap (0 - x0)), [], [(9, some 0)], []⟩,
          ⟨fV r_i64 x1, [], [(1, none)], []⟩,
          ⟨fV r_i64 (IntKind.i64.wrap (0 - x1)), [], [(11, some 2)], []⟩,
          ⟨fV r_i64 (IntKind.i64.wrap (0 - x0)), [], [(10, some 1)], []⟩,
          ⟨fV r_i64 (IntKind.i64.wrap (0 - x1)), [], [(12, some 3)], []⟩] [0, 1] [4] hAt
          ⟨ok_move rfl opd0,
          ok_neg rfl opd0,
          ok_move rfl opd0,
          ok_neg rfl opd0,
          ok_assign rfl opd0,
          ok_assign rfl opd0, trivial⟩ (by kernel_rfl) ?_
      clear hAt; intro a w hAt; replace hAt : At B h0 (mkG [(0, fV r_i64 (IntKind.i64.wrap (0 - x0))), (1, fV r_i64 (IntKind.i64.wrap (0 - x1)))]) (mkO [(4, boxE 32 GRat.rep (⟨(⟨false, []⟩ : GInt), (⟨false, []⟩ : GInt)⟩ : GRat))]) F 34 a w := hAt
      cases H
      exact ⟨rfl, hAt.pick [0, 1] [4]⟩
    · intro hb1; have H := iteF hb1 H; refine wp_skip ?_
      cases H
      exact ⟨rfl, hAt.pick [0, 1] [4]⟩
  · clear hAt; intro e a w hp; obtain ⟨rfl, hAt⟩ := hp; refine then_n ?_; refine wp_seq ?_
    refine reg [⟨fV r_i64 o2.1, [], [(0, none)], []⟩,
        ⟨fV r_i64 o2.2, [], [(1, none)], []⟩,
        ⟨fV r_i64 o2.1, [], [(13, some 0)], []⟩,
        ⟨fV r_i64 o2.2, [], [(14, some 1)], []⟩] [0, 1, 5, 6] [4] hAt
        ⟨ok_move rfl opd0,
        ok_move rfl opd0,
        ok_assign rfl opd0,
        ok_assign rfl opd0, trivial⟩ (by kernel_rfl) ?_
    clear hAt; intro a w hAt; replace hAt : At B h0 (mkG [(0, fV r_i64 o2.1), (1, fV r_i64 o2.2), (5, fV r_i64 o2.1), (6, fV r_i64 o2.2)]) (mkO [(4, boxE 32 GRat.rep (⟨(⟨false, []⟩ : GInt), (⟨false, []⟩ : GInt)⟩ : GRat))]) F 34 a w := hAt; refine then_n ?_; refine wp_seq ?_; obtain ⟨o5, hl6, H⟩ := bindE H
    refine wp_mono (Q := (fun o e a w => (fun v => e = .normal ∧ At B h0 (mkG [(0, fV r_i64 o2.1), (1, fV r_i64 o2.2), (5, fV r_i64 v), (6, fV r_i64 o2.2)]) (mkO [(4, boxE 32 GRat.rep (⟨(⟨false, []⟩ : GInt), (⟨false, []⟩ : GInt)⟩ : GRat))]) F 34 a w) o) o5) ?_ ?_
    · clear H; have H := hl6; clear hl6; refine wp_seq ?_
      refine reg [⟨fV r_i64 o2.1, [], [(5, none)], []⟩,
          ⟨fV Rep.bool (cmpI .lss o2.1 0), [], [(15, some 0)], []⟩] [0, 1, 5, 6, 16] [4] hAt
          ⟨ok_move rfl opd0,
          ok_cmp (op := .lss) (by simp) rfl rfl opd0 opdI, trivial⟩ (by kernel_rfl) ?_
      clear hAt; intro a w hAt; replace hAt : At B h0 (mkG [(0, fV r_i64 o2.1), (1, fV r_i64 o2.2), (5, fV r_i64 o2.1), (6, fV r_i64 o2.2), (16, fV Rep.bool (cmpI .lss o2.1 0))]) (mkO [(4, boxE 32 GRat.rep (⟨(⟨false, []⟩ : GInt), (⟨false, []⟩ : GInt)⟩ : GRat))]) F 34 a w := hAt; refine then_n ?_; refine wp_if hAt (by rfl) ?_ ?_
      · intro hb4; have H := iteT hb4 H
        refine reg [⟨fV r_i64 o2.1, [], [(5, none)], []⟩,
            ⟨fV r_i64 (IntKind.i64.wrap (0 - o2.1)), [], [(17, some 0)], []⟩,
            ⟨fV r_i64 (IntKind.i64.wrap (0 - o2.1)), [], [(18, some 1)], []⟩] [0, 1, 5, 6] [4] hAt
            ⟨ok_move rfl opd0,
            ok_neg rfl opd0,
            ok_assign rfl opd0, trivial⟩ (by kernel_rfl) ?_
        clear hAt; intro a w hAt; replace hAt : At B h0 (mkG [(0, fV r_i64 o2.1), (1, fV r_i64 o2.2), (5, fV r_i64 (IntKind.i64.wrap (0 - o2.1))), (6, fV r_i64 o2.2)]) (mkO [(4, boxE 32 GRat.rep (⟨(⟨false, []⟩ : GInt), (⟨false, []⟩ : GInt)⟩ : GRat))]) F 34 a w := hAt
        cases H
        exact ⟨rfl, hAt.pick [0, 1, 5, 6] [4]⟩
      · intro hb4; have H := iteF hb4 H; refine wp_skip ?_
        cases H
        exact ⟨rfl, hAt.pick [0, 1, 5, 6] [4]⟩
    · clear hAt; intro e a w hp; obtain ⟨rfl, hAt⟩ := hp; refine then_n ?_; refine wp_seq ?_; refine wp_block ?_; obtain ⟨o10, hl11, H⟩ := bindE H
      refine wp_mono (wp_loopN (f := f_base_Q_L1 N) (fun (s7 : (Int × Int)) a w => At B h0 (mkG [(0, fV r_i64 o2.1), (1, fV r_i64 o2.2), (5, fV r_i64 s7.1), (6, fV r_i64 s7.2)]) (mkO [(4, boxE 32 GRat.rep (⟨(⟨false, []⟩ : GInt), (⟨false, []⟩ : GInt)⟩ : GRat))]) F 34 a w) (fun o e a w => (fun v => e = .exit 0 ∧ At B h0 (mkG [(0, fV r_i64 o2.1), (1, fV r_i64 o2.2), (5, fV r_i64 v)]) (mkO [(4, boxE 32 GRat.rep (⟨(⟨false, []⟩ : GInt), (⟨false, []⟩ : GInt)⟩ : GRat))]) F 34 a w) o) ?_ N (o5, o2.2) o10 _ _ hl11 ?_) ?_
      · clear H hAt hl11; intro s7 r16 a w H hAt; unfold f_base_Q_L1 at H; refine wp_seq ?_; refine wp_seq ?_
        refine reg [⟨fV r_i64 s7.2, [], [(6, none)], []⟩,
            ⟨fV Rep.bool (cmpI .gtr s7.2 0), [], [(19, some 0)], []⟩] [0, 1, 5, 6, 20] [4] hAt
            ⟨ok_move rfl opd0,
            ok_cmp (op := .gtr) (by simp) rfl rfl opd0 opdI, trivial⟩ (by kernel_rfl) ?_
        clear hAt; intro a w hAt; replace hAt : At B h0 (mkG [(0, fV r_i64 o2.1), (1, fV r_i64 o2.2), (5, fV r_i64 s7.1), (6, fV r_i64 s7.2), (20, fV Rep.bool (cmpI .gtr s7.2 0))]) (mkO [(4, boxE 32 GRat.rep (⟨(⟨false, []⟩ : GInt), (⟨false, []⟩ : GInt)⟩ : GRat))]) F 34 a w := hAt; refine then_n ?_; refine wp_if hAt (by rfl) ?_ ?_
        · intro hb9; have H := iteT hb9 H; refine wp_skip ?_; refine then_n ?_; refine wp_block ?_; obtain ⟨v8, hv8, H⟩ := bindE H
          refine regd [⟨fV r_i64 s7.2, [], [(6, none)], []⟩,
              ⟨fV r_i64 s7.1, [], [(5, none)], []⟩,
              ⟨fV r_i64 s7.2, [], [(6, none)], []⟩,
              ⟨fV r_i64 v8, [], [(22, some 1), (23, some 2)], []⟩,
              ⟨fV r_i64 s7.2, [], [(21, some 0)], []⟩,
              ⟨fV r_i64 v8, [], [(24, some 3)], []⟩] [0, 1, 2, 3, 4, 5] [0, 1, 2, 3, 4, 5] [0, 1, 5, 6] [4] hAt
              ⟨ok_move rfl opd0,
              ok_move rfl opd0,
              ok_move rfl opd0,
              ok_rem hv8 rfl opd0 opd1,
              ok_assign rfl opd0,
              ok_assign rfl opd0, trivial⟩ (by kernel_rfl) ?_
          clear hAt; intro a w hAt; replace hAt : At B h0 (mkG [(0, fV r_i64 o2.1), (1, fV r_i64 o2.2), (5, fV r_i64 s7.2), (6, fV r_i64 v8)]) (mkO [(4, boxE 32 GRat.rep (⟨(⟨false, []⟩ : GInt), (⟨false, []⟩ : GInt)⟩ : GRat))]) F 34 a w := hAt; refine blk_n ?_
          cases H
          exact ⟨rfl, hAt.pick [0, 1, 5, 6] [4]⟩
        · intro hb9; have H := iteF hb9 H; refine wp_exit ?_; refine then_x ?_
          cases H
          exact ⟨ex_ne, rfl, hAt.pick [0, 1, 5] [4]⟩
      · exact hAt.pick [0, 1, 5, 6] [4]
      · clear hAt; intro e a w hp; obtain ⟨rfl, hAt⟩ := hp; refine blk_eq ?_; refine then_n ?_; refine wp_seq ?_; obtain ⟨v12, hv12, H⟩ := bindE H; obtain ⟨v13, hv13, H⟩ := bindE H; obtain ⟨v14, hv14, H⟩ := bindE H; obtain ⟨v15, hv15, H⟩ := bindE H
        refine regd [⟨fV r_i64 o2.1, [], [(0, none)], []⟩,
            ⟨fV r_i64 o10, [], [(5, none)], []⟩,
            ⟨fV r_i64 v12, [], [(25, some 0), (26, some 1)], []⟩,
            ⟨fV GInt.rep v13, [], [(27, some 2)], []⟩,
            ⟨fV r_i64 o2.2, [], [(1, none)], []⟩,
            ⟨fV r_i64 o10, [], [(5, none)], []⟩,
            ⟨fV r_i64 v14, [], [(29, some 4), (30, some 5)], []⟩,
            ⟨fV GInt.rep v15, [], [(31, some 6)], []⟩,
            ⟨fV GRat.rep (⟨v13, v15⟩ : GRat), [], [(28, some 3), (32, some 7)], []⟩,
            ⟨Fact.triv, [(4, some (boxE 32 GRat.rep (⟨v13, v15⟩ : GRat)))], [(33, some 8)], [(4, none)]⟩] [0, 1, 2, 3, 4, 5, 6, 7, 8, 9] [0, 1, 2, 3, 4, 5, 6, 7, 8, 9] [] [4] hAt
            ⟨ok_move rfl opd0,
            ok_move rfl opd0,
            ok_quo hv12 rfl opd0 opd1,
            ok_call (ok_f_base_Z N v12 _ hv13) Try.func32 (by kernel_rfl) (by kernel_rfl) rfl ⟨opd0, trivial⟩,
            ok_move rfl opd0,
            ok_move rfl opd0,
            ok_quo hv14 rfl opd0 opd1,
            ok_call (ok_f_base_Z N v14 _ hv15) Try.func32 (by kernel_rfl) (by kernel_rfl) rfl ⟨opd0, trivial⟩,
            ok_build ty32 rfl pl32 rfl (fillC GRat.l0 rfl opd0 (fillC GRat.l1 rfl opd1 fillN)),
            ok_storeBox ty32 rfl rfl opd0, trivial⟩ (by kernel_rfl) ?_
        clear hAt; intro a w hAt; replace hAt : At B h0 (mkG []) (mkO [(4, boxE 32 GRat.rep (⟨v13, v15⟩ : GRat))]) F 34 a w := hAt; refine then_n ?_; refine wp_ret ?_
        cases H
        exact ret1 rfl (rv_cell ty32 rfl) hAt
theorem ok_f_law02_awake (N : Nat) (r : Bool) (H : f_law02_awake N = some r) : FnOk Try.prog 18 [] (fV Rep.bool r) := by
  unfold f_law02_awake at H; refine fn_enter Try.func18 rfl rfl (by kernel_rfl) ?_; intro κ B h0 F a w hAt; refine wp_seq ?_
  refine reg [⟨fV Rep.bool false, [], [], []⟩] [] [] hAt
      ⟨ok_assign rfl opdB, trivial⟩ (by kernel_rfl) ?_
  clear hAt; intro a w hAt; replace hAt : At B h0 (mkG []) (mkO []) F 67 a w := hAt; refine then_n ?_; refine wp_seq ?_; obtain ⟨v1, hv1, H⟩ := bindE H; obtain ⟨v2, hv2, H⟩ := bindE H; obtain ⟨v3, hv3, H⟩ := bindE H; obtain ⟨v4, hv4, H⟩ := bindE H
  refine reg [⟨fV GShip.rep v1, [], [], []⟩,
      ⟨fV GRat.rep v2, [], [], []⟩,
      ⟨fV GAttitude.rep v3, [], [(9, some 1)], []⟩,
      ⟨fT2 (fV GHydro.rep v4.1) (fV r_i64 v4.2), [], [(8, some 0), (10, some 2)], []⟩,
      ⟨fT2 (fV GHydro.rep v4.1) (fV r_i64 v4.2), [], [(11, some 3)], []⟩,
      ⟨fV GHydro.rep v4.1, [], [(7, some 4)], []⟩,
      ⟨fV r_i64 v4.2, [], [(7, some 4)], []⟩,
      ⟨Fact.triv, [(1, some (boxE 65 GHydro.rep (⟨(⟨(⟨false, []⟩ : GInt), (⟨false, []⟩ : GInt)⟩ : GRat), (⟨(⟨false, []⟩ : GInt), (⟨false, []⟩ : GInt)⟩ : GRat), (⟨(⟨false, []⟩ : GInt), (⟨false, []⟩ : GInt)⟩ : GRat), (⟨(⟨false, []⟩ : GInt), (⟨false, []⟩ : GInt)⟩ : GRat), (⟨(⟨false, []⟩ : GInt), (⟨false, []⟩ : GInt)⟩ : GRat), (⟨(⟨false, []⟩ : GInt), (⟨false, []⟩ : GInt)⟩ : GRat), (⟨(⟨false, []⟩ : GInt), (⟨false, []⟩ : GInt)⟩ : GRat), (⟨(⟨false, []⟩ : GInt), (⟨false, []⟩ : GInt)⟩ : GRat), (⟨(⟨false, []⟩ : GInt), (⟨false, []⟩ : GInt)⟩ : GRat)⟩ : GHydro)))], [], []⟩,
      ⟨Fact.triv, [(1, some (boxE 65 GHydro.rep v4.1))], [(12, some 5)], [(1, some 7)]⟩,
      ⟨fV r_i64 v4.2, [], [(13, some 6)], []⟩] [2] [1] hAt
      ⟨ok_call (ok_f_law02_barge N _ hv1) Try.func51 (by kernel_rfl) (by kernel_rfl) rfl trivial,
      ok_call (ok_f_base_W N 2000 _ hv2) Try.func8 (by kernel_rfl) (by kernel_rfl) rfl ⟨opdI, trivial⟩,
      ok_call (ok_f_ref02_Level N v2 _ hv3) Try.func52 (by kernel_rfl) (by kernel_rfl) rfl ⟨opd0, trivial⟩,
      ok_call (ok_f_hull_Hydrostatics N v1 v3 1000 _ hv4) Try.func23 (by kernel_rfl) (by kernel_rfl) rfl ⟨opd0, ⟨opd1, ⟨opdI, trivial⟩⟩⟩,
      ok_move rfl opd0,
      ok_ext20 rfl rfl opd0,
      ok_ext21 rfl rfl opd0,
      ok_alloc ty65 rfl rfl,
      ok_storeBox ty65 rfl rfl opd0,
      ok_assign rfl opd0, trivial⟩ (by kernel_rfl) ?_
  clear hAt; intro a w hAt; replace hAt : At B h0 (mkG [(2, fV r_i64 v4.2)]) (mkO [(1, boxE 65 GHydro.rep v4.1)]) F 67 a w := hAt; refine then_n ?_; refine wp_seq ?_; obtain ⟨v5, hv5, H⟩ := bindE H; obtain ⟨v6, hv6, H⟩ := bindE H
  refine reg [⟨fV GShip.rep v5, [], [], []⟩,
      ⟨fT2 (fV GRat.rep v6.1) (fV r_i64 v6.2), [], [(15, some 0)], []⟩,
      ⟨fT2 (fV GRat.rep v6.1) (fV r_i64 v6.2), [], [(16, some 1)], []⟩,
      ⟨fV GRat.rep v6.1, [], [(14, some 2)], []⟩,
      ⟨fV r_i64 v6.2, [], [(14, some 2)], []⟩,
      ⟨Fact.triv, [(3, some (boxE 32 GRat.rep (⟨(⟨false, []⟩ : GInt), (⟨false, []⟩ : GInt)⟩ : GRat)))], [], []⟩,
      ⟨Fact.triv, [(3, some (boxE 32 GRat.rep v6.1))], [(17, some 3)], [(3, some 5)]⟩,
      ⟨fV r_i64 v6.2, [], [(18, some 4)], []⟩] [2, 4] [1, 3] hAt
      ⟨ok_call (ok_f_law02_barge N _ hv5) Try.func51 (by kernel_rfl) (by kernel_rfl) rfl trivial,
      ok_call (ok_f_hull_Draught N v5 320000 1000 _ hv6) Try.func53 (by kernel_rfl) (by kernel_rfl) rfl ⟨opd0, ⟨opdI, ⟨opdI, trivial⟩⟩⟩,
      ok_move rfl opd0,
      ok_ext20 rfl rfl opd0,
      ok_ext21 rfl rfl opd0,
      ok_alloc ty32 rfl rfl,
      ok_storeBox ty32 rfl rfl opd0,
      ok_assign rfl opd0, trivial⟩ (by kernel_rfl) ?_
  clear hAt; intro a w hAt; replace hAt : At B h0 (mkG [(2, fV r_i64 v4.2), (4, fV r_i64 v6.2)]) (mkO [(1, boxE 65 GHydro.rep v4.1), (3, boxE 32 GRat.rep v6.1)]) F 67 a w := hAt; refine then_n ?_; refine wp_seq ?_; obtain ⟨v7, hv7, H⟩ := bindE H; obtain ⟨v8, hv8, H⟩ := bindE H; obtain ⟨v9, hv9, H⟩ := bindE H; obtain ⟨v10, hv10, H⟩ := bindE H; obtain ⟨v11, hv11, H⟩ := bindE H
  refine reg [⟨fV GShip.rep v7, [], [], []⟩,
      ⟨fV GRat.rep v8, [], [], []⟩,
      ⟨fV GAttitude.rep v9, [], [(21, some 1)], []⟩,
      ⟨fV GRat.rep v10, [], [], []⟩,
      ⟨fV GRaised.rep (⟨1000, v10⟩ : GRaised), [], [(23, some 3)], []⟩,
      ⟨fT2 (fV GStable.rep v11.1) (fV r_i64 v11.2), [], [(20, some 0), (22, some 2), (24, some 4)], []⟩,
      ⟨fT2 (fV GStable.rep v11.1) (fV r_i64 v11.2), [], [(25, some 5)], []⟩,
      ⟨fV GStable.rep v11.1, [], [(19, some 6)], []⟩,
      ⟨fV r_i64 v11.2, [], [(19, some 6)], []⟩,
      ⟨Fact.triv, [(5, some (boxE 48 GStable.rep (⟨(⟨(⟨false, []⟩ : GInt), (⟨false, []⟩ : GInt)⟩ : GRat), (⟨(⟨false, []⟩ : GInt), (⟨false, []⟩ : GInt)⟩ : GRat), (⟨(⟨false, []⟩ : GInt), (⟨false, []⟩ : GInt)⟩ : GRat), (⟨(⟨false, []⟩ : GInt), (⟨false, []⟩ : GInt)⟩ : GRat)⟩ : GStable)))], [], []⟩,
      ⟨Fact.triv, [(5, some (boxE 48 GStable.rep v11.1))], [(26, some 7)], [(5, some 9)]⟩,
      ⟨fV r_i64 v11.2, [], [(27, some 8)], []⟩] [2, 4, 6] [1, 3, 5] hAt
      ⟨ok_call (ok_f_law02_barge N _ hv7) Try.func51 (by kernel_rfl) (by kernel_rfl) rfl trivial,
      ok_call (ok_f_base_W N 2000 _ hv8) Try.func8 (by kernel_rfl) (by kernel_rfl) rfl ⟨opdI, trivial⟩,
      ok_call (ok_f_ref02_Level N v8 _ hv9) Try.func52 (by kernel_rfl) (by kernel_rfl) rfl ⟨opd0, trivial⟩,
      ok_call (ok_f_base_W N 80000 _ hv10) Try.func8 (by kernel_rfl) (by kernel_rfl) rfl ⟨opdI, trivial⟩,
      ok_build ty52 rfl pl52 rfl (fillC GRaised.l0 rfl opdI (fillC GRaised.l1 rfl opd0 fillN)),
      ok_call (ok_f_hull_Stability N v7 v9 (⟨1000, v10⟩ : GRaised) _ hv11) Try.func13 (by kernel_rfl) (by kernel_rfl) rfl ⟨opd0, ⟨opd1, ⟨opd2, trivial⟩⟩⟩,
      ok_move rfl opd0,
      ok_ext20 rfl rfl opd0,
      ok_ext21 rfl rfl opd0,
      ok_alloc ty48 rfl rfl,
      ok_storeBox ty48 rfl rfl opd0,
      ok_assign rfl opd0, trivial⟩ (by kernel_rfl) ?_
  clear hAt; intro a w hAt; replace hAt : At B h0 (mkG [(2, fV r_i64 v4.2), (4, fV r_i64 v6.2), (6, fV r_i64 v11.2)]) (mkO [(1, boxE 65 GHydro.rep v4.1), (3, boxE 32 GRat.rep v6.1), (5, boxE 48 GStable.rep v11.1)]) F 67 a w := hAt; refine then_n ?_; refine wp_seq ?_; obtain ⟨v12, hv12, H⟩ := bindE H; obtain ⟨v13, hv13, H⟩ := bindE H; obtain ⟨v14, hv14, H⟩ := bindE H; obtain ⟨v15, hv15, H⟩ := bindE H
  obtain ⟨v16, hv16, H⟩ := bindE H; obtain ⟨v17, hv17, H⟩ := bindE H; obtain ⟨v18, hv18, H⟩ := bindE H; obtain ⟨v19, hv19, H⟩ := bindE H; obtain ⟨v20, hv20, H⟩ := bindE H; obtain ⟨v21, hv21, H⟩ := bindE H
  refine regd (⟨fV r_i64 v4.2, [], [(2, none)], []⟩ ::
      ⟨fV Rep.bool (cmpI .eql v4.2 0), [], [(28, some 0)], []⟩ ::
      ⟨fV Rep.bool (cmpI .eql v4.2 0), [], [(29, some 1)], []⟩ ::
      ⟨Fact.when ((cmpI .eql v4.2 0) = true) (fV r_i64 v6.2), [], [(30, some 2), (4, none)], []⟩ ::
      ⟨Fact.when ((cmpI .eql v4.2 0) = true) (fV Rep.bool (cmpI .eql v6.2 0)), [], [(30, some 2), (31, some 3)], []⟩ ::
      ⟨fV Rep.bool ((cmpI .eql v4.2 0) && (cmpI .eql v6.2 0)), [], [(30, some 2), (32, some 4)], []⟩ ::
      ⟨fV Rep.bool ((cmpI .eql v4.2 0) && (cmpI .eql v6.2 0)), [], [(33, some 5)], []⟩ ::
      ⟨Fact.when (((cmpI .eql v4.2 0) && (cmpI .eql v6.2 0)) = true) (fV r_i64 v11.2), [], [(34, some 6), (6, none)], []⟩ ::
      ⟨Fact.when (((cmpI .eql v4.2 0) && (cmpI .eql v6.2 0)) = true) (fV Rep.bool (cmpI .eql v11.2 0)), [], [(34, some 6), (35, some 7)], []⟩ ::
      ⟨fV Rep.bool (((cmpI .eql v4.2 0) && (cmpI .eql v6.2 0)) && (cmpI .eql v11.2 0)), [], [(34, some 6), (36, some 8)], []⟩ ::
      ⟨fV Rep.bool (((cmpI .eql v4.2 0) && (cmpI .eql v6.2 0)) && (cmpI .eql v11.2 0)), [], [(37, some 9)], []⟩ ::
      ⟨Fact.when ((((cmpI .eql v4.2 0) && (cmpI .eql v6.2 0)) && (cmpI .eql v11.2 0)) = true) (fOff 1 4), [], [(38, some 10)], [(1, none)]⟩ ::
      ⟨Fact.when ((((cmpI .eql v4.2 0) && (cmpI .eql v6.2 0)) && (cmpI .eql v11.2 0)) = true) (fV GRat.rep v4.1.Displacement), [], [(38, some 10), (39, some 11)], [(1, none)]⟩ ::
      ⟨Fact.when ((((cmpI .eql v4.2 0) && (cmpI .eql v6.2 0)) && (cmpI .eql v11.2 0)) = true) (fV GRat.rep v12), [], [(38, some 10)], []⟩ ::
      ⟨Fact.when ((((cmpI .eql v4.2 0) && (cmpI .eql v6.2 0)) && (cmpI .eql v11.2 0)) = true) (fV Rep.bool v13), [], [(38, some 10), (40, some 12), (41, some 13)], []⟩ ::
      ⟨fV Rep.bool ((((cmpI .eql v4.2 0) && (cmpI .eql v6.2 0)) && (cmpI .eql v11.2 0)) && v13), [], [(38, some 10), (42, some 14)], []⟩ ::
      ⟨fV Rep.bool ((((cmpI .eql v4.2 0) && (cmpI .eql v6.2 0)) && (cmpI .eql v11.2 0)) && v13), [], [(43, some 15)], []⟩ ::
      ⟨Fact.when (((((cmpI .eql v4.2 0) && (cmpI .eql v6.2 0)) && (cmpI .eql v11.2 0)) && v13) = true) (fOff 1 32), [], [(44, some 16)], [(1, none)]⟩ ::
      ⟨Fact.when (((((cmpI .eql v4.2 0) && (cmpI .eql v6.2 0)) && (cmpI .eql v11.2 0)) && v13) = true) (fV GRat.rep v4.1.Meta), [], [(44, some 16), (45, some 17)], [(1, none)]⟩ ::
      ⟨Fact.when (((((cmpI .eql v4.2 0) && (cmpI .eql v6.2 0)) && (cmpI .eql v11.2 0)) && v13) = true) (fV GRat.rep v14), [], [(44, some 16)], []⟩ ::
      ⟨Fact.when (((((cmpI .eql v4.2 0) && (cmpI .eql v6.2 0)) && (cmpI .eql v11.2 0)) && v13) = true) (fV Rep.bool v15), [], [(44, some 16), (46, some 18), (47, some 19)], []⟩ ::
      ⟨fV Rep.bool (((((cmpI .eql v4.2 0) && (cmpI .eql v6.2 0)) && (cmpI .eql v11.2 0)) && v13) && v15), [], [(44, some 16), (48, some 20)], []⟩ ::
      ⟨fV Rep.bool (((((cmpI .eql v4.2 0) && (cmpI .eql v6.2 0)) && (cmpI .eql v11.2 0)) && v13) && v15), [], [(49, some 21)], []⟩ ::
      ⟨Fact.when ((((((cmpI .eql v4.2 0) && (cmpI .eql v6.2 0)) && (cmpI .eql v11.2 0)) && v13) && v15) = true) (fV GRat.rep v6.1), [], [(50, some 22)], [(3, none)]⟩ ::
      ⟨Fact.when ((((((cmpI .eql v4.2 0) && (cmpI .eql v6.2 0)) && (cmpI .eql v11.2 0)) && v13) && v15) = true) (fV GRat.rep v16), [], [(50, some 22)], []⟩ ::
      ⟨Fact.when ((((((cmpI .eql v4.2 0) && (cmpI .eql v6.2 0)) && (cmpI .eql v11.2 0)) && v13) && v15) = true) (fV Rep.bool v17), [], [(50, some 22), (51, some 23), (52, some 24)], []⟩ ::
      ⟨fV Rep.bool ((((((cmpI .eql v4.2 0) && (cmpI .eql v6.2 0)) && (cmpI .eql v11.2 0)) && v13) && v15) && v17), [], [(50, some 22), (53, some 25)], []⟩ ::
      ⟨fV Rep.bool ((((((cmpI .eql v4.2 0) && (cmpI .eql v6.2 0)) && (cmpI .eql v11.2 0)) && v13) && v15) && v17), [], [(54, some 26)], []⟩ ::
      ⟨Fact.when (((((((cmpI .eql v4.2 0) && (cmpI .eql v6.2 0)) && (cmpI .eql v11.2 0)) && v13) && v15) && v17) = true) (fOff 5 8), [], [(55, some 27)], [(5, none)]⟩ ::
      ⟨Fact.when (((((((cmpI .eql v4.2 0) && (cmpI .eql v6.2 0)) && (cmpI .eql v11.2 0)) && v13) && v15) && v17) = true) (fV GRat.rep v11.1.GM), [], [(55, some 27), (56, some 28)], [(5, none)]⟩ ::
      ⟨Fact.when (((((((cmpI .eql v4.2 0) && (cmpI .eql v6.2 0)) && (cmpI .eql v11.2 0)) && v13) && v15) && v17) = true) (fV GRat.rep v18), [], [(55, some 27)], []⟩ ::
      ⟨Fact.when (((((((cmpI .eql v4.2 0) && (cmpI .eql v6.2 0)) && (cmpI .eql v11.2 0)) && v13) && v15) && v17) = true) (fV Rep.bool v19), [], [(55, some 27), (57, some 29), (58, some 30)], []⟩ ::
      ⟨fV Rep.bool (((((((cmpI .eql v4.2 0) && (cmpI .eql v6.2 0)) && (cmpI .eql v11.2 0)) && v13) && v15) && v17) && v19), [], [(55, some 27), (59, some 31)], []⟩ ::
      ⟨fV Rep.bool (((((((cmpI .eql v4.2 0) && (cmpI .eql v6.2 0)) && (cmpI .eql v11.2 0)) && v13) && v15) && v17) && v19), [], [(60, some 32)], []⟩ ::
      ⟨Fact.when ((((((((cmpI .eql v4.2 0) && (cmpI .eql v6.2 0)) && (cmpI .eql v11.2 0)) && v13) && v15) && v17) && v19) = true) (fOff 5 12), [], [(61, some 33)], [(5, none)]⟩ ::
      ⟨Fact.when ((((((((cmpI .eql v4.2 0) && (cmpI .eql v6.2 0)) && (cmpI .eql v11.2 0)) && v13) && v15) && v17) && v19) = true) (fV GRat.rep v11.1.Other), [], [(61, some 33), (62, some 34)], [(5, none)]⟩ ::
      ⟨Fact.when ((((((((cmpI .eql v4.2 0) && (cmpI .eql v6.2 0)) && (cmpI .eql v11.2 0)) && v13) && v15) && v17) && v19) = true) (fV GRat.rep v20), [], [(61, some 33)], []⟩ ::
      ⟨Fact.when ((((((((cmpI .eql v4.2 0) && (cmpI .eql v6.2 0)) && (cmpI .eql v11.2 0)) && v13) && v15) && v17) && v19) = true) (fV Rep.bool v21), [], [(61, some 33), (63, some 35), (64, some 36)], []⟩ ::
      ⟨fV Rep.bool ((((((((cmpI .eql v4.2 0) && (cmpI .eql v6.2 0)) && (cmpI .eql v11.2 0)) && v13) && v15) && v17) && v19) && v21), [], [(61, some 33), (65, some 37)], []⟩ ::
      ⟨fV Rep.bool ((((((((cmpI .eql v4.2 0) && (cmpI .eql v6.2 0)) && (cmpI .eql v11.2 0)) && v13) && v15) && v17) && v19) && v21), [], [(66, some 38)], []⟩ :: []) (0 :: 1 :: 2 :: 3 :: 4 :: 5 :: 6 :: 7 :: 8 :: 9 :: 10 :: 11 :: 12 :: 13 :: 14 :: 15 :: 16 :: 17 :: 18 :: 19 :: 20 :: 21 :: 22 :: 23 :: 24 :: 25 :: 26 :: 27 :: 28 :: 29 :: 30 :: 31 :: 32 :: 33 :: 34 :: 35 :: 36 :: 37 :: 38 :: 39 :: []) (0 :: 1 :: 2 :: 3 :: 4 :: 5 :: 6 :: 7 :: 8 :: 9 :: 10 :: 11 :: 12 :: 13 :: 14 :: 15 :: 16 :: 17 :: 18 :: 19 :: 20 :: 21 :: 22 :: 23 :: 24 :: 25 :: 26 :: 27 :: 28 :: 29 :: 30 :: 31 :: 32 :: 33 :: 34 :: 35 :: 36 :: 37 :: 38 :: 39 :: []) [0] [] hAt
      ⟨ok_move rfl opd0,
      ok_cmp (op := .eql) (by simp) rfl rfl opd0 opdI,
      ok_move rfl opd0,
      obl_tt rfl rfl rfl rfl rfl rfl rfl (fun hg => ok_move rfl opd1),
      obl_tt rfl rfl rfl rfl rfl rfl rfl (fun hg => ok_cmp (op := .eql) (by simp) rfl rfl (opd1.on hg) opdI),
      ok_and rfl opd0 (fun e => (opd1.on e)),
      ok_move rfl opd0,
      obl_tt rfl rfl rfl rfl rfl rfl rfl (fun hg => ok_move rfl opd1),
      obl_tt rfl rfl rfl rfl rfl rfl rfl (fun hg => ok_cmp (op := .eql) (by simp) rfl rfl (opd1.on hg) opdI),
      ok_and rfl opd0 (fun e => (opd1.on e)),
      ok_move rfl opd0,
      obl_tt rfl rfl rfl rfl rfl rfl rfl (fun hg => ok_fieldOwn fo65_1 rfl),
      obl_tt rfl rfl rfl rfl rfl rfl rfl (fun hg => ok_loadOwn GHydro.l1 ty32 rfl (opd1.on hg)),
      obl_tt rfl rfl rfl rfl rfl rfl rfl (fun hg => ok_call (ok_f_base_W N 320000 _ (iteT hg hv12)) Try.func8 (by kernel_rfl) (by kernel_rfl) rfl ⟨opdI, trivial⟩),
      obl_tt rfl rfl rfl rfl rfl rfl rfl (fun hg => ok_call (ok_f_base_SameRat N v4.1.Displacement v12 _ (iteT hg hv13)) Try.func16 (by kernel_rfl) (by kernel_rfl) rfl ⟨(opd1.on hg), ⟨(opd2.on hg), trivial⟩⟩),
      ok_and rfl opd0 (fun e => (opd1.on e)),
      ok_move rfl opd0,
      obl_tt rfl rfl rfl rfl rfl rfl rfl (fun hg => ok_fieldOwn fo65_8 rfl),
      obl_tt rfl rfl rfl rfl rfl rfl rfl (fun hg => ok_loadOwn GHydro.l8 ty32 rfl (opd1.on hg)),
      obl_tt rfl rfl rfl rfl rfl rfl rfl (fun hg => ok_call (ok_f_base_Q N 11000 3 _ (iteT hg hv14)) Try.func54 (by kernel_rfl) (by kernel_rfl) rfl ⟨opdI, ⟨opdI, trivial⟩⟩),
      obl_tt rfl rfl rfl rfl rfl rfl rfl (fun hg => ok_call (ok_f_base_SameRat N v4.1.Meta v14 _ (iteT hg hv15)) Try.func16 (by kernel_rfl) (by kernel_rfl) rfl ⟨(opd1.on hg), ⟨(opd2.on hg), trivial⟩⟩),
      ok_and rfl opd0 (fun e => (opd1.on e)),
      ok_move rfl opd0,
      obl_tt rfl rfl rfl rfl rfl rfl rfl (fun hg => ok_loadBox ty32 rfl),
      obl_tt rfl rfl rfl rfl rfl rfl rfl (fun hg => ok_call (ok_f_base_W N 2000 _ (iteT hg hv16)) Try.func8 (by kernel_rfl) (by kernel_rfl) rfl ⟨opdI, trivial⟩),
      obl_tt rfl rfl rfl rfl rfl rfl rfl (fun hg => ok_call (ok_f_base_SameRat N v6.1 v16 _ (iteT hg hv17)) Try.func16 (by kernel_rfl) (by kernel_rfl) rfl ⟨(opd1.on hg), ⟨(opd2.on hg), trivial⟩⟩),
      ok_and rfl opd0 (fun e => (opd1.on e)),
      ok_move rfl opd0,
      obl_tt rfl rfl rfl rfl rfl rfl rfl (fun hg => ok_fieldOwn fo48_2 rfl),
      obl_tt rfl rfl rfl rfl rfl rfl rfl (fun hg => ok_loadOwn GStable.l2 ty32 rfl (opd1.on hg)),
      obl_tt rfl rfl rfl rfl rfl rfl rfl (fun hg => ok_call (ok_f_base_W N 750 _ (iteT hg hv18)) Try.func8 (by kernel_rfl) (by kernel_rfl) rfl ⟨opdI, trivial⟩),
      obl_tt rfl rfl rfl rfl rfl rfl rfl (fun hg => ok_call (ok_f_base_SameRat N v11.1.GM v18 _ (iteT hg hv19)) Try.func16 (by kernel_rfl) (by kernel_rfl) rfl ⟨(opd1.on hg), ⟨(opd2.on hg), trivial⟩⟩),
      ok_and rfl opd0 (fun e => (opd1.on e)),
      ok_move rfl opd0,
      obl_tt rfl rfl rfl rfl rfl rfl rfl (fun hg => ok_fieldOwn fo48_3 rfl),
      obl_tt rfl rfl rfl rfl rfl rfl rfl (fun hg => ok_loadOwn GStable.l3 ty32 rfl (opd1.on hg)),
      obl_tt rfl rfl rfl rfl rfl rfl rfl (fun hg => ok_call (ok_f_base_W N 1000 _ (iteT hg hv20)) Try.func8 (by kernel_rfl) (by kernel_rfl) rfl ⟨opdI, trivial⟩),
      obl_tt rfl rfl rfl rfl rfl rfl rfl (fun hg => ok_call (ok_f_base_SameRat N v11.1.Other v20 _ (iteT hg hv21)) Try.func16 (by kernel_rfl) (by kernel_rfl) rfl ⟨(opd1.on hg), ⟨(opd2.on hg), trivial⟩⟩),
      ok_and rfl opd0 (fun e => (opd1.on e)),
      ok_assign rfl opd0, trivial⟩ (by kernel_rfl) ?_
  clear hAt; intro a w hAt; replace hAt : At B h0 (mkG [(0, fV Rep.bool ((((((((cmpI .eql v4.2 0) && (cmpI .eql v6.2 0)) && (cmpI .eql v11.2 0)) && v13) && v15) && v17) && v19) && v21))]) (mkO []) F 67 a w := hAt; refine then_n ?_; refine wp_ret ?_
  cases H
  exact ret1 rfl (rv_tmp rfl rfl) hAt
theorem ok_f_law02_Small (N : Nat) (x0 : GShip) (r : Bool) (H : f_law02_Small N x0 = some r) : FnOk Try.prog 9 [fV GShip.rep x0] (fV Rep.bool r) := by
  unfold f_law02_Small at H; refine fn_enter Try.func9 rfl rfl (by kernel_rfl) ?_; intro κ B h0 F a w hAt; refine wp_seq ?_
  refine reg [⟨fRef GShip.rep x0, [], [(0, none)], []⟩,
      ⟨fV Rep.bool false, [], [], []⟩] [1] [] hAt
      ⟨ok_box rfl opd0,
      ok_assign rfl opdB, trivial⟩ (by kernel_rfl) ?_
  clear hAt; intro a w hAt; replace hAt : At B h0 (mkG [(1, fRef GShip.rep x0)]) (mkO []) F 102 a w := hAt; refine then_n ?_; refine wp_seq ?_; refine wp_seq ?_
  refine reg (⟨fRef Rep.str x0.Name, [], [(1, none)], []⟩ ::
      ⟨fV Rep.str x0.Name, [], [(6, some 0)], []⟩ ::
      ⟨fV r_i64 (List.length x0.Name : Int), [], [(7, some 1)], []⟩ ::
      ⟨fV Rep.bool (cmpI .gtr (List.length x0.Name : Int) 40), [], [(8, some 2)], []⟩ ::
      ⟨fV Rep.bool (cmpI .gtr (List.length x0.Name : Int) 40), [], [(9, some 3)], []⟩ ::
      ⟨Fact.when ((!(cmpI .gtr (List.length x0.Name : Int) 40)) = true) (fRef GLoad.rep x0.Light), [], [(10, some 4), (1, none)], []⟩ ::
      ⟨Fact.when ((!(cmpI .gtr (List.length x0.Name : Int) 40)) = true) (fRef Rep.str x0.Light.Name), [], [(10, some 4), (11, some 5)], []⟩ ::
      ⟨Fact.when ((!(cmpI .gtr (List.length x0.Name : Int) 40)) = true) (fV Rep.str x0.Light.Name), [], [(10, some 4), (12, some 6)], []⟩ ::
      ⟨Fact.when ((!(cmpI .gtr (List.length x0.Name : Int) 40)) = true) (fV r_i64 (List.length x0.Light.Name : Int)), [], [(10, some 4), (13, some 7)], []⟩ ::
      ⟨Fact.when ((!(cmpI .gtr (List.length x0.Name : Int) 40)) = true) (fV Rep.bool (cmpI .gtr (List.length x0.Light.Name : Int) 40)), [], [(10, some 4), (14, some 8)], []⟩ ::
      ⟨fV Rep.bool ((cmpI .gtr (List.length x0.Name : Int) 40) || (cmpI .gtr (List.length x0.Light.Name : Int) 40)), [], [(10, some 4), (15, some 9)], []⟩ ::
      ⟨fV Rep.bool ((cmpI .gtr (List.length x0.Name : Int) 40) || (cmpI .gtr (List.length x0.Light.Name : Int) 40)), [], [(16, some 10)], []⟩ ::
      ⟨Fact.when ((!((cmpI .gtr (List.length x0.Name : Int) 40) || (cmpI .gtr (List.length x0.Light.Name : Int) 40))) = true) (fRef (Rep.slice GStation.rep) x0.Stations), [], [(17, some 11), (1, none)], []⟩ ::
      ⟨Fact.when ((!((cmpI .gtr (List.length x0.Name : Int) 40) || (cmpI .gtr (List.length x0.Light.Name : Int) 40))) = true) (fV (Rep.slice GStation.rep) x0.Stations), [], [(17, some 11), (18, some 12)], []⟩ ::
      ⟨Fact.when ((!((cmpI .gtr (List.length x0.Name : Int) 40) || (cmpI .gtr (List.length x0.Light.Name : Int) 40))) = true) (fV r_i64 (List.length x0.Stations : Int)), [], [(17, some 11), (19, some 13)], []⟩ ::
      ⟨Fact.when ((!((cmpI .gtr (List.length x0.Name : Int) 40) || (cmpI .gtr (List.length x0.Light.Name : Int) 40))) = true) (fV Rep.bool (cmpI .gtr (List.length x0.Stations : Int) 6)), [], [(17, some 11), (20, some 14)], []⟩ ::
      ⟨Fact.when ((!((cmpI .gtr (List.length x0.Name : Int) 40) || (cmpI .gtr (List.length x0.Light.Name : Int) 40))) = true) (fV Rep.bool (cmpI .gtr (List.length x0.Stations : Int) 6)), [], [(17, some 11), (21, some 15)], []⟩ ::
      ⟨Fact.when (((!((cmpI .gtr (List.length x0.Name : Int) 40) || (cmpI .gtr (List.length x0.Light.Name : Int) 40))) && (cmpI .gtr (List.length x0.Stations : Int) 6)) = true) (fRef (Rep.slice GStation.rep) x0.Stations), [], [(22, some 16), (1, none)], []⟩ ::
      ⟨Fact.when (((!((cmpI .gtr (List.length x0.Name : Int) 40) || (cmpI .gtr (List.length x0.Light.Name : Int) 40))) && (cmpI .gtr (List.length x0.Stations : Int) 6)) = true) (fV (Rep.slice GStation.rep) x0.Stations), [], [(22, some 16), (23, some 17)], []⟩ ::
      ⟨Fact.when (((!((cmpI .gtr (List.length x0.Name : Int) 40) || (cmpI .gtr (List.length x0.Light.Name : Int) 40))) && (cmpI .gtr (List.length x0.Stations : Int) 6)) = true) (fV r_i64 (List.length x0.Stations : Int)), [], [(22, some 16), (24, some 18)], []⟩ ::
      ⟨Fact.when (((!((cmpI .gtr (List.length x0.Name : Int) 40) || (cmpI .gtr (List.length x0.Light.Name : Int) 40))) && (cmpI .gtr (List.length x0.Stations : Int) 6)) = true) (fV Rep.bool (cmpI .leq (List.length x0.Stations : Int) 40)), [], [(22, some 16), (25, some 19)], []⟩ ::
      ⟨Fact.when ((!((cmpI .gtr (List.length x0.Name : Int) 40) || (cmpI .gtr (List.length x0.Light.Name : Int) 40))) = true) (fV Rep.bool ((cmpI .gtr (List.length x0.Stations : Int) 6) && (cmpI .leq (List.length x0.Stations : Int) 40))), [], [(17, some 11), (22, some 16), (26, some 20)], []⟩ ::
      ⟨fV Rep.bool (((cmpI .gtr (List.length x0.Name : Int) 40) || (cmpI .gtr (List.length x0.Light.Name : Int) 40)) || ((cmpI .gtr (List.length x0.Stations : Int) 6) && (cmpI .leq (List.length x0.Stations : Int) 40))), [], [(17, some 11), (27, some 21)], []⟩ ::
      ⟨fV Rep.bool (((cmpI .gtr (List.length x0.Name : Int) 40) || (cmpI .gtr (List.length x0.Light.Name : Int) 40)) || ((cmpI .gtr (List.length x0.Stations : Int) 6) && (cmpI .leq (List.length x0.Stations : Int) 40))), [], [(28, some 22)], []⟩ ::
      ⟨Fact.when ((!(((cmpI .gtr (List.length x0.Name : Int) 40) || (cmpI .gtr (List.length x0.Light.Name : Int) 40)) || ((cmpI .gtr (List.length x0.Stations : Int) 6) && (cmpI .leq (List.length x0.Stations : Int) 40)))) = true) (fRef (Rep.slice GStation.rep) x0.Stations), [], [(29, some 23), (1, none)], []⟩ ::
      ⟨Fact.when ((!(((cmpI .gtr (List.length x0.Name : Int) 40) || (cmpI .gtr (List.length x0.Light.Name : Int) 40)) || ((cmpI .gtr (List.length x0.Stations : Int) 6) && (cmpI .leq (List.length x0.Stations : Int) 40)))) = true) (fV (Rep.slice GStation.rep) x0.Stations), [], [(29, some 23), (30, some 24)], []⟩ ::
      ⟨Fact.when ((!(((cmpI .gtr (List.length x0.Name : Int) 40) || (cmpI .gtr (List.length x0.Light.Name : Int) 40)) || ((cmpI .gtr (List.length x0.Stations : Int) 6) && (cmpI .leq (List.length x0.Stations : Int) 40)))) = true) (fV r_i64 (List.length x0.Stations : Int)), [], [(29, some 23), (31, some 25)], []⟩ ::
      ⟨Fact.when ((!(((cmpI .gtr (List.length x0.Name : Int) 40) || (cmpI .gtr (List.length x0.Light.Name : Int) 40)) || ((cmpI .gtr (List.length x0.Stations : Int) 6) && (cmpI .leq (List.length x0.Stations : Int) 40)))) = true) (fV Rep.bool (cmpI .gtr (List.length x0.Stations : Int) 45)), [], [(29, some 23), (32, some 26)], []⟩ ::
      ⟨fV Rep.bool ((((cmpI .gtr (List.length x0.Name : Int) 40) || (cmpI .gtr (List.length x0.Light.Name : Int) 40)) || ((cmpI .gtr (List.length x0.Stations : Int) 6) && (cmpI .leq (List.length x0.Stations : Int) 40))) || (cmpI .gtr (List.length x0.Stations : Int) 45)), [], [(29, some 23), (33, some 27)], []⟩ ::
      ⟨fV Rep.bool ((((cmpI .gtr (List.length x0.Name : Int) 40) || (cmpI .gtr (List.length x0.Light.Name : Int) 40)) || ((cmpI .gtr (List.length x0.Stations : Int) 6) && (cmpI .leq (List.length x0.Stations : Int) 40))) || (cmpI .gtr (List.length x0.Stations : Int) 45)), [], [(34, some 28)], []⟩ ::
      ⟨Fact.when ((!((((cmpI .gtr (List.length x0.Name : Int) 40) || (cmpI .gtr (List.length x0.Light.Name : Int) 40)) || ((cmpI .gtr (List.length x0.Stations : Int) 6) && (cmpI .leq (List.length x0.Stations : Int) 40))) || (cmpI .gtr (List.length x0.Stations : Int) 45))) = true) (fRef (Rep.slice GLoad.rep) x0.Items), [], [(35, some 29), (1, none)], []⟩ ::
      ⟨Fact.when ((!((((cmpI .gtr (List.length x0.Name : Int) 40) || (cmpI .gtr (List.length x0.Light.Name : Int) 40)) || ((cmpI .gtr (List.length x0.Stations : Int) 6) && (cmpI .leq (List.length x0.Stations : Int) 40))) || (cmpI .gtr (List.length x0.Stations : Int) 45))) = true) (fV (Rep.slice GLoad.rep) x0.Items), [], [(35, some 29), (36, some 30)], []⟩ ::
      ⟨Fact.when ((!((((cmpI .gtr (List.length x0.Name : Int) 40) || (cmpI .gtr (List.length x0.Light.Name : Int) 40)) || ((cmpI .gtr (List.length x0.Stations : Int) 6) && (cmpI .leq (List.length x0.Stations : Int) 40))) || (cmpI .gtr (List.length x0.Stations : Int) 45))) = true) (fV r_i64 (List.length x0.Items : Int)), [], [(35, some 29), (37, some 31)], []⟩ ::
      ⟨Fact.when ((!((((cmpI .gtr (List.length x0.Name : Int) 40) || (cmpI .gtr (List.length x0.Light.Name : Int) 40)) || ((cmpI .gtr (List.length x0.Stations : Int) 6) && (cmpI .leq (List.length x0.Stations : Int) 40))) || (cmpI .gtr (List.length x0.Stations : Int) 45))) = true) (fV Rep.bool (cmpI .gtr (List.length x0.Items : Int) 8)), [], [(35, some 29), (38, some 32)], []⟩ ::
      ⟨Fact.when ((!((((cmpI .gtr (List.length x0.Name : Int) 40) || (cmpI .gtr (List.length x0.Light.Name : Int) 40)) || ((cmpI .gtr (List.length x0.Stations : Int) 6) && (cmpI .leq (List.length x0.Stations : Int) 40))) || (cmpI .gtr (List.length x0.Stations : Int) 45))) = true) (fV Rep.bool (cmpI .gtr (List.length x0.Items : Int) 8)), [], [(35, some 29), (39, some 33)], []⟩ ::
      ⟨Fact.when (((!((((cmpI .gtr (List.length x0.Name : Int) 40) || (cmpI .gtr (List.length x0.Light.Name : Int) 40)) || ((cmpI .gtr (List.length x0.Stations : Int) 6) && (cmpI .leq (List.length x0.Stations : Int) 40))) || (cmpI .gtr (List.length x0.Stations : Int) 45))) && (cmpI .gtr (List.length x0.Items : Int) 8)) = true) (fRef (Rep.slice GLoad.rep) x0.Items), [], [(40, some 34), (1, none)], []⟩ ::
      ⟨Fact.when (((!((((cmpI .gtr (List.length x0.Name : Int) 40) || (cmpI .gtr (List.length x0.Light.Name : Int) 40)) || ((cmpI .gtr (List.length x0.Stations : Int) 6) && (cmpI .leq (List.length x0.Stations : Int) 40))) || (cmpI .gtr (List.length x0.Stations : Int) 45))) && (cmpI .gtr (List.length x0.Items : Int) 8)) = true) (fV (Rep.slice GLoad.rep) x0.Items), [], [(40, some 34), (41, some 35)], []⟩ ::
      ⟨Fact.when (((!((((cmpI .gtr (List.length x0.Name : Int) 40) || (cmpI .gtr (List.length x0.Light.Name : Int) 40)) || ((cmpI .gtr (List.length x0.Stations : Int) 6) && (cmpI .leq (List.length x0.Stations : Int) 40))) || (cmpI .gtr (List.length x0.Stations : Int) 45))) && (cmpI .gtr (List.length x0.Items : Int) 8)) = true) (fV r_i64 (List.length x0.Items : Int)), [], [(40, some 34), (42, some 36)], []⟩ ::
      ⟨Fact.when (((!((((cmpI .gtr (List.length x0.Name : Int) 40) || (cmpI .gtr (List.length x0.Light.Name : Int) 40)) || ((cmpI .gtr (List.length x0.Stations : Int) 6) && (cmpI .leq (List.length x0.Stations : Int) 40))) || (cmpI .gtr (List.length x0.Stations : Int) 45))) && (cmpI .gtr (List.length x0.Items : Int) 8)) = true) (fV Rep.bool (cmpI .leq (List.length x0.Items : Int) 60)), [], [(40, some 34), (43, some 37)], []⟩ ::
      ⟨Fact.when ((!((((cmpI .gtr (List.length x0.Name : Int) 40) || (cmpI .gtr (List.length x0.Light.Name : Int) 40)) || ((cmpI .gtr (List.length x0.Stations : Int) 6) && (cmpI .leq (List.length x0.Stations : Int) 40))) || (cmpI .gtr (List.length x0.Stations : Int) 45))) = true) (fV Rep.bool ((cmpI .gtr (List.length x0.Items : Int) 8) && (cmpI .leq (List.length x0.Items : Int) 60))), [], [(35, some 29), (40, some 34), (44, some 38)], []⟩ ::
      ⟨fV Rep.bool (((((cmpI .gtr (List.length x0.Name : Int) 40) || (cmpI .gtr (List.length x0.Light.Name : Int) 40)) || ((cmpI .gtr (List.length x0.Stations : Int) 6) && (cmpI .leq (List.length x0.Stations : Int) 40))) || (cmpI .gtr (List.length x0.Stations : Int) 45)) || ((cmpI .gtr (List.length x0.Items : Int) 8) && (cmpI .leq (List.length x0.Items : Int) 60))), [], [(35, some 29), (45, some 39)], []⟩ ::
      ⟨fV Rep.bool (((((cmpI .gtr (List.length x0.Name : Int) 40) || (cmpI .gtr (List.length x0.Light.Name : Int) 40)) || ((cmpI .gtr (List.length x0.Stations : Int) 6) && (cmpI .leq (List.length x0.Stations : Int) 40))) || (cmpI .gtr (List.length x0.Stations : Int) 45)) || ((cmpI .gtr (List.length x0.Items : Int) 8) && (cmpI .leq (List.length x0.Items : Int) 60))), [], [(46, some 40)], []⟩ ::
      ⟨Fact.when ((!(((((cmpI .gtr (List.length x0.Name : Int) 40) || (cmpI .gtr (List.length x0.Light.Name : Int) 40)) || ((cmpI .gtr (List.length x0.Stations : Int) 6) && (cmpI .leq (List.length x0.Stations : Int) 40))) || (cmpI .gtr (List.length x0.Stations : Int) 45)) || ((cmpI .gtr (List.length x0.Items : Int) 8) && (cmpI .leq (List.length x0.Items : Int) 60)))) = true) (fRef (Rep.slice GLoad.rep) x0.Items), [], [(47, some 41), (1, none)], []⟩ ::
      ⟨Fact.when ((!(((((cmpI .gtr (List.length x0.Name : Int) 40) || (cmpI .gtr (List.length x0.Light.Name : Int) 40)) || ((cmpI .gtr (List.length x0.Stations : Int) 6) && (cmpI .leq (List.length x0.Stations : Int) 40))) || (cmpI .gtr (List.length x0.Stations : Int) 45)) || ((cmpI .gtr (List.length x0.Items : Int) 8) && (cmpI .leq (List.length x0.Items : Int) 60)))) = true) (fV (Rep.slice GLoad.rep) x0.Items), [], [(47, some 41), (48, some 42)], []⟩ ::
      ⟨Fact.when ((!(((((cmpI .gtr (List.length x0.Name : Int) 40) || (cmpI .gtr (List.length x0.Light.Name : Int) 40)) || ((cmpI .gtr (List.length x0.Stations : Int) 6) && (cmpI .leq (List.length x0.Stations : Int) 40))) || (cmpI .gtr (List.length x0.Stations : Int) 45)) || ((cmpI .gtr (List.length x0.Items : Int) 8) && (cmpI .leq (List.length x0.Items : Int) 60)))) = true) (fV r_i64 (List.length x0.Items : Int)), [], [(47, some 41), (49, some 43)], []⟩ ::
      ⟨Fact.when ((!(((((cmpI .gtr (List.length x0.Name : Int) 40) || (cmpI .gtr (List.length x0.Light.Name : Int) 40)) || ((cmpI .gtr (List.length x0.Stations : Int) 6) && (cmpI .leq (List.length x0.Stations : Int) 40))) || (cmpI .gtr (List.length x0.Stations : Int) 45)) || ((cmpI .gtr (List.length x0.Items : Int) 8) && (cmpI .leq (List.length x0.Items : Int) 60)))) = true) (fV Rep.bool (cmpI .gtr (List.length x0.Items : Int) 205)), [], [(47, some 41), (50, some 44)], []⟩ ::
      ⟨fV Rep.bool ((((((cmpI .gtr (List.length x0.Name : Int) 40) || (cmpI .gtr (List.length x0.Light.Name : Int) 40)) || ((cmpI .gtr (List.length x0.Stations : Int) 6) && (cmpI .leq (List.length x0.Stations : Int) 40))) || (cmpI .gtr (List.length x0.Stations : Int) 45)) || ((cmpI .gtr (List.length x0.Items : Int) 8) && (cmpI .leq (List.length x0.Items : Int) 60))) || (cmpI .gtr (List.length x0.Items : Int) 205)), [], [(47, some 41), (51, some 45)], []⟩ :: []) [1, 52] [] hAt
      ⟨ok_field GShip.l0 fo27_0 rfl opd0,
      ok_load ty9 rfl opd0,
      ok_lenS un9 rfl opd0,
      ok_cmp (op := .gtr) (by simp) rfl rfl opd0 opdI,
      ok_move rfl opd0,
      obl_tf rfl rfl rfl rfl rfl rfl rfl (fun hg => ok_field GShip.l3 fo27_3 rfl opd1),
      obl_tf rfl rfl rfl rfl rfl rfl rfl (fun hg => ok_field GLoad.l0 fo24_0 rfl (opd1.on hg)),
      obl_tf rfl rfl rfl rfl rfl rfl rfl (fun hg => ok_load ty9 rfl (opd1.on hg)),
      obl_tf rfl rfl rfl rfl rfl rfl rfl (fun hg => ok_lenS un9 rfl (opd1.on hg)),
      obl_tf rfl rfl rfl rfl rfl rfl rfl (fun hg => ok_cmp (op := .gtr) (by simp) rfl rfl (opd1.on hg) opdI),
      ok_or rfl opd0 (fun e => (opd1.on (notT e))),
      ok_move rfl opd0,
      obl_tf rfl rfl rfl rfl rfl rfl rfl (fun hg => ok_field GShip.l2 fo27_2 rfl opd1),
      obl_tf rfl rfl rfl rfl rfl rfl rfl (fun hg => ok_load ty22 rfl (opd1.on hg)),
      obl_tf rfl rfl rfl rfl rfl rfl rfl (fun hg => ok_len un22 rfl (opd1.on hg)),
      obl_tf rfl rfl rfl rfl rfl rfl rfl (fun hg => ok_cmp (op := .gtr) (by simp) rfl rfl (opd1.on hg) opdI),
      obl_tf rfl rfl rfl rfl rfl rfl rfl (fun hg => ok_move rfl (opd1.on hg)),
      obl_wt rfl rfl rfl rfl rfl rfl rfl (fun hg => ok_field GShip.l2 fo27_2 rfl opd1),
      obl_wt rfl rfl rfl rfl rfl rfl rfl (fun hg => ok_load ty22 rfl (opd1.on hg)),
      obl_wt rfl rfl rfl rfl rfl rfl rfl (fun hg => ok_len un22 rfl (opd1.on hg)),
      obl_wt rfl rfl rfl rfl rfl rfl rfl (fun hg => ok_cmp (op := .leq) (by simp) rfl rfl (opd1.on hg) opdI),
      obl_tf rfl rfl rfl rfl rfl rfl rfl (fun hg => ok_and rfl (opd1.on hg) (fun e => (opd2.on (andT hg e)))),
      ok_or rfl opd0 (fun e => (opd1.on (notT e))),
      ok_move rfl opd0,
      obl_tf rfl rfl rfl rfl rfl rfl rfl (fun hg => ok_field GShip.l2 fo27_2 rfl opd1),
      obl_tf rfl rfl rfl rfl rfl rfl rfl (fun hg => ok_load ty22 rfl (opd1.on hg)),
      obl_tf rfl rfl rfl rfl rfl rfl rfl (fun hg => ok_len un22 rfl (opd1.on hg)),
      obl_tf rfl rfl rfl rfl rfl rfl rfl (fun hg => ok_cmp (op := .gtr) (by simp) rfl rfl (opd1.on hg) opdI),
      ok_or rfl opd0 (fun e => (opd1.on (notT e))),
      ok_move rfl opd0,
      obl_tf rfl rfl rfl rfl rfl rfl rfl (fun hg => ok_field GShip.l4 fo27_4 rfl opd1),
      obl_tf rfl rfl rfl rfl rfl rfl rfl (fun hg => ok_load ty25 rfl (opd1.on hg)),
      obl_tf rfl rfl rfl rfl rfl rfl rfl (fun hg => ok_len un25 rfl (opd1.on hg)),
      obl_tf rfl rfl rfl rfl rfl rfl rfl (fun hg => ok_cmp (op := .gtr) (by simp) rfl rfl (opd1.on hg) opdI),
      obl_tf rfl rfl rfl rfl rfl rfl rfl (fun hg => ok_move rfl (opd1.on hg)),
      obl_wt rfl rfl rfl rfl rfl rfl rfl (fun hg => ok_field GShip.l4 fo27_4 rfl opd1),
      obl_wt rfl rfl rfl rfl rfl rfl rfl (fun hg => ok_load ty25 rfl (opd1.on hg)),
      obl_wt rfl rfl rfl rfl rfl rfl rfl (fun hg => ok_len un25 rfl (opd1.on hg)),
      obl_wt rfl rfl rfl rfl rfl rfl rfl (fun hg => ok_cmp (op := .leq) (by simp) rfl rfl (opd1.on hg) opdI),
      obl_tf rfl rfl rfl rfl rfl rfl rfl (fun hg => ok_and rfl (opd1.on hg) (fun e => (opd2.on (andT hg e)))),
      ok_or rfl opd0 (fun e => (opd1.on (notT e))),
      ok_move rfl opd0,
      obl_tf rfl rfl rfl rfl rfl rfl rfl (fun hg => ok_field GShip.l4 fo27_4 rfl opd1),
      obl_tf rfl rfl rfl rfl rfl rfl rfl (fun hg => ok_load ty25 rfl (opd1.on hg)),
      obl_tf rfl rfl rfl rfl rfl rfl rfl (fun hg => ok_len un25 rfl (opd1.on hg)),
      obl_tf rfl rfl rfl rfl rfl rfl rfl (fun hg => ok_cmp (op := .gtr) (by simp) rfl rfl (opd1.on hg) opdI),
      ok_or rfl opd0 (fun e => (opd1.on (notT e))), trivial⟩ (by kernel_rfl) ?_
  clear hAt; intro a w hAt
  replace hAt : At B h0 (mkG [(1, fRef GShip.rep x0), (52, fV Rep.bool ((((((cmpI .gtr (List.length x0.Name : Int) 40) || (cmpI .gtr (List.length x0.Light.Name : Int) 40)) || ((cmpI .gtr (List.length x0.Stations : Int) 6) && (cmpI .leq (List.length x0.Stations : Int) 40))) || (cmpI .gtr (List.length x0.Stations : Int) 45)) || ((cmpI .gtr (List.length x0.Items : Int) 8) && (cmpI .leq (List.length x0.Items : Int) 60))) || (cmpI .gtr (List.length x0.Items : Int) 205)))]) (mkO []) F 102 a w := hAt
  refine then_n ?_; refine wp_if hAt (by rfl) ?_ ?_
  · intro hb19; have H := iteT hb19 H; refine wp_seq ?_
    refine reg [⟨fV Rep.bool false, [], [], []⟩] [2] [] hAt
        ⟨ok_assign rfl opdB, trivial⟩ (by kernel_rfl) ?_
    clear hAt; intro a w hAt; replace hAt : At B h0 (mkG [(2, fV Rep.bool false)]) (mkO []) F 102 a w := hAt; refine then_n ?_; refine wp_ret ?_; refine then_r ?_
    cases H
    exact ret1 rfl (rv_tmp rfl rfl) hAt
  · intro hb19; have H := iteF hb19 H; refine wp_skip ?_; refine then_n ?_; refine wp_seq ?_; refine wp_seq ?_
    refine reg [⟨fV r_i64 0, [], [], []⟩] [1, 3] [] hAt
        ⟨ok_assign rfl opdI, trivial⟩ (by kernel_rfl) ?_
    clear hAt; intro a w hAt; replace hAt : At B h0 (mkG [(1, fRef GShip.rep x0), (3, fV r_i64 0)]) (mkO []) F 102 a w := hAt; refine then_n ?_; refine wp_block ?_; obtain ⟨o5, hl6, H⟩ := bindE H
    refine wp_mono (wp_loopN (f := f_law02_Small_L2 N x0) (fun (s1 : Int) a w => At B h0 (mkG [(1, fRef GShip.rep x0), (3, fV r_i64 s1)]) (mkO []) F 102 a w) (fun o e a w => (Sum.elim (fun v => e = .exit 0 ∧ At B h0 (mkG [(1, fRef GShip.rep x0)]) (mkO []) F 102 a w) (fun v => e = .ret ∧ At B h0 (mkG [(2, fV Rep.bool v)]) (mkO []) F 102 a w)) o) ?_ N 0 o5 _ _ hl6 ?_) ?_
    · clear H hAt hl6; intro s1 r18 a w H hAt; unfold f_law02_Small_L2 at H; refine wp_seq ?_; refine wp_seq ?_
      refine reg [⟨fV r_i64 s1, [], [(3, none)], []⟩,
          ⟨fRef (Rep.slice GStation.rep) x0.Stations, [], [(1, none)], []⟩,
          ⟨fV (Rep.slice GStation.rep) x0.Stations, [], [(54, some 1)], []⟩,
          ⟨fV r_i64 (List.length x0.Stations : Int), [], [(55, some 2)], []⟩,
          ⟨fV Rep.bool (cmpI .lss s1 (List.length x0.Stations : Int)), [], [(53, some 0), (56, some 3)], []⟩] [1, 3, 57] [] hAt
          ⟨ok_move rfl opd0,
          ok_field GShip.l2 fo27_2 rfl opd0,
          ok_load ty22 rfl opd0,
          ok_len un22 rfl opd0,
          ok_cmp (op := .lss) (by simp) rfl rfl opd0 opd1, trivial⟩ (by kernel_rfl) ?_
      clear hAt; intro a w hAt; replace hAt : At B h0 (mkG [(1, fRef GShip.rep x0), (3, fV r_i64 s1), (57, fV Rep.bool (cmpI .lss s1 (List.length x0.Stations : Int)))]) (mkO []) F 102 a w := hAt; refine then_n ?_; refine wp_if hAt (by rfl) ?_ ?_
      · intro hb4; have H := iteT hb4 H; refine wp_skip ?_; refine then_n ?_; refine wp_seq ?_; refine wp_block ?_; refine wp_seq ?_; obtain ⟨v2, hv2, H⟩ := bindE H
        refine reg [⟨fRef (Rep.slice GStation.rep) x0.Stations, [], [(1, none)], []⟩,
            ⟨fV (Rep.slice GStation.rep) x0.Stations, [], [(60, some 0)], []⟩,
            ⟨fV r_i64 s1, [], [(3, none)], []⟩,
            ⟨fRef GStation.rep v2, [], [(61, some 1), (62, some 2)], []⟩,
            ⟨fV GStation.rep v2, [], [(63, some 3)], []⟩,
            ⟨Fact.triv, [(4, some (boxE 71 GStation.rep (⟨0, 0, [], []⟩ : GStation)))], [], []⟩,
            ⟨Fact.triv, [(4, some (boxE 71 GStation.rep v2))], [(64, some 4)], [(4, some 5)]⟩] [1, 3] [4] hAt
            ⟨ok_field GShip.l2 fo27_2 rfl opd0,
            ok_load ty22 rfl opd0,
            ok_move rfl opd0,
            ok_index ty71 un22 hv2 rfl opd0 opd1,
            ok_load ty71 rfl opd0,
            ok_alloc ty71 rfl rfl,
            ok_storeBox ty71 rfl rfl opd0, trivial⟩ (by kernel_rfl) ?_
        clear hAt; intro a w hAt; replace hAt : At B h0 (mkG [(1, fRef GShip.rep x0), (3, fV r_i64 s1)]) (mkO [(4, boxE 71 GStation.rep v2)]) F 102 a w := hAt; refine then_n ?_; refine wp_seq ?_
        refine reg [⟨fOff 4 2, [], [], [(4, none)]⟩,
            ⟨fV (Rep.slice r_i64) v2.Levels, [], [(65, some 0)], [(4, none)]⟩,
            ⟨fV r_i64 (List.length v2.Levels : Int), [], [(66, some 1)], []⟩,
            ⟨fV Rep.bool (cmpI .gtr (List.length v2.Levels : Int) 8), [], [(67, some 2)], []⟩,
            ⟨fV Rep.bool (cmpI .gtr (List.length v2.Levels : Int) 8), [], [(68, some 3)], []⟩,
            ⟨Fact.when ((cmpI .gtr (List.length v2.Levels : Int) 8) = true) (fOff 4 2), [], [(69, some 4)], [(4, none)]⟩,
            ⟨Fact.when ((cmpI .gtr (List.length v2.Levels : Int) 8) = true) (fV (Rep.slice r_i64) v2.Levels), [], [(69, some 4), (70, some 5)], [(4, none)]⟩,
            ⟨Fact.when ((cmpI .gtr (List.length v2.Levels : Int) 8) = true) (fV r_i64 (List.length v2.Levels : Int)), [], [(69, some 4), (71, some 6)], []⟩,
            ⟨Fact.when ((cmpI .gtr (List.length v2.Levels : Int) 8) = true) (fV Rep.bool (cmpI .leq (List.length v2.Levels : Int) 30)), [], [(69, some 4), (72, some 7)], []⟩,
            ⟨fV Rep.bool ((cmpI .gtr (List.length v2.Levels : Int) 8) && (cmpI .leq (List.length v2.Levels : Int) 30)), [], [(69, some 4), (73, some 8)], []⟩,
            ⟨fV Rep.bool ((cmpI .gtr (List.length v2.Levels : Int) 8) && (cmpI .leq (List.length v2.Levels : Int) 30)), [], [(74, some 9)], []⟩,
            ⟨Fact.when ((!((cmpI .gtr (List.length v2.Levels : Int) 8) && (cmpI .leq (List.length v2.Levels : Int) 30))) = true) (fOff 4 2), [], [(75, some 10)], [(4, none)]⟩,
            ⟨Fact.when ((!((cmpI .gtr (List.length v2.Levels : Int) 8) && (cmpI .leq (List.length v2.Levels : Int) 30))) = true) (fV (Rep.slice r_i64) v2.Levels), [], [(75, some 10), (76, some 11)], [(4, none)]⟩,
            ⟨Fact.when ((!((cmpI .gtr (List.length v2.Levels : Int) 8) && (cmpI .leq (List.length v2.Levels : Int) 30))) = true) (fV r_i64 (List.length v2.Levels : Int)), [], [(75, some 10), (77, some 12)], []⟩,
            ⟨Fact.when ((!((cmpI .gtr (List.length v2.Levels : Int) 8) && (cmpI .leq (List.length v2.Levels : Int) 30))) = true) (fV Rep.bool (cmpI .gtr (List.length v2.Levels : Int) 40)), [], [(75, some 10), (78, some 13)], []⟩,
            ⟨fV Rep.bool (((cmpI .gtr (List.length v2.Levels : Int) 8) && (cmpI .leq (List.length v2.Levels : Int) 30)) || (cmpI .gtr (List.length v2.Levels : Int) 40)), [], [(75, some 10), (79, some 14)], []⟩,
            ⟨fV Rep.bool (((cmpI .gtr (List.length v2.Levels : Int) 8) && (cmpI .leq (List.length v2.Levels : Int) 30)) || (cmpI .gtr (List.length v2.Levels : Int) 40)), [], [(80, some 15)], []⟩,
            ⟨Fact.when ((!(((cmpI .gtr (List.length v2.Levels : Int) 8) && (cmpI .leq (List.length v2.Levels : Int) 30)) || (cmpI .gtr (List.length v2.Levels : Int) 40))) = true) (fOff 4 3), [], [(81, some 16)], [(4, none)]⟩,
            ⟨Fact.when ((!(((cmpI .gtr (List.length v2.Levels : Int) 8) && (cmpI .leq (List.length v2.Levels : Int) 30)) || (cmpI .gtr (List.length v2.Levels : Int) 40))) = true) (fV (Rep.slice r_i64) v2.Halves), [], [(81, some 16), (82, some 17)], [(4, none)]⟩,
            ⟨Fact.when ((!(((cmpI .gtr (List.length v2.Levels : Int) 8) && (cmpI .leq (List.length v2.Levels : Int) 30)) || (cmpI .gtr (List.length v2.Levels : Int) 40))) = true) (fV r_i64 (List.length v2.Halves : Int)), [], [(81, some 16), (83, some 18)], []⟩,
            ⟨Fact.when ((!(((cmpI .gtr (List.length v2.Levels : Int) 8) && (cmpI .leq (List.length v2.Levels : Int) 30)) || (cmpI .gtr (List.length v2.Levels : Int) 40))) = true) (fV Rep.bool (cmpI .gtr (List.length v2.Halves : Int) 40)), [], [(81, some 16), (84, some 19)], []⟩,
            ⟨fV Rep.bool ((((cmpI .gtr (List.length v2.Levels : Int) 8) && (cmpI .leq (List.length v2.Levels : Int) 30)) || (cmpI .gtr (List.length v2.Levels : Int) 40)) || (cmpI .gtr (List.length v2.Halves : Int) 40)), [], [(81, some 16), (85, some 20)], []⟩] [1, 3, 86] [] hAt
            ⟨ok_fieldOwn fo71_2 rfl,
            ok_loadOwn GStation.l2 ty69 rfl opd0,
            ok_len un69 rfl opd0,
            ok_cmp (op := .gtr) (by simp) rfl rfl opd0 opdI,
            ok_move rfl opd0,
            obl_tt rfl rfl rfl rfl rfl rfl rfl (fun hg => ok_fieldOwn fo71_2 rfl),
            obl_tt rfl rfl rfl rfl rfl rfl rfl (fun hg => ok_loadOwn GStation.l2 ty69 rfl (opd1.on hg)),
            obl_tt rfl rfl rfl rfl rfl rfl rfl (fun hg => ok_len un69 rfl (opd1.on hg)),
            obl_tt rfl rfl rfl rfl rfl rfl rfl (fun hg => ok_cmp (op := .leq) (by simp) rfl rfl (opd1.on hg) opdI),
            ok_and rfl opd0 (fun e => (opd1.on e)),
            ok_move rfl opd0,
            obl_tf rfl rfl rfl rfl rfl rfl rfl (fun hg => ok_fieldOwn fo71_2 rfl),
            obl_tf rfl rfl rfl rfl rfl rfl rfl (fun hg => ok_loadOwn GStation.l2 ty69 rfl (opd1.on hg)),
            obl_tf rfl rfl rfl rfl rfl rfl rfl (fun hg => ok_len un69 rfl (opd1.on hg)),
            obl_tf rfl rfl rfl rfl rfl rfl rfl (fun hg => ok_cmp (op := .gtr) (by simp) rfl rfl (opd1.on hg) opdI),
            ok_or rfl opd0 (fun e => (opd1.on (notT e))),
            ok_move rfl opd0,
            obl_tf rfl rfl rfl rfl rfl rfl rfl (fun hg => ok_fieldOwn fo71_3 rfl),
            obl_tf rfl rfl rfl rfl rfl rfl rfl (fun hg => ok_loadOwn GStation.l3 ty69 rfl (opd1.on hg)),
            obl_tf rfl rfl rfl rfl rfl rfl rfl (fun hg => ok_len un69 rfl (opd1.on hg)),
            obl_tf rfl rfl rfl rfl rfl rfl rfl (fun hg => ok_cmp (op := .gtr) (by simp) rfl rfl (opd1.on hg) opdI),
            ok_or rfl opd0 (fun e => (opd1.on (notT e))), trivial⟩ (by kernel_rfl) ?_
        clear hAt; intro a w hAt; replace hAt : At B h0 (mkG [(1, fRef GShip.rep x0), (3, fV r_i64 s1), (86, fV Rep.bool ((((cmpI .gtr (List.length v2.Levels : Int) 8) && (cmpI .leq (List.length v2.Levels : Int) 30)) || (cmpI .gtr (List.length v2.Levels : Int) 40)) || (cmpI .gtr (List.length v2.Halves : Int) 40)))]) (mkO []) F 102 a w := hAt; refine then_n ?_; refine wp_if hAt (by rfl) ?_ ?_
        · intro hb3; have H := iteT hb3 H; refine wp_seq ?_
          refine reg [⟨fV Rep.bool false, [], [], []⟩] [2] [] hAt
              ⟨ok_assign rfl opdB, trivial⟩ (by kernel_rfl) ?_
          clear hAt; intro a w hAt; replace hAt : At B h0 (mkG [(2, fV Rep.bool false)]) (mkO []) F 102 a w := hAt; refine then_n ?_; refine wp_ret ?_; refine blk_r ?_; refine then_r ?_
          cases H
          exact ⟨ret_ne, rfl, hAt.pick [2] []⟩
        · intro hb3; have H := iteF hb3 H; refine wp_skip ?_; refine blk_n ?_; refine then_n ?_
          refine reg [⟨fV r_i64 s1, [], [(3, none)], []⟩,
              ⟨fV r_i64 (IntKind.i64.wrap (s1 + 1)), [], [(58, some 0)], []⟩,
              ⟨fV r_i64 (IntKind.i64.wrap (s1 + 1)), [], [(59, some 1)], []⟩] [1, 3] [] hAt
              ⟨ok_move rfl opd0,
              ok_add rfl opd0 opdI,
              ok_assign rfl opd0, trivial⟩ (by kernel_rfl) ?_
          clear hAt; intro a w hAt; replace hAt : At B h0 (mkG [(1, fRef GShip.rep x0), (3, fV r_i64 (IntKind.i64.wrap (s1 + 1)))]) (mkO []) F 102 a w := hAt
          cases H
          exact ⟨rfl, hAt.pick [1, 3] []⟩
      · intro hb4; have H := iteF hb4 H; refine wp_exit ?_; refine then_x ?_
        cases H
        exact ⟨ex_ne, rfl, hAt.pick [1] []⟩
    · exact hAt.pick [1, 3] []
    · clear hAt; intro e a w hp
      cases o5 with
      | inl l7 =>
        rw [Sum.elim_inl] at H; obtain ⟨rfl, hAt⟩ := hp; refine blk_eq ?_; refine then_n ?_; refine wp_seq ?_; refine wp_seq ?_
        refine reg [⟨fV r_i64 0, [], [], []⟩] [1, 5] [] hAt
            ⟨ok_assign rfl opdI, trivial⟩ (by kernel_rfl) ?_
        clear hAt; intro a w hAt; replace hAt : At B h0 (mkG [(1, fRef GShip.rep x0), (5, fV r_i64 0)]) (mkO []) F 102 a w := hAt; refine then_n ?_; refine wp_block ?_; obtain ⟨o13, hl14, H⟩ := bindE H
        refine wp_mono (wp_loopN (f := f_law02_Small_L1 N x0) (fun (s9 : Int) a w => At B h0 (mkG [(1, fRef GShip.rep x0), (5, fV r_i64 s9)]) (mkO []) F 102 a w) (fun o e a w => (Sum.elim (fun v => e = .exit 2 ∧ At B h0 (mkG []) (mkO []) F 102 a w) (fun v => e = .ret ∧ At B h0 (mkG [(2, fV Rep.bool v)]) (mkO []) F 102 a w)) o) ?_ N 0 o13 _ _ hl14 ?_) ?_
        · clear H hAt hl14; intro s9 r17 a w H hAt; unfold f_law02_Small_L1 at H; refine wp_seq ?_; refine wp_seq ?_
          refine reg [⟨fV r_i64 s9, [], [(5, none)], []⟩,
              ⟨fRef (Rep.slice GLoad.rep) x0.Items, [], [(1, none)], []⟩,
              ⟨fV (Rep.slice GLoad.rep) x0.Items, [], [(88, some 1)], []⟩,
              ⟨fV r_i64 (List.length x0.Items : Int), [], [(89, some 2)], []⟩,
              ⟨fV Rep.bool (cmpI .lss s9 (List.length x0.Items : Int)), [], [(87, some 0), (90, some 3)], []⟩] [1, 5, 91] [] hAt
              ⟨ok_move rfl opd0,
              ok_field GShip.l4 fo27_4 rfl opd0,
              ok_load ty25 rfl opd0,
              ok_len un25 rfl opd0,
              ok_cmp (op := .lss) (by simp) rfl rfl opd0 opd1, trivial⟩ (by kernel_rfl) ?_
          clear hAt; intro a w hAt; replace hAt : At B h0 (mkG [(1, fRef GShip.rep x0), (5, fV r_i64 s9), (91, fV Rep.bool (cmpI .lss s9 (List.length x0.Items : Int)))]) (mkO []) F 102 a w := hAt; refine then_n ?_; refine wp_if hAt (by rfl) ?_ ?_
          · intro hb12; have H := iteT hb12 H; refine wp_skip ?_; refine then_n ?_; refine wp_seq ?_; refine wp_block ?_; refine wp_seq ?_; obtain ⟨v10, hv10, H⟩ := bindE H
            refine reg [⟨fRef (Rep.slice GLoad.rep) x0.Items, [], [(1, none)], []⟩,
                ⟨fV (Rep.slice GLoad.rep) x0.Items, [], [(94, some 0)], []⟩,
                ⟨fV r_i64 s9, [], [(5, none)], []⟩,
                ⟨fRef GLoad.rep v10, [], [(95, some 1), (96, some 2)], []⟩,
                ⟨fRef Rep.str v10.Name, [], [(97, some 3)], []⟩,
                ⟨fV Rep.str v10.Name, [], [(98, some 4)], []⟩,
                ⟨fV r_i64 (List.length v10.Name : Int), [], [(99, some 5)], []⟩,
                ⟨fV Rep.bool (cmpI .gtr (List.length v10.Name : Int) 40), [], [(100, some 6)], []⟩] [1, 5, 101] [] hAt
                ⟨ok_field GShip.l4 fo27_4 rfl opd0,
                ok_load ty25 rfl opd0,
                ok_move rfl opd0,
                ok_index ty24 un25 hv10 rfl opd0 opd1,
                ok_field GLoad.l0 fo24_0 rfl opd0,
                ok_load ty9 rfl opd0,
                ok_lenS un9 rfl opd0,
                ok_cmp (op := .gtr) (by simp) rfl rfl opd0 opdI, trivial⟩ (by kernel_rfl) ?_
            clear hAt; intro a w hAt; replace hAt : At B h0 (mkG [(1, fRef GShip.rep x0), (5, fV r_i64 s9), (101, fV Rep.bool (cmpI .gtr (List.length v10.Name : Int) 40))]) (mkO []) F 102 a w := hAt; refine then_n ?_; refine wp_if hAt (by rfl) ?_ ?_
            · intro hb11; have H := iteT hb11 H; refine wp_seq ?_
              refine reg [⟨fV Rep.bool false, [], [], []⟩] [2] [] hAt
                  ⟨ok_assign rfl opdB, trivial⟩ (by kernel_rfl) ?_
              clear hAt; intro a w hAt; replace hAt : At B h0 (mkG [(2, fV Rep.bool false)]) (mkO []) F 102 a w := hAt; refine then_n ?_; refine wp_ret ?_; refine blk_r ?_; refine then_r ?_
              cases H
              exact ⟨ret_ne, rfl, hAt.pick [2] []⟩
            · intro hb11; have H := iteF hb11 H; refine wp_skip ?_; refine blk_n ?_; refine then_n ?_
              refine reg [⟨fV r_i64 s9, [], [(5, none)], []⟩,
                  ⟨fV r_i64 (IntKind.i64.wrap (s9 + 1)), [], [(92, some 0)], []⟩,
                  ⟨fV r_i64 (IntKind.i64.wrap (s9 + 1)), [], [(93, some 1)], []⟩] [1, 5] [] hAt
                  ⟨ok_move rfl opd0,
                  ok_add rfl opd0 opdI,
                  ok_assign rfl opd0, trivial⟩ (by kernel_rfl) ?_
              clear hAt; intro a w hAt; replace hAt : At B h0 (mkG [(1, fRef GShip.rep x0), (5, fV r_i64 (IntKind.i64.wrap (s9 + 1)))]) (mkO []) F 102 a w := hAt
              cases H
              exact ⟨rfl, hAt.pick [1, 5] []⟩
          · intro hb12; have H := iteF hb12 H; refine wp_exit ?_; refine then_x ?_
            cases H
            exact ⟨ex_ne, rfl, hAt.pick [] []⟩
        · exact hAt.pick [1, 5] []
        · clear hAt; intro e a w hp
          cases o13 with
          | inl l15 =>
            rw [Sum.elim_inl] at H; obtain ⟨rfl, hAt⟩ := hp; refine blk_eq ?_; refine then_n ?_; refine wp_seq ?_
            refine reg [⟨fV Rep.bool true, [], [], []⟩] [2] [] hAt
                ⟨ok_assign rfl opdB, trivial⟩ (by kernel_rfl) ?_
            clear hAt; intro a w hAt; replace hAt : At B h0 (mkG [(2, fV Rep.bool true)]) (mkO []) F 102 a w := hAt; refine then_n ?_; refine wp_ret ?_
            cases H
            exact ret1 rfl (rv_tmp rfl rfl) hAt
          | inr r16 =>
            rw [Sum.elim_inr] at H; replace hp := hp; obtain ⟨rfl, hAt⟩ := hp; refine blk_r ?_; refine then_r ?_
            cases H
            exact ret1 rfl (rv_tmp rfl rfl) hAt
      | inr r8 =>
        rw [Sum.elim_inr] at H; replace hp := hp; obtain ⟨rfl, hAt⟩ := hp; refine blk_r ?_; refine then_r ?_
        cases H
        exact ret1 rfl (rv_tmp rfl rfl) hAt
theorem ok_f_base_CopyInts (N : Nat) (x0 : (List Int)) (r : (List Int)) (H : f_base_CopyInts N x0 = some r) : FnOk Try.prog 55 [fV (Rep.slice r_i64) x0] (fV (Rep.slice r_i64) r) := by
  unfold f_base_CopyInts at H; refine fn_enter Try.func55 rfl rfl (by kernel_rfl) ?_; intro κ B h0 F a w hAt; refine wp_seq ?_
  refine reg [⟨fV (Rep.slice r_i64) [], [(2, some (tipE 3 r_i64.sz))], [], []⟩] [0] [] hAt
      ⟨ok_nilTip rfl (.inl rfl), trivial⟩ (by kernel_rfl) ?_
  clear hAt; intro a w hAt; replace hAt : At B h0 (mkG [(0, fV (Rep.slice r_i64) x0)]) (mkO []) F 6 a w := hAt; refine then_n ?_; refine wp_seq ?_; obtain ⟨v1, hv1, H⟩ := bindE H
  refine reg [⟨fV (Rep.slice r_i64) ([] : (List Int)), [(3, some (tipE 3 r_i64.sz))], [], []⟩,
      ⟨fV (Rep.slice r_i64) x0, [], [(0, none)], []⟩,
      ⟨fV (Rep.slice r_i64) v1, [(3, none), (5, some (tipE 3 r_i64.sz))], [(3, some 0), (4, some 1)], [(3, some 0)]⟩,
      ⟨fV (Rep.slice r_i64) v1, [(5, none), (2, some (tipE 3 r_i64.sz))], [(5, some 2)], [(5, some 2)]⟩] [2] [2] hAt
      ⟨ok_buildTip ty3 un69 rfl rfl rfl fillN,
      ok_move rfl opd0,
      ok_append hv1 el3 un69 rfl rfl rfl opd0 opd1,
      ok_moveOwn rfl rfl (.inr rfl) opd0, trivial⟩ (by kernel_rfl) ?_
  clear hAt; intro a w hAt; replace hAt : At B h0 (mkG [(2, fV (Rep.slice r_i64) v1)]) (mkO [(2, tipE 3 r_i64.sz)]) F 6 a w := hAt; refine then_n ?_; refine wp_ret ?_
  cases H
  exact ret1 rfl (rv_tmp rfl rfl) hAt
end Go.KB
