/- The Go functions compute what the plain functions compute. Printed by a program. No condition. -/
import Derived.Test.YtbedbjphickpaaaGProof6
namespace Go.KB
open Go.Proofs
set_option maxRecDepth 100000
set_option linter.unusedVariables false
theorem ok_f_law02_copied (N : Nat) (x0 : GShip) (r : GShip) (H : f_law02_copied N x0 = some r) : FnOk Try.prog 19 [fV GShip.rep x0] (fV GShip.rep r) := by
  unfold f_law02_copied at H; refine fn_enter Try.func19 rfl rfl (by kernel_rfl) ?_; intro κ B h0 F a w hAt; refine wp_seq ?_
  refine reg [⟨fRef GShip.rep x0, [], [(0, none)], []⟩,
      ⟨Fact.triv, [(2, some (boxE 27 GShip.rep (⟨[], 0, [], (⟨[], 0, 0, 0, 0⟩ : GLoad), []⟩ : GShip)))], [], []⟩] [1] [2] hAt
      ⟨ok_box rfl opd0,
      ok_alloc ty27 rfl rfl, trivial⟩ (by kernel_rfl) ?_
  clear hAt; intro a w hAt; replace hAt : At B h0 (mkG [(1, fRef GShip.rep x0)]) (mkO [(2, boxE 27 GShip.rep (⟨[], 0, [], (⟨[], 0, 0, 0, 0⟩ : GLoad), []⟩ : GShip))]) F 42 a w := hAt; refine then_n ?_; refine wp_seq ?_
  refine reg [⟨fV GShip.rep x0, [], [(1, none)], []⟩,
      ⟨Fact.triv, [(3, some (boxT 27 GShip.rep (⟨[], 0, [], (⟨[], 0, 0, 0, 0⟩ : GLoad), []⟩ : GShip) ([⟨2, 71, GStation.rep.sz⟩] : List TipS)))], [], []⟩,
      ⟨Fact.triv, [(3, some (boxT 27 GShip.rep x0 ([] : List TipS)))], [(6, some 0)], [(3, some 1)]⟩] [1] [2, 3] hAt
      ⟨ok_load ty27 rfl opd0,
      ok_allocT ([⟨2, 71, GStation.rep.sz⟩] : List TipS) ty27 ⟨rfl, trivial⟩ rfl rfl,
      ok_storeBoxT ty27 rfl rfl opd0, trivial⟩ (by kernel_rfl) ?_
  clear hAt; intro a w hAt; replace hAt : At B h0 (mkG [(1, fRef GShip.rep x0)]) (mkO [(2, boxE 27 GShip.rep (⟨[], 0, [], (⟨[], 0, 0, 0, 0⟩ : GLoad), []⟩ : GShip)), (3, boxT 27 GShip.rep x0 ([] : List TipS))]) F 42 a w := hAt; refine then_n ?_; refine wp_seq ?_; obtain ⟨v1, hv1, H⟩ := bindE H
  refine reg [⟨fV (Rep.slice GLoad.rep) ([] : (List GLoad)), [(7, some (tipE 24 GLoad.rep.sz))], [], []⟩,
      ⟨fRef (Rep.slice GLoad.rep) x0.Items, [], [(1, none)], []⟩,
      ⟨fV (Rep.slice GLoad.rep) x0.Items, [], [(8, some 1)], []⟩,
      ⟨fV (Rep.slice GLoad.rep) v1, [(7, none), (10, some (tipE 24 GLoad.rep.sz))], [(7, some 0), (9, some 2)], [(7, some 0)]⟩,
      ⟨fOff 3 2, [], [], [(3, none)]⟩,
      ⟨Fact.triv, [(3, some (boxT 27 GShip.rep ({ x0 with Stations := ([] : (List GStation)) } : GShip) ([⟨2, 71, GStation.rep.sz⟩] : List TipS)))], [(11, some 4)], [(3, none)]⟩,
      ⟨fOff 3 8, [], [], [(3, some 5)]⟩,
      ⟨Fact.triv, [(3, some (boxT 27 GShip.rep ({ ({ x0 with Stations := ([] : (List GStation)) } : GShip) with Items := v1 } : GShip) ([⟨2, 71, GStation.rep.sz⟩] : List TipS)))], [(12, some 6), (10, some 3)], [(3, some 5)]⟩] [1] [2, 3] hAt
      ⟨ok_buildTip ty24 un25 rfl rfl rfl fillN,
      ok_field GShip.l4 fo27_4 rfl opd0,
      ok_load ty25 rfl opd0,
      ok_append hv1 el24 un25 rfl rfl rfl opd0 opd1,
      ok_fieldOwnT fo27_2 rfl,
      ok_storeNilT (l1 := ([] : List TipS)) (l2 := ([] : List TipS)) (E := 71) (sz := GStation.rep.sz) GShip.l2 ty22 rfl rfl rfl opd0 rfl,
      ok_fieldOwnT fo27_4 rfl,
      ok_storeT GShip.l4 ty25 rfl rfl rfl opd0 opd1 rfl, trivial⟩ (by kernel_rfl) ?_
  clear hAt; intro a w hAt; replace hAt : At B h0 (mkG [(1, fRef GShip.rep x0)]) (mkO [(2, boxE 27 GShip.rep (⟨[], 0, [], (⟨[], 0, 0, 0, 0⟩ : GLoad), []⟩ : GShip)), (3, boxT 27 GShip.rep ({ ({ x0 with Stations := ([] : (List GStation)) } : GShip) with Items := v1 } : GShip) ([⟨2, 71, GStation.rep.sz⟩] : List TipS))]) F 42 a w := hAt; refine then_n ?_; refine wp_seq ?_; refine wp_seq ?_
  refine reg [⟨fV r_i64 0, [], [], []⟩] [1, 4] [2, 3] hAt
      ⟨ok_assign rfl opdI, trivial⟩ (by kernel_rfl) ?_
  clear hAt; intro a w hAt; replace hAt : At B h0 (mkG [(1, fRef GShip.rep x0), (4, fV r_i64 0)]) (mkO [(2, boxE 27 GShip.rep (⟨[], 0, [], (⟨[], 0, 0, 0, 0⟩ : GLoad), []⟩ : GShip)), (3, boxT 27 GShip.rep ({ ({ x0 with Stations := ([] : (List GStation)) } : GShip) with Items := v1 } : GShip) ([⟨2, 71, GStation.rep.sz⟩] : List TipS))]) F 42 a w := hAt; refine then_n ?_; refine wp_block ?_
  obtain ⟨o8, hl9, H⟩ := bindE H
  refine wp_mono (wp_loopN (f := f_law02_copied_L1 N x0) (fun (s2 : (GShip × Int)) a w => At B h0 (mkG [(1, fRef GShip.rep x0), (4, fV r_i64 s2.2)]) (mkO [(2, boxE 27 GShip.rep (⟨[], 0, [], (⟨[], 0, 0, 0, 0⟩ : GLoad), []⟩ : GShip)), (3, boxT 27 GShip.rep s2.1 ([⟨2, 71, GStation.rep.sz⟩] : List TipS))]) F 42 a w) (fun o e a w => (fun v => e = .exit 0 ∧ At B h0 (mkG []) (mkO [(2, boxE 27 GShip.rep (⟨[], 0, [], (⟨[], 0, 0, 0, 0⟩ : GLoad), []⟩ : GShip)), (3, boxT 27 GShip.rep v ([⟨2, 71, GStation.rep.sz⟩] : List TipS))]) F 42 a w) o) ?_ N (({ ({ x0 with Stations := ([] : (List GStation)) } : GShip) with Items := v1 } : GShip), 0) o8 _ _ hl9 ?_) ?_
  · clear H hAt hl9; intro s2 r10 a w H hAt; unfold f_law02_copied_L1 at H; refine wp_seq ?_; refine wp_seq ?_
    refine reg [⟨fV r_i64 s2.2, [], [(4, none)], []⟩,
        ⟨fRef (Rep.slice GStation.rep) x0.Stations, [], [(1, none)], []⟩,
        ⟨fV (Rep.slice GStation.rep) x0.Stations, [], [(14, some 1)], []⟩,
        ⟨fV r_i64 (List.length x0.Stations : Int), [], [(15, some 2)], []⟩,
        ⟨fV Rep.bool (cmpI .lss s2.2 (List.length x0.Stations : Int)), [], [(13, some 0), (16, some 3)], []⟩] [1, 4, 17] [2, 3] hAt
        ⟨ok_move rfl opd0,
        ok_field GShip.l2 fo27_2 rfl opd0,
        ok_load ty22 rfl opd0,
        ok_len un22 rfl opd0,
        ok_cmp (op := .lss) (by simp) rfl rfl opd0 opd1, trivial⟩ (by kernel_rfl) ?_
    clear hAt; intro a w hAt; replace hAt : At B h0 (mkG [(1, fRef GShip.rep x0), (4, fV r_i64 s2.2), (17, fV Rep.bool (cmpI .lss s2.2 (List.length x0.Stations : Int)))]) (mkO [(2, boxE 27 GShip.rep (⟨[], 0, [], (⟨[], 0, 0, 0, 0⟩ : GLoad), []⟩ : GShip)), (3, boxT 27 GShip.rep s2.1 ([⟨2, 71, GStation.rep.sz⟩] : List TipS))]) F 42 a w := hAt; refine then_n ?_; refine wp_if hAt (by rfl) ?_ ?_
    · intro hb7; have H := iteT hb7 H; refine wp_skip ?_; refine then_n ?_; refine wp_seq ?_; refine wp_block ?_; refine wp_seq ?_; obtain ⟨v3, hv3, H⟩ := bindE H
      refine reg [⟨fRef (Rep.slice GStation.rep) x0.Stations, [], [(1, none)], []⟩,
          ⟨fV (Rep.slice GStation.rep) x0.Stations, [], [(20, some 0)], []⟩,
          ⟨fV r_i64 s2.2, [], [(4, none)], []⟩,
          ⟨fRef GStation.rep v3, [], [(21, some 1), (22, some 2)], []⟩,
          ⟨fV GStation.rep v3, [], [(23, some 3)], []⟩,
          ⟨Fact.triv, [(5, some (boxE 71 GStation.rep (⟨0, 0, [], []⟩ : GStation)))], [], []⟩,
          ⟨Fact.triv, [(5, some (boxE 71 GStation.rep v3))], [(24, some 4)], [(5, some 5)]⟩] [1, 4] [2, 3, 5] hAt
          ⟨ok_field GShip.l2 fo27_2 rfl opd0,
          ok_load ty22 rfl opd0,
          ok_move rfl opd0,
          ok_index ty71 un22 hv3 rfl opd0 opd1,
          ok_load ty71 rfl opd0,
          ok_alloc ty71 rfl rfl,
          ok_storeBox ty71 rfl rfl opd0, trivial⟩ (by kernel_rfl) ?_
      clear hAt; intro a w hAt; replace hAt : At B h0 (mkG [(1, fRef GShip.rep x0), (4, fV r_i64 s2.2)]) (mkO [(2, boxE 27 GShip.rep (⟨[], 0, [], (⟨[], 0, 0, 0, 0⟩ : GLoad), []⟩ : GShip)), (3, boxT 27 GShip.rep s2.1 ([⟨2, 71, GStation.rep.sz⟩] : List TipS)), (5, boxE 71 GStation.rep v3)]) F 42 a w := hAt; refine then_n ?_; obtain ⟨v4, hv4, H⟩ := bindE H; obtain ⟨v5, hv5, H⟩ := bindE H
      obtain ⟨v6, hv6, H⟩ := bindE H
      refine regd [⟨fOff 3 2, [], [], [(3, none)]⟩,
          ⟨fV (Rep.slice GStation.rep) s2.1.Stations, [(3, some (boxT 27 GShip.rep s2.1 ([] : List TipS))), (26, some (tipE 71 GStation.rep.sz))], [(25, some 0)], [(3, none)]⟩,
          ⟨fOff 5 0, [], [], [(5, none)]⟩,
          ⟨fV r_i64 v3.X, [], [(27, some 2)], [(5, none)]⟩,
          ⟨fOff 5 1, [], [], [(5, none)]⟩,
          ⟨fV r_i64 v3.Width, [], [(29, some 4)], [(5, none)]⟩,
          ⟨fOff 5 2, [], [], [(5, none)]⟩,
          ⟨fV (Rep.slice r_i64) v3.Levels, [], [(31, some 6)], [(5, none)]⟩,
          ⟨fV (Rep.slice r_i64) v4, [], [(32, some 7)], []⟩,
          ⟨fOff 5 3, [], [], [(5, none)]⟩,
          ⟨fV (Rep.slice r_i64) v3.Halves, [], [(34, some 9)], [(5, none)]⟩,
          ⟨fV (Rep.slice r_i64) v5, [], [(35, some 10)], []⟩,
          ⟨fV GStation.rep (⟨v3.X, v3.Width, v4, v5⟩ : GStation), [], [(28, some 3), (30, some 5), (33, some 8), (36, some 11)], []⟩,
          ⟨fV (Rep.slice GStation.rep) [(⟨v3.X, v3.Width, v4, v5⟩ : GStation)], [], [(37, some 12)], []⟩,
          ⟨fV (Rep.slice GStation.rep) v6, [(26, none), (39, some (tipE 71 GStation.rep.sz))], [(26, some 1), (38, some 13)], [(26, some 1)]⟩,
          ⟨fOff 3 2, [], [], [(3, some 1)]⟩,
          ⟨Fact.triv, [(3, some (boxT 27 GShip.rep ({ s2.1 with Stations := v6 } : GShip) ([⟨2, 71, GStation.rep.sz⟩] : List TipS))), (39, none)], [(40, some 15), (39, some 14)], [(3, some 1), (39, some 14)]⟩] [0, 1, 2, 3, 4, 5, 6, 7, 8, 9, 10, 11, 12, 13, 14, 15, 16] [0, 1, 2, 3, 4, 5, 6, 7, 8, 9, 10, 11, 12, 13, 14, 15, 16] [1, 4] [2, 3] hAt
          ⟨ok_fieldOwnT fo27_2 rfl,
          ok_loadTip (l1 := ([] : List TipS)) (l2 := ([] : List TipS)) (E := 71) (sz := GStation.rep.sz) GShip.l2 ty22 rfl rfl rfl opd0,
          ok_fieldOwn fo71_0 rfl,
          ok_loadOwn GStation.l0 ty3 rfl opd0,
          ok_fieldOwn fo71_1 rfl,
          ok_loadOwn GStation.l1 ty3 rfl opd0,
          ok_fieldOwn fo71_2 rfl,
          ok_loadOwn GStation.l2 ty69 rfl opd0,
          ok_call (ok_f_base_CopyInts N v3.Levels _ hv4) Try.func55 (by kernel_rfl) (by kernel_rfl) rfl ⟨opd0, trivial⟩,
          ok_fieldOwn fo71_3 rfl,
          ok_loadOwn GStation.l3 ty69 rfl opd0,
          ok_call (ok_f_base_CopyInts N v3.Halves _ hv5) Try.func55 (by kernel_rfl) (by kernel_rfl) rfl ⟨opd0, trivial⟩,
          ok_build ty71 rfl pl71 rfl (fillC GStation.l0 rfl opd0 (fillC GStation.l1 rfl opd1 (fillC GStation.l2 rfl opd2 (fillC GStation.l3 rfl opd3 fillN)))),
          ok_buildSlice ty71 un22 rfl rfl (fillC (Lens.arr _ _ 0 (by decide)) rfl opd0 fillN),
          ok_append hv6 el71 un22 rfl rfl rfl opd0 opd1,
          ok_fieldOwnT fo27_2 rfl,
          ok_storeTip (l1 := ([] : List TipS)) (l2 := ([] : List TipS)) (E := 71) (sz := GStation.rep.sz) GShip.l2 ty22 rfl rfl rfl rfl opd0 opd1 rfl, trivial⟩ (by kernel_rfl) ?_
      clear hAt; intro a w hAt; replace hAt : At B h0 (mkG [(1, fRef GShip.rep x0), (4, fV r_i64 s2.2)]) (mkO [(2, boxE 27 GShip.rep (⟨[], 0, [], (⟨[], 0, 0, 0, 0⟩ : GLoad), []⟩ : GShip)), (3, boxT 27 GShip.rep ({ s2.1 with Stations := v6 } : GShip) ([⟨2, 71, GStation.rep.sz⟩] : List TipS))]) F 42 a w := hAt; refine blk_n ?_; refine then_n ?_
      refine reg [⟨fV r_i64 s2.2, [], [(4, none)], []⟩,
          ⟨fV r_i64 (IntKind.i64.wrap (s2.2 + 1)), [], [(18, some 0)], []⟩,
          ⟨fV r_i64 (IntKind.i64.wrap (s2.2 + 1)), [], [(19, some 1)], []⟩] [1, 4] [2, 3] hAt
          ⟨ok_move rfl opd0,
          ok_add rfl opd0 opdI,
          ok_assign rfl opd0, trivial⟩ (by kernel_rfl) ?_
      clear hAt; intro a w hAt; replace hAt : At B h0 (mkG [(1, fRef GShip.rep x0), (4, fV r_i64 (IntKind.i64.wrap (s2.2 + 1)))]) (mkO [(2, boxE 27 GShip.rep (⟨[], 0, [], (⟨[], 0, 0, 0, 0⟩ : GLoad), []⟩ : GShip)), (3, boxT 27 GShip.rep ({ s2.1 with Stations := v6 } : GShip) ([⟨2, 71, GStation.rep.sz⟩] : List TipS))]) F 42 a w := hAt
      cases H
      exact ⟨rfl, hAt.pick [1, 4] [2, 3]⟩
    · intro hb7; have H := iteF hb7 H; refine wp_exit ?_; refine then_x ?_
      cases H
      exact ⟨ex_ne, rfl, hAt.pick [] [2, 3]⟩
  · exact hAt.pick [1, 4] [2, 3]
  · clear hAt; intro e a w hp; obtain ⟨rfl, hAt⟩ := hp; refine blk_eq ?_; refine then_n ?_; refine wp_seq ?_
    refine reg [⟨fV GShip.rep o8, [], [], [(3, none)]⟩,
        ⟨Fact.triv, [(2, some (boxE 27 GShip.rep o8))], [(41, some 0)], [(2, none)]⟩] [] [2] hAt
        ⟨ok_loadBoxT ty27 rfl,
        ok_storeBox ty27 rfl rfl opd0, trivial⟩ (by kernel_rfl) ?_
    clear hAt; intro a w hAt; replace hAt : At B h0 (mkG []) (mkO [(2, boxE 27 GShip.rep o8)]) F 42 a w := hAt; refine then_n ?_; refine wp_ret ?_
    cases H
    exact ret1 rfl (rv_cell ty27 rfl) hAt
theorem ok_f_base_IsName (N : Nat) (x0 : Str) (r : Bool) (H : f_base_IsName N x0 = some r) : FnOk Try.prog 56 [fV Rep.str x0] (fV Rep.bool r) := by
  unfold f_base_IsName at H; refine fn_enter Try.func56 rfl rfl (by kernel_rfl) ?_; intro κ B h0 F a w hAt; refine wp_seq ?_
  refine reg [⟨fV Rep.bool false, [], [], []⟩] [0] [] hAt
      ⟨ok_assign rfl opdB, trivial⟩ (by kernel_rfl) ?_
  clear hAt; intro a w hAt; replace hAt : At B h0 (mkG [(0, fV Rep.str x0)]) (mkO []) F 55 a w := hAt; refine then_n ?_; refine wp_seq ?_; refine wp_seq ?_
  refine reg [⟨fV Rep.str x0, [], [(0, none)], []⟩,
      ⟨fV r_i64 (List.length x0 : Int), [], [(6, some 0)], []⟩,
      ⟨fV Rep.bool (cmpI .lss (List.length x0 : Int) 1), [], [(7, some 1)], []⟩,
      ⟨fV Rep.bool (cmpI .lss (List.length x0 : Int) 1), [], [(8, some 2)], []⟩,
      ⟨Fact.when ((!(cmpI .lss (List.length x0 : Int) 1)) = true) (fV Rep.str x0), [], [(9, some 3), (0, none)], []⟩,
      ⟨Fact.when ((!(cmpI .lss (List.length x0 : Int) 1)) = true) (fV r_i64 (List.length x0 : Int)), [], [(9, some 3), (10, some 4)], []⟩,
      ⟨Fact.when ((!(cmpI .lss (List.length x0 : Int) 1)) = true) (fV Rep.bool (cmpI .gtr (List.length x0 : Int) 12)), [], [(9, some 3), (11, some 5)], []⟩,
      ⟨fV Rep.bool ((cmpI .lss (List.length x0 : Int) 1) || (cmpI .gtr (List.length x0 : Int) 12)), [], [(9, some 3), (12, some 6)], []⟩] [0, 13] [] hAt
      ⟨ok_move rfl opd0,
      ok_lenS un9 rfl opd0,
      ok_cmp (op := .lss) (by simp) rfl rfl opd0 opdI,
      ok_move rfl opd0,
      obl_tf rfl rfl rfl rfl rfl rfl rfl (fun hg => ok_move rfl opd1),
      obl_tf rfl rfl rfl rfl rfl rfl rfl (fun hg => ok_lenS un9 rfl (opd1.on hg)),
      obl_tf rfl rfl rfl rfl rfl rfl rfl (fun hg => ok_cmp (op := .gtr) (by simp) rfl rfl (opd1.on hg) opdI),
      ok_or rfl opd0 (fun e => (opd1.on (notT e))), trivial⟩ (by kernel_rfl) ?_
  clear hAt; intro a w hAt; replace hAt : At B h0 (mkG [(0, fV Rep.str x0), (13, fV Rep.bool ((cmpI .lss (List.length x0 : Int) 1) || (cmpI .gtr (List.length x0 : Int) 12)))]) (mkO []) F 55 a w := hAt; refine then_n ?_; refine wp_if hAt (by rfl) ?_ ?_
  · intro hb10; have H := iteT hb10 H; refine wp_seq ?_
    refine reg [⟨fV Rep.bool false, [], [], []⟩] [2] [] hAt
        ⟨ok_assign rfl opdB, trivial⟩ (by kernel_rfl) ?_
    clear hAt; intro a w hAt; replace hAt : At B h0 (mkG [(2, fV Rep.bool false)]) (mkO []) F 55 a w := hAt; refine then_n ?_; refine wp_ret ?_; refine then_r ?_
    cases H
    exact ret1 rfl (rv_tmp rfl rfl) hAt
  · intro hb10; have H := iteF hb10 H; refine wp_skip ?_; refine then_n ?_; refine wp_seq ?_; refine wp_seq ?_
    refine reg [⟨fV r_i64 0, [], [], []⟩] [0, 3] [] hAt
        ⟨ok_assign rfl opdI, trivial⟩ (by kernel_rfl) ?_
    clear hAt; intro a w hAt; replace hAt : At B h0 (mkG [(0, fV Rep.str x0), (3, fV r_i64 0)]) (mkO []) F 55 a w := hAt; refine then_n ?_; refine wp_block ?_; obtain ⟨o5, hl6, H⟩ := bindE H
    refine wp_mono (wp_loopN (f := f_base_IsName_L1 N x0) (fun (s1 : Int) a w => At B h0 (mkG [(0, fV Rep.str x0), (3, fV r_i64 s1)]) (mkO []) F 55 a w) (fun o e a w => (Sum.elim (fun v => e = .exit 0 ∧ At B h0 (mkG []) (mkO []) F 55 a w) (fun v => e = .ret ∧ At B h0 (mkG [(2, fV Rep.bool v)]) (mkO []) F 55 a w)) o) ?_ N 0 o5 _ _ hl6 ?_) ?_
    · clear H hAt hl6; intro s1 r9 a w H hAt; unfold f_base_IsName_L1 at H; refine wp_seq ?_; refine wp_seq ?_
      refine reg [⟨fV r_i64 s1, [], [(3, none)], []⟩,
          ⟨fV Rep.str x0, [], [(0, none)], []⟩,
          ⟨fV r_i64 (List.length x0 : Int), [], [(15, some 1)], []⟩,
          ⟨fV Rep.bool (cmpI .lss s1 (List.length x0 : Int)), [], [(14, some 0), (16, some 2)], []⟩] [0, 3, 17] [] hAt
          ⟨ok_move rfl opd0,
          ok_move rfl opd0,
          ok_lenS un9 rfl opd0,
          ok_cmp (op := .lss) (by simp) rfl rfl opd0 opd1, trivial⟩ (by kernel_rfl) ?_
      clear hAt; intro a w hAt; replace hAt : At B h0 (mkG [(0, fV Rep.str x0), (3, fV r_i64 s1), (17, fV Rep.bool (cmpI .lss s1 (List.length x0 : Int)))]) (mkO []) F 55 a w := hAt; refine then_n ?_; refine wp_if hAt (by rfl) ?_ ?_
      · intro hb4; have H := iteT hb4 H; refine wp_skip ?_; refine then_n ?_; refine wp_seq ?_; refine wp_block ?_; refine wp_seq ?_; obtain ⟨v2, hv2, H⟩ := bindE H
        refine reg [⟨fV Rep.str x0, [], [(0, none)], []⟩,
            ⟨fV r_i64 s1, [], [(3, none)], []⟩,
            ⟨fV r_u8 ((UInt8.toNat v2 : Nat) : Int), [], [(20, some 0), (21, some 1)], []⟩,
            ⟨fV r_u8 ((UInt8.toNat v2 : Nat) : Int), [], [(22, some 2)], []⟩] [0, 3, 4] [] hAt
            ⟨ok_move rfl opd0,
            ok_move rfl opd0,
            ok_indexS hv2 un9 rfl opd0 opd1,
            ok_assign rfl opd0, trivial⟩ (by kernel_rfl) ?_
        clear hAt; intro a w hAt; replace hAt : At B h0 (mkG [(0, fV Rep.str x0), (3, fV r_i64 s1), (4, fV r_u8 ((UInt8.toNat v2 : Nat) : Int))]) (mkO []) F 55 a w := hAt; refine then_n ?_; refine wp_seq ?_
        refine reg [⟨fV r_u8 ((UInt8.toNat v2 : Nat) : Int), [], [(4, none)], []⟩,
            ⟨fV Rep.bool (cmpI .geq ((UInt8.toNat v2 : Nat) : Int) 97), [], [(23, some 0)], []⟩,
            ⟨fV Rep.bool (cmpI .geq ((UInt8.toNat v2 : Nat) : Int) 97), [], [(24, some 1)], []⟩,
            ⟨Fact.when ((cmpI .geq ((UInt8.toNat v2 : Nat) : Int) 97) = true) (fV r_u8 ((UInt8.toNat v2 : Nat) : Int)), [], [(25, some 2), (4, none)], []⟩,
            ⟨Fact.when ((cmpI .geq ((UInt8.toNat v2 : Nat) : Int) 97) = true) (fV Rep.bool (cmpI .leq ((UInt8.toNat v2 : Nat) : Int) 122)), [], [(25, some 2), (26, some 3)], []⟩,
            ⟨fV Rep.bool ((cmpI .geq ((UInt8.toNat v2 : Nat) : Int) 97) && (cmpI .leq ((UInt8.toNat v2 : Nat) : Int) 122)), [], [(25, some 2), (27, some 4)], []⟩,
            ⟨fV Rep.bool ((cmpI .geq ((UInt8.toNat v2 : Nat) : Int) 97) && (cmpI .leq ((UInt8.toNat v2 : Nat) : Int) 122)), [], [(28, some 5)], []⟩,
            ⟨Fact.when ((!((cmpI .geq ((UInt8.toNat v2 : Nat) : Int) 97) && (cmpI .leq ((UInt8.toNat v2 : Nat) : Int) 122))) = true) (fV r_u8 ((UInt8.toNat v2 : Nat) : Int)), [], [(29, some 6), (4, none)], []⟩,
            ⟨Fact.when ((!((cmpI .geq ((UInt8.toNat v2 : Nat) : Int) 97) && (cmpI .leq ((UInt8.toNat v2 : Nat) : Int) 122))) = true) (fV Rep.bool (cmpI .geq ((UInt8.toNat v2 : Nat) : Int) 65)), [], [(29, some 6), (30, some 7)], []⟩,
            ⟨Fact.when ((!((cmpI .geq ((UInt8.toNat v2 : Nat) : Int) 97) && (cmpI .leq ((UInt8.toNat v2 : Nat) : Int) 122))) = true) (fV Rep.bool (cmpI .geq ((UInt8.toNat v2 : Nat) : Int) 65)), [], [(29, some 6), (31, some 8)], []⟩,
            ⟨Fact.when (((!((cmpI .geq ((UInt8.toNat v2 : Nat) : Int) 97) && (cmpI .leq ((UInt8.toNat v2 : Nat) : Int) 122))) && (cmpI .geq ((UInt8.toNat v2 : Nat) : Int) 65)) = true) (fV r_u8 ((UInt8.toNat v2 : Nat) : Int)), [], [(32, some 9), (4, none)], []⟩,
            ⟨Fact.when (((!((cmpI .geq ((UInt8.toNat v2 : Nat) : Int) 97) && (cmpI .leq ((UInt8.toNat v2 : Nat) : Int) 122))) && (cmpI .geq ((UInt8.toNat v2 : Nat) : Int) 65)) = true) (fV Rep.bool (cmpI .leq ((UInt8.toNat v2 : Nat) : Int) 90)), [], [(32, some 9), (33, some 10)], []⟩,
            ⟨Fact.when ((!((cmpI .geq ((UInt8.toNat v2 : Nat) : Int) 97) && (cmpI .leq ((UInt8.toNat v2 : Nat) : Int) 122))) = true) (fV Rep.bool ((cmpI .geq ((UInt8.toNat v2 : Nat) : Int) 65) && (cmpI .leq ((UInt8.toNat v2 : Nat) : Int) 90))), [], [(29, some 6), (32, some 9), (34, some 11)], []⟩,
            ⟨fV Rep.bool (((cmpI .geq ((UInt8.toNat v2 : Nat) : Int) 97) && (cmpI .leq ((UInt8.toNat v2 : Nat) : Int) 122)) || ((cmpI .geq ((UInt8.toNat v2 : Nat) : Int) 65) && (cmpI .leq ((UInt8.toNat v2 : Nat) : Int) 90))), [], [(29, some 6), (35, some 12)], []⟩,
            ⟨fV Rep.bool (((cmpI .geq ((UInt8.toNat v2 : Nat) : Int) 97) && (cmpI .leq ((UInt8.toNat v2 : Nat) : Int) 122)) || ((cmpI .geq ((UInt8.toNat v2 : Nat) : Int) 65) && (cmpI .leq ((UInt8.toNat v2 : Nat) : Int) 90))), [], [(36, some 13)], []⟩] [0, 3, 4, 5] [] hAt
            ⟨ok_move rfl opd0,
            ok_cmp (op := .geq) (by simp) rfl rfl opd0 opdI,
            ok_move rfl opd0,
            obl_tt rfl rfl rfl rfl rfl rfl rfl (fun hg => ok_move rfl opd1),
            obl_tt rfl rfl rfl rfl rfl rfl rfl (fun hg => ok_cmp (op := .leq) (by simp) rfl rfl (opd1.on hg) opdI),
            ok_and rfl opd0 (fun e => (opd1.on e)),
            ok_move rfl opd0,
            obl_tf rfl rfl rfl rfl rfl rfl rfl (fun hg => ok_move rfl opd1),
            obl_tf rfl rfl rfl rfl rfl rfl rfl (fun hg => ok_cmp (op := .geq) (by simp) rfl rfl (opd1.on hg) opdI),
            obl_tf rfl rfl rfl rfl rfl rfl rfl (fun hg => ok_move rfl (opd1.on hg)),
            obl_wt rfl rfl rfl rfl rfl rfl rfl (fun hg => ok_move rfl opd1),
            obl_wt rfl rfl rfl rfl rfl rfl rfl (fun hg => ok_cmp (op := .leq) (by simp) rfl rfl (opd1.on hg) opdI),
            obl_tf rfl rfl rfl rfl rfl rfl rfl (fun hg => ok_and rfl (opd1.on hg) (fun e => (opd2.on (andT hg e)))),
            ok_or rfl opd0 (fun e => (opd1.on (notT e))),
            ok_assign rfl opd0, trivial⟩ (by kernel_rfl) ?_
        clear hAt; intro a w hAt; replace hAt : At B h0 (mkG [(0, fV Rep.str x0), (3, fV r_i64 s1), (4, fV r_u8 ((UInt8.toNat v2 : Nat) : Int)), (5, fV Rep.bool (((cmpI .geq ((UInt8.toNat v2 : Nat) : Int) 97) && (cmpI .leq ((UInt8.toNat v2 : Nat) : Int) 122)) || ((cmpI .geq ((UInt8.toNat v2 : Nat) : Int) 65) && (cmpI .leq ((UInt8.toNat v2 : Nat) : Int) 90))))]) (mkO []) F 55 a w := hAt; refine then_n ?_
        refine wp_seq ?_
        refine reg [⟨fV Rep.bool (((cmpI .geq ((UInt8.toNat v2 : Nat) : Int) 97) && (cmpI .leq ((UInt8.toNat v2 : Nat) : Int) 122)) || ((cmpI .geq ((UInt8.toNat v2 : Nat) : Int) 65) && (cmpI .leq ((UInt8.toNat v2 : Nat) : Int) 90))), [], [(5, none)], []⟩,
            ⟨fV Rep.bool (!(((cmpI .geq ((UInt8.toNat v2 : Nat) : Int) 97) && (cmpI .leq ((UInt8.toNat v2 : Nat) : Int) 122)) || ((cmpI .geq ((UInt8.toNat v2 : Nat) : Int) 65) && (cmpI .leq ((UInt8.toNat v2 : Nat) : Int) 90)))), [], [(37, some 0)], []⟩,
            ⟨fV Rep.bool (!(((cmpI .geq ((UInt8.toNat v2 : Nat) : Int) 97) && (cmpI .leq ((UInt8.toNat v2 : Nat) : Int) 122)) || ((cmpI .geq ((UInt8.toNat v2 : Nat) : Int) 65) && (cmpI .leq ((UInt8.toNat v2 : Nat) : Int) 90)))), [], [(38, some 1)], []⟩,
            ⟨Fact.when ((!(((cmpI .geq ((UInt8.toNat v2 : Nat) : Int) 97) && (cmpI .leq ((UInt8.toNat v2 : Nat) : Int) 122)) || ((cmpI .geq ((UInt8.toNat v2 : Nat) : Int) 65) && (cmpI .leq ((UInt8.toNat v2 : Nat) : Int) 90)))) = true) (fV r_i64 s1), [], [(39, some 2), (3, none)], []⟩,
            ⟨Fact.when ((!(((cmpI .geq ((UInt8.toNat v2 : Nat) : Int) 97) && (cmpI .leq ((UInt8.toNat v2 : Nat) : Int) 122)) || ((cmpI .geq ((UInt8.toNat v2 : Nat) : Int) 65) && (cmpI .leq ((UInt8.toNat v2 : Nat) : Int) 90)))) = true) (fV Rep.bool (cmpI .eql s1 0)), [], [(39, some 2), (40, some 3)], []⟩,
            ⟨Fact.when ((!(((cmpI .geq ((UInt8.toNat v2 : Nat) : Int) 97) && (cmpI .leq ((UInt8.toNat v2 : Nat) : Int) 122)) || ((cmpI .geq ((UInt8.toNat v2 : Nat) : Int) 65) && (cmpI .leq ((UInt8.toNat v2 : Nat) : Int) 90)))) = true) (fV Rep.bool (cmpI .eql s1 0)), [], [(39, some 2), (41, some 4)], []⟩,
            ⟨Fact.when (((!(((cmpI .geq ((UInt8.toNat v2 : Nat) : Int) 97) && (cmpI .leq ((UInt8.toNat v2 : Nat) : Int) 122)) || ((cmpI .geq ((UInt8.toNat v2 : Nat) : Int) 65) && (cmpI .leq ((UInt8.toNat v2 : Nat) : Int) 90)))) && (!(cmpI .eql s1 0))) = true) (fV r_u8 ((UInt8.toNat v2 : Nat) : Int)), [], [(42, some 5), (4, none)], []⟩,
            ⟨Fact.when (((!(((cmpI .geq ((UInt8.toNat v2 : Nat) : Int) 97) && (cmpI .leq ((UInt8.toNat v2 : Nat) : Int) 122)) || ((cmpI .geq ((UInt8.toNat v2 : Nat) : Int) 65) && (cmpI .leq ((UInt8.toNat v2 : Nat) : Int) 90)))) && (!(cmpI .eql s1 0))) = true) (fV Rep.bool (cmpI .neq ((UInt8.toNat v2 : Nat) : Int) 45)), [], [(42, some 5), (43, some 6)], []⟩,
            ⟨Fact.when (((!(((cmpI .geq ((UInt8.toNat v2 : Nat) : Int) 97) && (cmpI .leq ((UInt8.toNat v2 : Nat) : Int) 122)) || ((cmpI .geq ((UInt8.toNat v2 : Nat) : Int) 65) && (cmpI .leq ((UInt8.toNat v2 : Nat) : Int) 90)))) && (!(cmpI .eql s1 0))) = true) (fV Rep.bool (cmpI .neq ((UInt8.toNat v2 : Nat) : Int) 45)), [], [(42, some 5), (44, some 7)], []⟩,
            ⟨Fact.when ((((!(((cmpI .geq ((UInt8.toNat v2 : Nat) : Int) 97) && (cmpI .leq ((UInt8.toNat v2 : Nat) : Int) 122)) || ((cmpI .geq ((UInt8.toNat v2 : Nat) : Int) 65) && (cmpI .leq ((UInt8.toNat v2 : Nat) : Int) 90)))) && (!(cmpI .eql s1 0))) && (cmpI .neq ((UInt8.toNat v2 : Nat) : Int) 45)) = true) (fV r_u8 ((UInt8.toNat v2 : Nat) : Int)), [], [(45, some 8), (4, none)], []⟩,
            ⟨Fact.when ((((!(((cmpI .geq ((UInt8.toNat v2 : Nat) : Int) 97) && (cmpI .leq ((UInt8.toNat v2 : Nat) : Int) 122)) || ((cmpI .geq ((UInt8.toNat v2 : Nat) : Int) 65) && (cmpI .leq ((UInt8.toNat v2 : Nat) : Int) 90)))) && (!(cmpI .eql s1 0))) && (cmpI .neq ((UInt8.toNat v2 : Nat) : Int) 45)) = true) (fV Rep.bool (cmpI .lss ((UInt8.toNat v2 : Nat) : Int) 48)), [], [(45, some 8), (46, some 9)], []⟩,
            ⟨Fact.when ((((!(((cmpI .geq ((UInt8.toNat v2 : Nat) : Int) 97) && (cmpI .leq ((UInt8.toNat v2 : Nat) : Int) 122)) || ((cmpI .geq ((UInt8.toNat v2 : Nat) : Int) 65) && (cmpI .leq ((UInt8.toNat v2 : Nat) : Int) 90)))) && (!(cmpI .eql s1 0))) && (cmpI .neq ((UInt8.toNat v2 : Nat) : Int) 45)) = true) (fV Rep.bool (cmpI .lss ((UInt8.toNat v2 : Nat) : Int) 48)), [], [(45, some 8), (47, some 10)], []⟩,
            ⟨Fact.when (((((!(((cmpI .geq ((UInt8.toNat v2 : Nat) : Int) 97) && (cmpI .leq ((UInt8.toNat v2 : Nat) : Int) 122)) || ((cmpI .geq ((UInt8.toNat v2 : Nat) : Int) 65) && (cmpI .leq ((UInt8.toNat v2 : Nat) : Int) 90)))) && (!(cmpI .eql s1 0))) && (cmpI .neq ((UInt8.toNat v2 : Nat) : Int) 45)) && (!(cmpI .lss ((UInt8.toNat v2 : Nat) : Int) 48))) = true) (fV r_u8 ((UInt8.toNat v2 : Nat) : Int)), [], [(48, some 11), (4, none)], []⟩,
            ⟨Fact.when (((((!(((cmpI .geq ((UInt8.toNat v2 : Nat) : Int) 97) && (cmpI .leq ((UInt8.toNat v2 : Nat) : Int) 122)) || ((cmpI .geq ((UInt8.toNat v2 : Nat) : Int) 65) && (cmpI .leq ((UInt8.toNat v2 : Nat) : Int) 90)))) && (!(cmpI .eql s1 0))) && (cmpI .neq ((UInt8.toNat v2 : Nat) : Int) 45)) && (!(cmpI .lss ((UInt8.toNat v2 : Nat) : Int) 48))) = true) (fV Rep.bool (cmpI .gtr ((UInt8.toNat v2 : Nat) : Int) 57)), [], [(48, some 11), (49, some 12)], []⟩,
            ⟨Fact.when ((((!(((cmpI .geq ((UInt8.toNat v2 : Nat) : Int) 97) && (cmpI .leq ((UInt8.toNat v2 : Nat) : Int) 122)) || ((cmpI .geq ((UInt8.toNat v2 : Nat) : Int) 65) && (cmpI .leq ((UInt8.toNat v2 : Nat) : Int) 90)))) && (!(cmpI .eql s1 0))) && (cmpI .neq ((UInt8.toNat v2 : Nat) : Int) 45)) = true) (fV Rep.bool ((cmpI .lss ((UInt8.toNat v2 : Nat) : Int) 48) || (cmpI .gtr ((UInt8.toNat v2 : Nat) : Int) 57))), [], [(45, some 8), (48, some 11), (50, some 13)], []⟩,
            ⟨Fact.when (((!(((cmpI .geq ((UInt8.toNat v2 : Nat) : Int) 97) && (cmpI .leq ((UInt8.toNat v2 : Nat) : Int) 122)) || ((cmpI .geq ((UInt8.toNat v2 : Nat) : Int) 65) && (cmpI .leq ((UInt8.toNat v2 : Nat) : Int) 90)))) && (!(cmpI .eql s1 0))) = true) (fV Rep.bool ((cmpI .neq ((UInt8.toNat v2 : Nat) : Int) 45) && ((cmpI .lss ((UInt8.toNat v2 : Nat) : Int) 48) || (cmpI .gtr ((UInt8.toNat v2 : Nat) : Int) 57)))), [], [(42, some 5), (45, some 8), (51, some 14)], []⟩,
            ⟨Fact.when ((!(((cmpI .geq ((UInt8.toNat v2 : Nat) : Int) 97) && (cmpI .leq ((UInt8.toNat v2 : Nat) : Int) 122)) || ((cmpI .geq ((UInt8.toNat v2 : Nat) : Int) 65) && (cmpI .leq ((UInt8.toNat v2 : Nat) : Int) 90)))) = true) (fV Rep.bool ((cmpI .eql s1 0) || ((cmpI .neq ((UInt8.toNat v2 : Nat) : Int) 45) && ((cmpI .lss ((UInt8.toNat v2 : Nat) : Int) 48) || (cmpI .gtr ((UInt8.toNat v2 : Nat) : Int) 57))))), [], [(39, some 2), (42, some 5), (52, some 15)], []⟩,
            ⟨fV Rep.bool ((!(((cmpI .geq ((UInt8.toNat v2 : Nat) : Int) 97) && (cmpI .leq ((UInt8.toNat v2 : Nat) : Int) 122)) || ((cmpI .geq ((UInt8.toNat v2 : Nat) : Int) 65) && (cmpI .leq ((UInt8.toNat v2 : Nat) : Int) 90)))) && ((cmpI .eql s1 0) || ((cmpI .neq ((UInt8.toNat v2 : Nat) : Int) 45) && ((cmpI .lss ((UInt8.toNat v2 : Nat) : Int) 48) || (cmpI .gtr ((UInt8.toNat v2 : Nat) : Int) 57))))), [], [(39, some 2), (53, some 16)], []⟩] [0, 3, 54] [] hAt
            ⟨ok_move rfl opd0,
            ok_not rfl opd0,
            ok_move rfl opd0,
            obl_tt rfl rfl rfl rfl rfl rfl rfl (fun hg => ok_move rfl opd1),
            obl_tt rfl rfl rfl rfl rfl rfl rfl (fun hg => ok_cmp (op := .eql) (by simp) rfl rfl (opd1.on hg) opdI),
            obl_tt rfl rfl rfl rfl rfl rfl rfl (fun hg => ok_move rfl (opd1.on hg)),
            obl_wf rfl rfl rfl rfl rfl rfl rfl (fun hg => ok_move rfl opd1),
            obl_wf rfl rfl rfl rfl rfl rfl rfl (fun hg => ok_cmp (op := .neq) (by simp) rfl rfl (opd1.on hg) opdI),
            obl_wf rfl rfl rfl rfl rfl rfl rfl (fun hg => ok_move rfl (opd1.on hg)),
            obl_wt rfl rfl rfl rfl rfl rfl rfl (fun hg => ok_move rfl opd1),
            obl_wt rfl rfl rfl rfl rfl rfl rfl (fun hg => ok_cmp (op := .lss) (by simp) rfl rfl (opd1.on hg) opdI),
            obl_wt rfl rfl rfl rfl rfl rfl rfl (fun hg => ok_move rfl (opd1.on hg)),
            obl_wf rfl rfl rfl rfl rfl rfl rfl (fun hg => ok_move rfl opd1),
            obl_wf rfl rfl rfl rfl rfl rfl rfl (fun hg => ok_cmp (op := .gtr) (by simp) rfl rfl (opd1.on hg) opdI),
            obl_wt rfl rfl rfl rfl rfl rfl rfl (fun hg => ok_or rfl (opd1.on hg) (fun e => (opd2.on (andT hg (notT e))))),
            obl_wf rfl rfl rfl rfl rfl rfl rfl (fun hg => ok_and rfl (opd1.on hg) (fun e => (opd2.on (andT hg e)))),
            obl_tt rfl rfl rfl rfl rfl rfl rfl (fun hg => ok_or rfl (opd1.on hg) (fun e => (opd2.on (andT hg (notT e))))),
            ok_and rfl opd0 (fun e => (opd1.on e)), trivial⟩ (by kernel_rfl) ?_
        clear hAt; intro a w hAt
        replace hAt : At B h0 (mkG [(0, fV Rep.str x0), (3, fV r_i64 s1), (54, fV Rep.bool ((!(((cmpI .geq ((UInt8.toNat v2 : Nat) : Int) 97) && (cmpI .leq ((UInt8.toNat v2 : Nat) : Int) 122)) || ((cmpI .geq ((UInt8.toNat v2 : Nat) : Int) 65) && (cmpI .leq ((UInt8.toNat v2 : Nat) : Int) 90)))) && ((cmpI .eql s1 0) || ((cmpI .neq ((UInt8.toNat v2 : Nat) : Int) 45) && ((cmpI .lss ((UInt8.toNat v2 : Nat) : Int) 48) || (cmpI .gtr ((UInt8.toNat v2 : Nat) : Int) 57))))))]) (mkO []) F 55 a w := hAt
        refine then_n ?_; refine wp_if hAt (by rfl) ?_ ?_
        · intro hb3; have H := iteT hb3 H; refine wp_seq ?_
          refine reg [⟨fV Rep.bool false, [], [], []⟩] [2] [] hAt
              ⟨ok_assign rfl opdB, trivial⟩ (by kernel_rfl) ?_
          clear hAt; intro a w hAt; replace hAt : At B h0 (mkG [(2, fV Rep.bool false)]) (mkO []) F 55 a w := hAt; refine then_n ?_; refine wp_ret ?_; refine blk_r ?_; refine then_r ?_
          cases H
          exact ⟨ret_ne, rfl, hAt.pick [2] []⟩
        · intro hb3; have H := iteF hb3 H; refine wp_skip ?_; refine blk_n ?_; refine then_n ?_
          refine reg [⟨fV r_i64 s1, [], [(3, none)], []⟩,
              ⟨fV r_i64 (IntKind.i64.wrap (s1 + 1)), [], [(18, some 0)], []⟩,
              ⟨fV r_i64 (IntKind.i64.wrap (s1 + 1)), [], [(19, some 1)], []⟩] [0, 3] [] hAt
              ⟨ok_move rfl opd0,
              ok_add rfl opd0 opdI,
              ok_assign rfl opd0, trivial⟩ (by kernel_rfl) ?_
          clear hAt; intro a w hAt; replace hAt : At B h0 (mkG [(0, fV Rep.str x0), (3, fV r_i64 (IntKind.i64.wrap (s1 + 1)))]) (mkO []) F 55 a w := hAt
          cases H
          exact ⟨rfl, hAt.pick [0, 3] []⟩
      · intro hb4; have H := iteF hb4 H; refine wp_exit ?_; refine then_x ?_
        cases H
        exact ⟨ex_ne, rfl, hAt.pick [] []⟩
    · exact hAt.pick [0, 3] []
    · clear hAt; intro e a w hp
      cases o5 with
      | inl l7 =>
        rw [Sum.elim_inl] at H; obtain ⟨rfl, hAt⟩ := hp; refine blk_eq ?_; refine then_n ?_; refine wp_seq ?_
        refine reg [⟨fV Rep.bool true, [], [], []⟩] [2] [] hAt
            ⟨ok_assign rfl opdB, trivial⟩ (by kernel_rfl) ?_
        clear hAt; intro a w hAt; replace hAt : At B h0 (mkG [(2, fV Rep.bool true)]) (mkO []) F 55 a w := hAt; refine then_n ?_; refine wp_ret ?_
        cases H
        exact ret1 rfl (rv_tmp rfl rfl) hAt
      | inr r8 =>
        rw [Sum.elim_inr] at H; replace hp := hp; obtain ⟨rfl, hAt⟩ := hp; refine blk_r ?_; refine then_r ?_
        cases H
        exact ret1 rfl (rv_tmp rfl rfl) hAt
theorem ok_f_ref02_within (N : Nat) (x0 : Int) (x1 : Int) (x2 : Int) (r : Bool) (H : f_ref02_within N x0 x1 x2 = some r) : FnOk Try.prog 57 [fV r_i64 x0, fV r_i64 x1, fV r_i64 x2] (fV Rep.bool r) := by
  unfold f_ref02_within at H; refine fn_enter Try.func57 rfl rfl (by kernel_rfl) ?_; intro κ B h0 F a w hAt; refine wp_seq ?_
  refine reg [⟨fV Rep.bool false, [], [], []⟩] [0, 1, 2] [] hAt
      ⟨ok_assign rfl opdB, trivial⟩ (by kernel_rfl) ?_
  clear hAt; intro a w hAt; replace hAt : At B h0 (mkG [(0, fV r_i64 x0), (1, fV r_i64 x1), (2, fV r_i64 x2)]) (mkO []) F 15 a w := hAt; refine then_n ?_; refine wp_seq ?_
  refine reg [⟨fV r_i64 x0, [], [(0, none)], []⟩,
      ⟨fV r_i64 x1, [], [(1, none)], []⟩,
      ⟨fV Rep.bool (cmpI .geq x0 x1), [], [(7, some 0), (8, some 1)], []⟩,
      ⟨fV Rep.bool (cmpI .geq x0 x1), [], [(9, some 2)], []⟩,
      ⟨Fact.when ((cmpI .geq x0 x1) = true) (fV r_i64 x0), [], [(10, some 3), (0, none)], []⟩,
      ⟨Fact.when ((cmpI .geq x0 x1) = true) (fV r_i64 x2), [], [(10, some 3), (2, none)], []⟩,
      ⟨Fact.when ((cmpI .geq x0 x1) = true) (fV Rep.bool (cmpI .leq x0 x2)), [], [(10, some 3), (11, some 4), (12, some 5)], []⟩,
      ⟨fV Rep.bool ((cmpI .geq x0 x1) && (cmpI .leq x0 x2)), [], [(10, some 3), (13, some 6)], []⟩,
      ⟨fV Rep.bool ((cmpI .geq x0 x1) && (cmpI .leq x0 x2)), [], [(14, some 7)], []⟩] [6] [] hAt
      ⟨ok_move rfl opd0,
      ok_move rfl opd0,
      ok_cmp (op := .geq) (by simp) rfl rfl opd0 opd1,
      ok_move rfl opd0,
      obl_tt rfl rfl rfl rfl rfl rfl rfl (fun hg => ok_move rfl opd1),
      obl_tt rfl rfl rfl rfl rfl rfl rfl (fun hg => ok_move rfl opd1),
      obl_tt rfl rfl rfl rfl rfl rfl rfl (fun hg => ok_cmp (op := .leq) (by simp) rfl rfl (opd1.on hg) (opd2.on hg)),
      ok_and rfl opd0 (fun e => (opd1.on e)),
      ok_assign rfl opd0, trivial⟩ (by kernel_rfl) ?_
  clear hAt; intro a w hAt; replace hAt : At B h0 (mkG [(6, fV Rep.bool ((cmpI .geq x0 x1) && (cmpI .leq x0 x2)))]) (mkO []) F 15 a w := hAt; refine then_n ?_; refine wp_ret ?_
  cases H
  exact ret1 rfl (rv_tmp rfl rfl) hAt
theorem ok_f_ref02_StationErr (N : Nat) (x0 : GStation) (r : Int) (H : f_ref02_StationErr N x0 = some r) : FnOk Try.prog 58 [fV GStation.rep x0] (fV r_i64 r) := by
  unfold f_ref02_StationErr at H; refine fn_enter Try.func58 rfl rfl (by kernel_rfl) ?_; intro κ B h0 F a w hAt; refine wp_seq ?_
  refine reg [⟨fRef GStation.rep x0, [], [(0, none)], []⟩,
      ⟨fV r_i64 0, [], [], []⟩] [1] [] hAt
      ⟨ok_box rfl opd0,
      ok_assign rfl opdI, trivial⟩ (by kernel_rfl) ?_
  clear hAt; intro a w hAt; replace hAt : At B h0 (mkG [(1, fRef GStation.rep x0)]) (mkO []) F 13 a w := hAt; refine then_n ?_; refine wp_seq ?_; refine wp_seq ?_; obtain ⟨v1, hv1, H⟩ := bindE H; obtain ⟨v2, hv2, H⟩ := bindE H
  refine reg [⟨fRef r_i64 x0.X, [], [(1, none)], []⟩,
      ⟨fV r_i64 x0.X, [], [(3, some 0)], []⟩,
      ⟨fV Rep.bool v1, [], [(4, some 1)], []⟩,
      ⟨fV Rep.bool (!v1), [], [(5, some 2)], []⟩,
      ⟨fV Rep.bool (!v1), [], [(6, some 3)], []⟩,
      ⟨Fact.when ((!(!v1)) = true) (fRef r_i64 x0.Width), [], [(7, some 4), (1, none)], []⟩,
      ⟨Fact.when ((!(!v1)) = true) (fV r_i64 x0.Width), [], [(7, some 4), (8, some 5)], []⟩,
      ⟨Fact.when ((!(!v1)) = true) (fV Rep.bool v2), [], [(7, some 4), (9, some 6)], []⟩,
      ⟨Fact.when ((!(!v1)) = true) (fV Rep.bool (!v2)), [], [(7, some 4), (10, some 7)], []⟩,
      ⟨fV Rep.bool ((!v1) || (!v2)), [], [(7, some 4), (11, some 8)], []⟩] [12] [] hAt
      ⟨ok_field GStation.l0 fo71_0 rfl opd0,
      ok_load ty3 rfl opd0,
      ok_call (ok_f_ref02_within N x0.X (-1000000) 1000000 _ hv1) Try.func57 (by kernel_rfl) (by kernel_rfl) rfl ⟨opd0, ⟨opdI, ⟨opdI, trivial⟩⟩⟩,
      ok_not rfl opd0,
      ok_move rfl opd0,
      obl_tf rfl rfl rfl rfl rfl rfl rfl (fun hg => ok_field GStation.l1 fo71_1 rfl opd1),
      obl_tf rfl rfl rfl rfl rfl rfl rfl (fun hg => ok_load ty3 rfl (opd1.on hg)),
      obl_tf rfl rfl rfl rfl rfl rfl rfl (fun hg => ok_call (ok_f_ref02_within N x0.Width 1 100000 _ (iteT hg hv2)) Try.func57 (by kernel_rfl) (by kernel_rfl) rfl ⟨(opd1.on hg), ⟨opdI, ⟨opdI, trivial⟩⟩⟩),
      obl_tf rfl rfl rfl rfl rfl rfl rfl (fun hg => ok_not rfl (opd1.on hg)),
      ok_or rfl opd0 (fun e => (opd1.on (notT e))), trivial⟩ (by kernel_rfl) ?_
  clear hAt; intro a w hAt; replace hAt : At B h0 (mkG [(12, fV Rep.bool ((!v1) || (!v2)))]) (mkO []) F 13 a w := hAt; refine then_n ?_; refine wp_if hAt (by rfl) ?_ ?_
  · intro hb3; have H := iteT hb3 H; refine wp_seq ?_
    refine reg [⟨fV r_i64 2, [], [], []⟩] [2] [] hAt
        ⟨ok_assign rfl opdI, trivial⟩ (by kernel_rfl) ?_
    clear hAt; intro a w hAt; replace hAt : At B h0 (mkG [(2, fV r_i64 2)]) (mkO []) F 13 a w := hAt; refine then_n ?_; refine wp_ret ?_; refine then_r ?_
    cases H
    exact ret1 rfl (rv_tmp rfl rfl) hAt
  · intro hb3; have H := iteF hb3 H; refine wp_skip ?_; refine then_n ?_; refine wp_seq ?_
    refine reg [⟨fV r_i64 0, [], [], []⟩] [2] [] hAt
        ⟨ok_assign rfl opdI, trivial⟩ (by kernel_rfl) ?_
    clear hAt; intro a w hAt; replace hAt : At B h0 (mkG [(2, fV r_i64 0)]) (mkO []) F 13 a w := hAt; refine then_n ?_; refine wp_ret ?_
    cases H
    exact ret1 rfl (rv_tmp rfl rfl) hAt
theorem ok_f_ref02_FormErr (N : Nat) (x0 : GStation) (r : Int) (H : f_ref02_FormErr N x0 = some r) : FnOk Try.prog 59 [fV GStation.rep x0] (fV r_i64 r) := by
  unfold f_ref02_FormErr at H; refine fn_enter Try.func59 rfl rfl (by kernel_rfl) ?_; intro κ B h0 F a w hAt; refine wp_seq ?_
  refine reg [⟨fRef GStation.rep x0, [], [(0, none)], []⟩,
      ⟨fV r_i64 0, [], [], []⟩] [1] [] hAt
      ⟨ok_box rfl opd0,
      ok_assign rfl opdI, trivial⟩ (by kernel_rfl) ?_
  clear hAt; intro a w hAt; replace hAt : At B h0 (mkG [(1, fRef GStation.rep x0)]) (mkO []) F 69 a w := hAt; refine then_n ?_; refine wp_seq ?_; refine wp_seq ?_
  refine reg [⟨fRef (Rep.slice r_i64) x0.Levels, [], [(1, none)], []⟩,
      ⟨fV (Rep.slice r_i64) x0.Levels, [], [(5, some 0)], []⟩,
      ⟨fV r_i64 (List.length x0.Levels : Int), [], [(6, some 1)], []⟩,
      ⟨fV Rep.bool (cmpI .lss (List.length x0.Levels : Int) 2), [], [(7, some 2)], []⟩,
      ⟨fV Rep.bool (cmpI .lss (List.length x0.Levels : Int) 2), [], [(8, some 3)], []⟩,
      ⟨Fact.when ((!(cmpI .lss (List.length x0.Levels : Int) 2)) = true) (fRef (Rep.slice r_i64) x0.Levels), [], [(9, some 4), (1, none)], []⟩,
      ⟨Fact.when ((!(cmpI .lss (List.length x0.Levels : Int) 2)) = true) (fV (Rep.slice r_i64) x0.Levels), [], [(9, some 4), (10, some 5)], []⟩,
      ⟨Fact.when ((!(cmpI .lss (List.length x0.Levels : Int) 2)) = true) (fV r_i64 (List.length x0.Levels : Int)), [], [(9, some 4), (11, some 6)], []⟩,
      ⟨Fact.when ((!(cmpI .lss (List.length x0.Levels : Int) 2)) = true) (fV Rep.bool (cmpI .gtr (List.length x0.Levels : Int) 30)), [], [(9, some 4), (12, some 7)], []⟩,
      ⟨fV Rep.bool ((cmpI .lss (List.length x0.Levels : Int) 2) || (cmpI .gtr (List.length x0.Levels : Int) 30)), [], [(9, some 4), (13, some 8)], []⟩,
      ⟨fV Rep.bool ((cmpI .lss (List.length x0.Levels : Int) 2) || (cmpI .gtr (List.length x0.Levels : Int) 30)), [], [(14, some 9)], []⟩,
      ⟨Fact.when ((!((cmpI .lss (List.length x0.Levels : Int) 2) || (cmpI .gtr (List.length x0.Levels : Int) 30))) = true) (fRef (Rep.slice r_i64) x0.Halves), [], [(15, some 10), (1, none)], []⟩,
      ⟨Fact.when ((!((cmpI .lss (List.length x0.Levels : Int) 2) || (cmpI .gtr (List.length x0.Levels : Int) 30))) = true) (fV (Rep.slice r_i64) x0.Halves), [], [(15, some 10), (16, some 11)], []⟩,
      ⟨Fact.when ((!((cmpI .lss (List.length x0.Levels : Int) 2) || (cmpI .gtr (List.length x0.Levels : Int) 30))) = true) (fV r_i64 (List.length x0.Halves : Int)), [], [(15, some 10), (17, some 12)], []⟩,
      ⟨Fact.when ((!((cmpI .lss (List.length x0.Levels : Int) 2) || (cmpI .gtr (List.length x0.Levels : Int) 30))) = true) (fRef (Rep.slice r_i64) x0.Levels), [], [(15, some 10), (1, none)], []⟩,
      ⟨Fact.when ((!((cmpI .lss (List.length x0.Levels : Int) 2) || (cmpI .gtr (List.length x0.Levels : Int) 30))) = true) (fV (Rep.slice r_i64) x0.Levels), [], [(15, some 10), (19, some 14)], []⟩,
      ⟨Fact.when ((!((cmpI .lss (List.length x0.Levels : Int) 2) || (cmpI .gtr (List.length x0.Levels : Int) 30))) = true) (fV r_i64 (List.length x0.Levels : Int)), [], [(15, some 10), (20, some 15)], []⟩,
      ⟨Fact.when ((!((cmpI .lss (List.length x0.Levels : Int) 2) || (cmpI .gtr (List.length x0.Levels : Int) 30))) = true) (fV r_i64 (IntKind.i64.wrap ((List.length x0.Levels : Int) - 1))), [], [(15, some 10), (21, some 16)], []⟩,
      ⟨Fact.when ((!((cmpI .lss (List.length x0.Levels : Int) 2) || (cmpI .gtr (List.length x0.Levels : Int) 30))) = true) (fV Rep.bool (cmpI .neq (List.length x0.Halves : Int) (IntKind.i64.wrap ((List.length x0.Levels : Int) - 1)))), [], [(15, some 10), (18, some 13), (22, some 17)], []⟩,
      ⟨fV Rep.bool (((cmpI .lss (List.length x0.Levels : Int) 2) || (cmpI .gtr (List.length x0.Levels : Int) 30)) || (cmpI .neq (List.length x0.Halves : Int) (IntKind.i64.wrap ((List.length x0.Levels : Int) - 1)))), [], [(15, some 10), (23, some 18)], []⟩] [1, 24] [] hAt
      ⟨ok_field GStation.l2 fo71_2 rfl opd0,
      ok_load ty69 rfl opd0,
      ok_len un69 rfl opd0,
      ok_cmp (op := .lss) (by simp) rfl rfl opd0 opdI,
      ok_move rfl opd0,
      obl_tf rfl rfl rfl rfl rfl rfl rfl (fun hg => ok_field GStation.l2 fo71_2 rfl opd1),
      obl_tf rfl rfl rfl rfl rfl rfl rfl (fun hg => ok_load ty69 rfl (opd1.on hg)),
      obl_tf rfl rfl rfl rfl rfl rfl rfl (fun hg => ok_len un69 rfl (opd1.on hg)),
      obl_tf rfl rfl rfl rfl rfl rfl rfl (fun hg => ok_cmp (op := .gtr) (by simp) rfl rfl (opd1.on hg) opdI),
      ok_or rfl opd0 (fun e => (opd1.on (notT e))),
      ok_move rfl opd0,
      obl_tf rfl rfl rfl rfl rfl rfl rfl (fun hg => ok_field GStation.l3 fo71_3 rfl opd1),
      obl_tf rfl rfl rfl rfl rfl rfl rfl (fun hg => ok_load ty69 rfl (opd1.on hg)),
      obl_tf rfl rfl rfl rfl rfl rfl rfl (fun hg => ok_len un69 rfl (opd1.on hg)),
      obl_tf rfl rfl rfl rfl rfl rfl rfl (fun hg => ok_field GStation.l2 fo71_2 rfl opd1),
      obl_tf rfl rfl rfl rfl rfl rfl rfl (fun hg => ok_load ty69 rfl (opd1.on hg)),
      obl_tf rfl rfl rfl rfl rfl rfl rfl (fun hg => ok_len un69 rfl (opd1.on hg)),
      obl_tf rfl rfl rfl rfl rfl rfl rfl (fun hg => ok_sub rfl (opd1.on hg) opdI),
      obl_tf rfl rfl rfl rfl rfl rfl rfl (fun hg => ok_cmp (op := .neq) (by simp) rfl rfl (opd1.on hg) (opd2.on hg)),
      ok_or rfl opd0 (fun e => (opd1.on (notT e))), trivial⟩ (by kernel_rfl) ?_
  clear hAt; intro a w hAt; replace hAt : At B h0 (mkG [(1, fRef GStation.rep x0), (24, fV Rep.bool (((cmpI .lss (List.length x0.Levels : Int) 2) || (cmpI .gtr (List.length x0.Levels : Int) 30)) || (cmpI .neq (List.length x0.Halves : Int) (IntKind.i64.wrap ((List.length x0.Levels : Int) - 1)))))]) (mkO []) F 69 a w := hAt; refine then_n ?_; refine wp_if hAt (by rfl) ?_ ?_
  · intro hb24; have H := iteT hb24 H; refine wp_seq ?_
    refine reg [⟨fV r_i64 11, [], [], []⟩] [2] [] hAt
        ⟨ok_assign rfl opdI, trivial⟩ (by kernel_rfl) ?_
    clear hAt; intro a w hAt; replace hAt : At B h0 (mkG [(2, fV r_i64 11)]) (mkO []) F 69 a w := hAt; refine then_n ?_; refine wp_ret ?_; refine then_r ?_
    cases H
    exact ret1 rfl (rv_tmp rfl rfl) hAt
  · intro hb24; have H := iteF hb24 H; refine wp_skip ?_; refine then_n ?_; refine wp_seq ?_; refine wp_seq ?_
    refine reg [⟨fV r_i64 0, [], [], []⟩] [1, 3] [] hAt
        ⟨ok_assign rfl opdI, trivial⟩ (by kernel_rfl) ?_
    clear hAt; intro a w hAt; replace hAt : At B h0 (mkG [(1, fRef GStation.rep x0), (3, fV r_i64 0)]) (mkO []) F 69 a w := hAt; refine then_n ?_; refine wp_block ?_; obtain ⟨o9, hl10, H⟩ := bindE H
    refine wp_mono (wp_loopN (f := f_ref02_FormErr_L2 N x0) (fun (s1 : Int) a w => At B h0 (mkG [(1, fRef GStation.rep x0), (3, fV r_i64 s1)]) (mkO []) F 69 a w) (fun o e a w => (Sum.elim (fun v => e = .exit 0 ∧ At B h0 (mkG [(1, fRef GStation.rep x0)]) (mkO []) F 69 a w) (fun v => e = .ret ∧ At B h0 (mkG [(2, fV r_i64 v)]) (mkO []) F 69 a w)) o) ?_ N 0 o9 _ _ hl10 ?_) ?_
    · clear H hAt hl10; intro s1 r23 a w H hAt; unfold f_ref02_FormErr_L2 at H; refine wp_seq ?_; refine wp_seq ?_
      refine reg [⟨fV r_i64 s1, [], [(3, none)], []⟩,
          ⟨fRef (Rep.slice r_i64) x0.Levels, [], [(1, none)], []⟩,
          ⟨fV (Rep.slice r_i64) x0.Levels, [], [(26, some 1)], []⟩,
          ⟨fV r_i64 (List.length x0.Levels : Int), [], [(27, some 2)], []⟩,
          ⟨fV Rep.bool (cmpI .lss s1 (List.length x0.Levels : Int)), [], [(25, some 0), (28, some 3)], []⟩] [1, 3, 29] [] hAt
          ⟨ok_move rfl opd0,
          ok_field GStation.l2 fo71_2 rfl opd0,
          ok_load ty69 rfl opd0,
          ok_len un69 rfl opd0,
          ok_cmp (op := .lss) (by simp) rfl rfl opd0 opd1, trivial⟩ (by kernel_rfl) ?_
      clear hAt; intro a w hAt; replace hAt : At B h0 (mkG [(1, fRef GStation.rep x0), (3, fV r_i64 s1), (29, fV Rep.bool (cmpI .lss s1 (List.length x0.Levels : Int)))]) (mkO []) F 69 a w := hAt; refine then_n ?_; refine wp_if hAt (by rfl) ?_ ?_
      · intro hb8; have H := iteT hb8 H; refine wp_skip ?_; refine then_n ?_; refine wp_seq ?_; refine wp_block ?_; refine wp_seq ?_; refine wp_seq ?_; obtain ⟨v2, hv2, H⟩ := bindE H; obtain ⟨v3, hv3, H⟩ := bindE H
        refine reg [⟨fRef (Rep.slice r_i64) x0.Levels, [], [(1, none)], []⟩,
            ⟨fV (Rep.slice r_i64) x0.Levels, [], [(32, some 0)], []⟩,
            ⟨fV r_i64 s1, [], [(3, none)], []⟩,
            ⟨fRef r_i64 v2, [], [(33, some 1), (34, some 2)], []⟩,
            ⟨fV r_i64 v2, [], [(35, some 3)], []⟩,
            ⟨fV Rep.bool v3, [], [(36, some 4)], []⟩,
            ⟨fV Rep.bool (!v3), [], [(37, some 5)], []⟩] [1, 3, 38] [] hAt
            ⟨ok_field GStation.l2 fo71_2 rfl opd0,
            ok_load ty69 rfl opd0,
            ok_move rfl opd0,
            ok_index ty3 un69 hv2 rfl opd0 opd1,
            ok_load ty3 rfl opd0,
            ok_call (ok_f_ref02_within N v2 0 100000 _ hv3) Try.func57 (by kernel_rfl) (by kernel_rfl) rfl ⟨opd0, ⟨opdI, ⟨opdI, trivial⟩⟩⟩,
            ok_not rfl opd0, trivial⟩ (by kernel_rfl) ?_
        clear hAt; intro a w hAt; replace hAt : At B h0 (mkG [(1, fRef GStation.rep x0), (3, fV r_i64 s1), (38, fV Rep.bool (!v3))]) (mkO []) F 69 a w := hAt; refine then_n ?_; refine wp_if hAt (by rfl) ?_ ?_
        · intro hb7; have H := iteT hb7 H; refine wp_seq ?_
          refine reg [⟨fV r_i64 2, [], [], []⟩] [2] [] hAt
              ⟨ok_assign rfl opdI, trivial⟩ (by kernel_rfl) ?_
          clear hAt; intro a w hAt; replace hAt : At B h0 (mkG [(2, fV r_i64 2)]) (mkO []) F 69 a w := hAt; refine then_n ?_; refine wp_ret ?_; refine then_r ?_; refine blk_r ?_; refine then_r ?_
          cases H
          exact ⟨ret_ne, rfl, hAt.pick [2] []⟩
        · intro hb7; have H := iteF hb7 H; refine wp_skip ?_; refine then_n ?_; refine wp_seq ?_; obtain ⟨v4, hv4, H⟩ := bindE H; obtain ⟨v5, hv5, H⟩ := bindE H
          refine regd [⟨fV r_i64 s1, [], [(3, none)], []⟩,
              ⟨fV Rep.bool (cmpI .gtr s1 0), [], [(39, some 0)], []⟩,
              ⟨fV Rep.bool (cmpI .gtr s1 0), [], [(40, some 1)], []⟩,
              ⟨Fact.when ((cmpI .gtr s1 0) = true) (fRef (Rep.slice r_i64) x0.Levels), [], [(41, some 2), (1, none)], []⟩,
              ⟨Fact.when ((cmpI .gtr s1 0) = true) (fV (Rep.slice r_i64) x0.Levels), [], [(41, some 2), (42, some 3)], []⟩,
              ⟨Fact.when ((cmpI .gtr s1 0) = true) (fV r_i64 s1), [], [(41, some 2), (3, none)], []⟩,
              ⟨Fact.when ((cmpI .gtr s1 0) = true) (fRef r_i64 v4), [], [(41, some 2), (43, some 4), (44, some 5)], []⟩,
              ⟨Fact.when ((cmpI .gtr s1 0) = true) (fV r_i64 v4), [], [(41, some 2), (45, some 6)], []⟩,
              ⟨Fact.when ((cmpI .gtr s1 0) = true) (fRef (Rep.slice r_i64) x0.Levels), [], [(41, some 2), (1, none)], []⟩,
              ⟨Fact.when ((cmpI .gtr s1 0) = true) (fV (Rep.slice r_i64) x0.Levels), [], [(41, some 2), (47, some 8)], []⟩,
              ⟨Fact.when ((cmpI .gtr s1 0) = true) (fV r_i64 s1), [], [(41, some 2), (3, none)], []⟩,
              ⟨Fact.when ((cmpI .gtr s1 0) = true) (fV r_i64 (IntKind.i64.wrap (s1 - 1))), [], [(41, some 2), (49, some 10)], []⟩,
              ⟨Fact.when ((cmpI .gtr s1 0) = true) (fRef r_i64 v5), [], [(41, some 2), (48, some 9), (50, some 11)], []⟩,
              ⟨Fact.when ((cmpI .gtr s1 0) = true) (fV r_i64 v5), [], [(41, some 2), (51, some 12)], []⟩,
              ⟨Fact.when ((cmpI .gtr s1 0) = true) (fV Rep.bool (cmpI .leq v4 v5)), [], [(41, some 2), (46, some 7), (52, some 13)], []⟩,
              ⟨fV Rep.bool ((cmpI .gtr s1 0) && (cmpI .leq v4 v5)), [], [(41, some 2), (53, some 14)], []⟩] [0, 1, 2, 3, 4, 5, 6, 7, 8, 9, 10, 11, 12, 13, 14, 15] [0, 1, 2, 3, 4, 5, 6, 7, 8, 9, 10, 11, 12, 13, 14, 15] [1, 3, 54] [] hAt
              ⟨ok_move rfl opd0,
              ok_cmp (op := .gtr) (by simp) rfl rfl opd0 opdI,
              ok_move rfl opd0,
              obl_tt rfl rfl rfl rfl rfl rfl rfl (fun hg => ok_field GStation.l2 fo71_2 rfl opd1),
              obl_tt rfl rfl rfl rfl rfl rfl rfl (fun hg => ok_load ty69 rfl (opd1.on hg)),
              obl_tt rfl rfl rfl rfl rfl rfl rfl (fun hg => ok_move rfl opd1),
              obl_tt rfl rfl rfl rfl rfl rfl rfl (fun hg => ok_index ty3 un69 (iteT hg hv4) rfl (opd1.on hg) (opd2.on hg)),
              obl_tt rfl rfl rfl rfl rfl rfl rfl (fun hg => ok_load ty3 rfl (opd1.on hg)),
              obl_tt rfl rfl rfl rfl rfl rfl rfl (fun hg => ok_field GStation.l2 fo71_2 rfl opd1),
              obl_tt rfl rfl rfl rfl rfl rfl rfl (fun hg => ok_load ty69 rfl (opd1.on hg)),
              obl_tt rfl rfl rfl rfl rfl rfl rfl (fun hg => ok_move rfl opd1),
              obl_tt rfl rfl rfl rfl rfl rfl rfl (fun hg => ok_sub rfl (opd1.on hg) opdI),
              obl_tt rfl rfl rfl rfl rfl rfl rfl (fun hg => ok_index ty3 un69 (iteT hg hv5) rfl (opd1.on hg) (opd2.on hg)),
              obl_tt rfl rfl rfl rfl rfl rfl rfl (fun hg => ok_load ty3 rfl (opd1.on hg)),
              obl_tt rfl rfl rfl rfl rfl rfl rfl (fun hg => ok_cmp (op := .leq) (by simp) rfl rfl (opd1.on hg) (opd2.on hg)),
              ok_and rfl opd0 (fun e => (opd1.on e)), trivial⟩ (by kernel_rfl) ?_
          clear hAt; intro a w hAt; replace hAt : At B h0 (mkG [(1, fRef GStation.rep x0), (3, fV r_i64 s1), (54, fV Rep.bool ((cmpI .gtr s1 0) && (cmpI .leq v4 v5)))]) (mkO []) F 69 a w := hAt; refine then_n ?_; refine wp_if hAt (by rfl) ?_ ?_
          · intro hb6; have H := iteT hb6 H; refine wp_seq ?_
            refine reg [⟨fV r_i64 10, [], [], []⟩] [2] [] hAt
                ⟨ok_assign rfl opdI, trivial⟩ (by kernel_rfl) ?_
            clear hAt; intro a w hAt; replace hAt : At B h0 (mkG [(2, fV r_i64 10)]) (mkO []) F 69 a w := hAt; refine then_n ?_; refine wp_ret ?_; refine blk_r ?_; refine then_r ?_
            cases H
            exact ⟨ret_ne, rfl, hAt.pick [2] []⟩
          · intro hb6; have H := iteF hb6 H; refine wp_skip ?_; refine blk_n ?_; refine then_n ?_
            refine reg [⟨fV r_i64 s1, [], [(3, none)], []⟩,
                ⟨fV r_i64 (IntKind.i64.wrap (s1 + 1)), [], [(30, some 0)], []⟩,
                ⟨fV r_i64 (IntKind.i64.wrap (s1 + 1)), [], [(31, some 1)], []⟩] [1, 3] [] hAt
                ⟨ok_move rfl opd0,
                ok_add rfl opd0 opdI,
                ok_assign rfl opd0, trivial⟩ (by kernel_rfl) ?_
            clear hAt; intro a w hAt; replace hAt : At B h0 (mkG [(1, fRef GStation.rep x0), (3, fV r_i64 (IntKind.i64.wrap (s1 + 1)))]) (mkO []) F 69 a w := hAt
            cases H
            exact ⟨rfl, hAt.pick [1, 3] []⟩
      · intro hb8; have H := iteF hb8 H; refine wp_exit ?_; refine then_x ?_
        cases H
        exact ⟨ex_ne, rfl, hAt.pick [1] []⟩
    · exact hAt.pick [1, 3] []
    · clear hAt; intro e a w hp
      cases o9 with
      | inl l11 =>
        rw [Sum.elim_inl] at H; obtain ⟨rfl, hAt⟩ := hp; refine blk_eq ?_; refine then_n ?_; refine wp_seq ?_; refine wp_seq ?_
        refine reg [⟨fV r_i64 0, [], [], []⟩] [1, 4] [] hAt
            ⟨ok_assign rfl opdI, trivial⟩ (by kernel_rfl) ?_
        clear hAt; intro a w hAt; replace hAt : At B h0 (mkG [(1, fRef GStation.rep x0), (4, fV r_i64 0)]) (mkO []) F 69 a w := hAt; refine then_n ?_; refine wp_block ?_; obtain ⟨o18, hl19, H⟩ := bindE H
        refine wp_mono (wp_loopN (f := f_ref02_FormErr_L1 N x0) (fun (s13 : Int) a w => At B h0 (mkG [(1, fRef GStation.rep x0), (4, fV r_i64 s13)]) (mkO []) F 69 a w) (fun o e a w => (Sum.elim (fun v => e = .exit 2 ∧ At B h0 (mkG []) (mkO []) F 69 a w) (fun v => e = .ret ∧ At B h0 (mkG [(2, fV r_i64 v)]) (mkO []) F 69 a w)) o) ?_ N 0 o18 _ _ hl19 ?_) ?_
        · clear H hAt hl19; intro s13 r22 a w H hAt; unfold f_ref02_FormErr_L1 at H; refine wp_seq ?_; refine wp_seq ?_
          refine reg [⟨fV r_i64 s13, [], [(4, none)], []⟩,
              ⟨fRef (Rep.slice r_i64) x0.Halves, [], [(1, none)], []⟩,
              ⟨fV (Rep.slice r_i64) x0.Halves, [], [(56, some 1)], []⟩,
              ⟨fV r_i64 (List.length x0.Halves : Int), [], [(57, some 2)], []⟩,
              ⟨fV Rep.bool (cmpI .lss s13 (List.length x0.Halves : Int)), [], [(55, some 0), (58, some 3)], []⟩] [1, 4, 59] [] hAt
              ⟨ok_move rfl opd0,
              ok_field GStation.l3 fo71_3 rfl opd0,
              ok_load ty69 rfl opd0,
              ok_len un69 rfl opd0,
              ok_cmp (op := .lss) (by simp) rfl rfl opd0 opd1, trivial⟩ (by kernel_rfl) ?_
          clear hAt; intro a w hAt; replace hAt : At B h0 (mkG [(1, fRef GStation.rep x0), (4, fV r_i64 s13), (59, fV Rep.bool (cmpI .lss s13 (List.length x0.Halves : Int)))]) (mkO []) F 69 a w := hAt; refine then_n ?_; refine wp_if hAt (by rfl) ?_ ?_
          · intro hb17; have H := iteT hb17 H; refine wp_skip ?_; refine then_n ?_; refine wp_seq ?_; refine wp_block ?_; refine wp_seq ?_; obtain ⟨v14, hv14, H⟩ := bindE H; obtain ⟨v15, hv15, H⟩ := bindE H
            refine reg [⟨fRef (Rep.slice r_i64) x0.Halves, [], [(1, none)], []⟩,
                ⟨fV (Rep.slice r_i64) x0.Halves, [], [(62, some 0)], []⟩,
                ⟨fV r_i64 s13, [], [(4, none)], []⟩,
                ⟨fRef r_i64 v14, [], [(63, some 1), (64, some 2)], []⟩,
                ⟨fV r_i64 v14, [], [(65, some 3)], []⟩,
                ⟨fV Rep.bool v15, [], [(66, some 4)], []⟩,
                ⟨fV Rep.bool (!v15), [], [(67, some 5)], []⟩] [1, 4, 68] [] hAt
                ⟨ok_field GStation.l3 fo71_3 rfl opd0,
                ok_load ty69 rfl opd0,
                ok_move rfl opd0,
                ok_index ty3 un69 hv14 rfl opd0 opd1,
                ok_load ty3 rfl opd0,
                ok_call (ok_f_ref02_within N v14 0 100000 _ hv15) Try.func57 (by kernel_rfl) (by kernel_rfl) rfl ⟨opd0, ⟨opdI, ⟨opdI, trivial⟩⟩⟩,
                ok_not rfl opd0, trivial⟩ (by kernel_rfl) ?_
            clear hAt; intro a w hAt; replace hAt : At B h0 (mkG [(1, fRef GStation.rep x0), (4, fV r_i64 s13), (68, fV Rep.bool (!v15))]) (mkO []) F 69 a w := hAt; refine then_n ?_; refine wp_if hAt (by rfl) ?_ ?_
            · intro hb16; have H := iteT hb16 H; refine wp_seq ?_
              refine reg [⟨fV r_i64 2, [], [], []⟩] [2] [] hAt
                  ⟨ok_assign rfl opdI, trivial⟩ (by kernel_rfl) ?_
              clear hAt; intro a w hAt; replace hAt : At B h0 (mkG [(2, fV r_i64 2)]) (mkO []) F 69 a w := hAt; refine then_n ?_; refine wp_ret ?_; refine blk_r ?_; refine then_r ?_
              cases H
              exact ⟨ret_ne, rfl, hAt.pick [2] []⟩
            · intro hb16; have H := iteF hb16 H; refine wp_skip ?_; refine blk_n ?_; refine then_n ?_
              refine reg [⟨fV r_i64 s13, [], [(4, none)], []⟩,
                  ⟨fV r_i64 (IntKind.i64.wrap (s13 + 1)), [], [(60, some 0)], []⟩,
                  ⟨fV r_i64 (IntKind.i64.wrap (s13 + 1)), [], [(61, some 1)], []⟩] [1, 4] [] hAt
                  ⟨ok_move rfl opd0,
                  ok_add rfl opd0 opdI,
                  ok_assign rfl opd0, trivial⟩ (by kernel_rfl) ?_
              clear hAt; intro a w hAt; replace hAt : At B h0 (mkG [(1, fRef GStation.rep x0), (4, fV r_i64 (IntKind.i64.wrap (s13 + 1)))]) (mkO []) F 69 a w := hAt
              cases H
              exact ⟨rfl, hAt.pick [1, 4] []⟩
          · intro hb17; have H := iteF hb17 H; refine wp_exit ?_; refine then_x ?_
            cases H
            exact ⟨ex_ne, rfl, hAt.pick [] []⟩
        · exact hAt.pick [1, 4] []
        · clear hAt; intro e a w hp
          cases o18 with
          | inl l20 =>
            rw [Sum.elim_inl] at H; obtain ⟨rfl, hAt⟩ := hp; refine blk_eq ?_; refine then_n ?_; refine wp_seq ?_
            refine reg [⟨fV r_i64 0, [], [], []⟩] [2] [] hAt
                ⟨ok_assign rfl opdI, trivial⟩ (by kernel_rfl) ?_
            clear hAt; intro a w hAt; replace hAt : At B h0 (mkG [(2, fV r_i64 0)]) (mkO []) F 69 a w := hAt; refine then_n ?_; refine wp_ret ?_
            cases H
            exact ret1 rfl (rv_tmp rfl rfl) hAt
          | inr r21 =>
            rw [Sum.elim_inr] at H; replace hp := hp; obtain ⟨rfl, hAt⟩ := hp; refine blk_r ?_; refine then_r ?_
            cases H
            exact ret1 rfl (rv_tmp rfl rfl) hAt
      | inr r12 =>
        rw [Sum.elim_inr] at H; replace hp := hp; obtain ⟨rfl, hAt⟩ := hp; refine blk_r ?_; refine then_r ?_
        cases H
        exact ret1 rfl (rv_tmp rfl rfl) hAt
theorem ok_f_ref02_LoadErr (N : Nat) (x0 : GLoad) (x1 : (List GLoad)) (x2 : Int) (r : Int) (H : f_ref02_LoadErr N x0 x1 x2 = some r) : FnOk Try.prog 60 [fV GLoad.rep x0, fV (Rep.slice GLoad.rep) x1, fV r_i64 x2] (fV r_i64 r) := by
  unfold f_ref02_LoadErr at H; refine fn_enter Try.func60 rfl rfl (by kernel_rfl) ?_; intro κ B h0 F a w hAt; refine wp_seq ?_
  refine reg [⟨fRef GLoad.rep x0, [], [(0, none)], []⟩,
      ⟨fV r_i64 0, [], [], []⟩] [1, 2, 3] [] hAt
      ⟨ok_box rfl opd0,
      ok_assign rfl opdI, trivial⟩ (by kernel_rfl) ?_
  clear hAt; intro a w hAt; replace hAt : At B h0 (mkG [(1, fV (Rep.slice GLoad.rep) x1), (2, fV r_i64 x2), (3, fRef GLoad.rep x0)]) (mkO []) F 49 a w := hAt; refine then_n ?_; refine wp_seq ?_; refine wp_seq ?_; obtain ⟨v1, hv1, H⟩ := bindE H
  refine reg [⟨fRef Rep.str x0.Name, [], [(3, none)], []⟩,
      ⟨fV Rep.str x0.Name, [], [(8, some 0)], []⟩,
      ⟨fV Rep.bool v1, [], [(9, some 1)], []⟩,
      ⟨fV Rep.bool (!v1), [], [(10, some 2)], []⟩] [1, 2, 3, 11] [] hAt
      ⟨ok_field GLoad.l0 fo24_0 rfl opd0,
      ok_load ty9 rfl opd0,
      ok_call (ok_f_base_IsName N x0.Name _ hv1) Try.func56 (by kernel_rfl) (by kernel_rfl) rfl ⟨opd0, trivial⟩,
      ok_not rfl opd0, trivial⟩ (by kernel_rfl) ?_
  clear hAt; intro a w hAt; replace hAt : At B h0 (mkG [(1, fV (Rep.slice GLoad.rep) x1), (2, fV r_i64 x2), (3, fRef GLoad.rep x0), (11, fV Rep.bool (!v1))]) (mkO []) F 49 a w := hAt; refine then_n ?_; refine wp_if hAt (by rfl) ?_ ?_
  · intro hb16; have H := iteT hb16 H; refine wp_seq ?_
    refine reg [⟨fV r_i64 4, [], [], []⟩] [6] [] hAt
        ⟨ok_assign rfl opdI, trivial⟩ (by kernel_rfl) ?_
    clear hAt; intro a w hAt; replace hAt : At B h0 (mkG [(6, fV r_i64 4)]) (mkO []) F 49 a w := hAt; refine then_n ?_; refine wp_ret ?_; refine then_r ?_
    cases H
    exact ret1 rfl (rv_tmp rfl rfl) hAt
  · intro hb16; have H := iteF hb16 H; refine wp_skip ?_; refine then_n ?_; refine wp_seq ?_; refine wp_seq ?_
    refine reg [⟨fV r_i64 0, [], [], []⟩] [1, 2, 3, 7] [] hAt
        ⟨ok_assign rfl opdI, trivial⟩ (by kernel_rfl) ?_
    clear hAt; intro a w hAt; replace hAt : At B h0 (mkG [(1, fV (Rep.slice GLoad.rep) x1), (2, fV r_i64 x2), (3, fRef GLoad.rep x0), (7, fV r_i64 0)]) (mkO []) F 49 a w := hAt; refine then_n ?_; refine wp_block ?_; obtain ⟨o6, hl7, H⟩ := bindE H
    refine wp_mono (wp_loopN (f := f_ref02_LoadErr_L1 N x0 x1) (fun (s2 : Int) a w => At B h0 (mkG [(1, fV (Rep.slice GLoad.rep) x1), (2, fV r_i64 x2), (3, fRef GLoad.rep x0), (7, fV r_i64 s2)]) (mkO []) F 49 a w) (fun o e a w => (Sum.elim (fun v => e = .exit 0 ∧ At B h0 (mkG [(2, fV r_i64 x2), (3, fRef GLoad.rep x0)]) (mkO []) F 49 a w) (fun v => e = .ret ∧ At B h0 (mkG [(6, fV r_i64 v)]) (mkO []) F 49 a w)) o) ?_ N 0 o6 _ _ hl7 ?_) ?_
    · clear H hAt hl7; intro s2 r15 a w H hAt; unfold f_ref02_LoadErr_L1 at H; refine wp_seq ?_; refine wp_seq ?_
      refine reg [⟨fV r_i64 s2, [], [(7, none)], []⟩,
          ⟨fV (Rep.slice GLoad.rep) x1, [], [(1, none)], []⟩,
          ⟨fV r_i64 (List.length x1 : Int), [], [(13, some 1)], []⟩,
          ⟨fV Rep.bool (cmpI .lss s2 (List.length x1 : Int)), [], [(12, some 0), (14, some 2)], []⟩] [1, 2, 3, 7, 15] [] hAt
          ⟨ok_move rfl opd0,
          ok_move rfl opd0,
          ok_len un25 rfl opd0,
          ok_cmp (op := .lss) (by simp) rfl rfl opd0 opd1, trivial⟩ (by kernel_rfl) ?_
      clear hAt; intro a w hAt; replace hAt : At B h0 (mkG [(1, fV (Rep.slice GLoad.rep) x1), (2, fV r_i64 x2), (3, fRef GLoad.rep x0), (7, fV r_i64 s2), (15, fV Rep.bool (cmpI .lss s2 (List.length x1 : Int)))]) (mkO []) F 49 a w := hAt; refine then_n ?_; refine wp_if hAt (by rfl) ?_ ?_
      · intro hb5; have H := iteT hb5 H; refine wp_skip ?_; refine then_n ?_; refine wp_seq ?_; refine wp_block ?_; refine wp_seq ?_; obtain ⟨v3, hv3, H⟩ := bindE H
        refine regd [⟨fV (Rep.slice GLoad.rep) x1, [], [(1, none)], []⟩,
            ⟨fV r_i64 s2, [], [(7, none)], []⟩,
            ⟨fRef GLoad.rep v3, [], [(18, some 0), (19, some 1)], []⟩,
            ⟨fRef Rep.str v3.Name, [], [(20, some 2)], []⟩,
            ⟨fV Rep.str v3.Name, [], [(21, some 3)], []⟩,
            ⟨fRef Rep.str x0.Name, [], [(3, none)], []⟩,
            ⟨fV Rep.str x0.Name, [], [(23, some 5)], []⟩,
            ⟨fV Rep.bool (cmpS .eql v3.Name x0.Name), [], [(22, some 4), (24, some 6)], []⟩] [0, 1, 2, 3, 4, 5, 6, 7] [0, 1, 2, 3, 4, 5, 6, 7] [1, 2, 3, 7, 25] [] hAt
            ⟨ok_move rfl opd0,
            ok_move rfl opd0,
            ok_index ty24 un25 hv3 rfl opd0 opd1,
            ok_field GLoad.l0 fo24_0 rfl opd0,
            ok_load ty9 rfl opd0,
            ok_field GLoad.l0 fo24_0 rfl opd0,
            ok_load ty9 rfl opd0,
            ok_cmpS (op := .eql) (by simp) rfl rfl opd0 opd1, trivial⟩ (by kernel_rfl) ?_
        clear hAt; intro a w hAt; replace hAt : At B h0 (mkG [(1, fV (Rep.slice GLoad.rep) x1), (2, fV r_i64 x2), (3, fRef GLoad.rep x0), (7, fV r_i64 s2), (25, fV Rep.bool (cmpS .eql v3.Name x0.Name))]) (mkO []) F 49 a w := hAt; refine then_n ?_; refine wp_if hAt (by rfl) ?_ ?_
        · intro hb4; have H := iteT hb4 H; refine wp_seq ?_
          refine reg [⟨fV r_i64 5, [], [], []⟩] [6] [] hAt
              ⟨ok_assign rfl opdI, trivial⟩ (by kernel_rfl) ?_
          clear hAt; intro a w hAt; replace hAt : At B h0 (mkG [(6, fV r_i64 5)]) (mkO []) F 49 a w := hAt; refine then_n ?_; refine wp_ret ?_; refine blk_r ?_; refine then_r ?_
          cases H
          exact ⟨ret_ne, rfl, hAt.pick [6] []⟩
        · intro hb4; have H := iteF hb4 H; refine wp_skip ?_; refine blk_n ?_; refine then_n ?_
          refine reg [⟨fV r_i64 s2, [], [(7, none)], []⟩,
              ⟨fV r_i64 (IntKind.i64.wrap (s2 + 1)), [], [(16, some 0)], []⟩,
              ⟨fV r_i64 (IntKind.i64.wrap (s2 + 1)), [], [(17, some 1)], []⟩] [1, 2, 3, 7] [] hAt
              ⟨ok_move rfl opd0,
              ok_add rfl opd0 opdI,
              ok_assign rfl opd0, trivial⟩ (by kernel_rfl) ?_
          clear hAt; intro a w hAt; replace hAt : At B h0 (mkG [(1, fV (Rep.slice GLoad.rep) x1), (2, fV r_i64 x2), (3, fRef GLoad.rep x0), (7, fV r_i64 (IntKind.i64.wrap (s2 + 1)))]) (mkO []) F 49 a w := hAt
          cases H
          exact ⟨rfl, hAt.pick [1, 2, 3, 7] []⟩
      · intro hb5; have H := iteF hb5 H; refine wp_exit ?_; refine then_x ?_
        cases H
        exact ⟨ex_ne, rfl, hAt.pick [2, 3] []⟩
    · exact hAt.pick [1, 2, 3, 7] []
    · clear hAt; intro e a w hp
      cases o6 with
      | inl l8 =>
        rw [Sum.elim_inl] at H; obtain ⟨rfl, hAt⟩ := hp; refine blk_eq ?_; refine then_n ?_; refine wp_seq ?_; refine wp_seq ?_; obtain ⟨v10, hv10, H⟩ := bindE H; obtain ⟨v11, hv11, H⟩ := bindE H; obtain ⟨v12, hv12, H⟩ := bindE H; obtain ⟨v13, hv13, H⟩ := bindE H
        refine reg [⟨fRef r_i64 x0.Mass, [], [(3, none)], []⟩,
            ⟨fV r_i64 x0.Mass, [], [(26, some 0)], []⟩,
            ⟨fV r_i64 x2, [], [(2, none)], []⟩,
            ⟨fV Rep.bool v10, [], [(27, some 1), (28, some 2)], []⟩,
            ⟨fV Rep.bool (!v10), [], [(29, some 3)], []⟩,
            ⟨fV Rep.bool (!v10), [], [(30, some 4)], []⟩,
            ⟨Fact.when ((!(!v10)) = true) (fRef r_i64 x0.X), [], [(31, some 5), (3, none)], []⟩,
            ⟨Fact.when ((!(!v10)) = true) (fV r_i64 x0.X), [], [(31, some 5), (32, some 6)], []⟩,
            ⟨Fact.when ((!(!v10)) = true) (fV Rep.bool v11), [], [(31, some 5), (33, some 7)], []⟩,
            ⟨Fact.when ((!(!v10)) = true) (fV Rep.bool (!v11)), [], [(31, some 5), (34, some 8)], []⟩,
            ⟨fV Rep.bool ((!v10) || (!v11)), [], [(31, some 5), (35, some 9)], []⟩,
            ⟨fV Rep.bool ((!v10) || (!v11)), [], [(36, some 10)], []⟩,
            ⟨Fact.when ((!((!v10) || (!v11))) = true) (fRef r_i64 x0.Z), [], [(37, some 11), (3, none)], []⟩,
            ⟨Fact.when ((!((!v10) || (!v11))) = true) (fV r_i64 x0.Z), [], [(37, some 11), (38, some 12)], []⟩,
            ⟨Fact.when ((!((!v10) || (!v11))) = true) (fV Rep.bool v12), [], [(37, some 11), (39, some 13)], []⟩,
            ⟨Fact.when ((!((!v10) || (!v11))) = true) (fV Rep.bool (!v12)), [], [(37, some 11), (40, some 14)], []⟩,
            ⟨fV Rep.bool (((!v10) || (!v11)) || (!v12)), [], [(37, some 11), (41, some 15)], []⟩,
            ⟨fV Rep.bool (((!v10) || (!v11)) || (!v12)), [], [(42, some 16)], []⟩,
            ⟨Fact.when ((!(((!v10) || (!v11)) || (!v12))) = true) (fRef r_i64 x0.Free), [], [(43, some 17), (3, none)], []⟩,
            ⟨Fact.when ((!(((!v10) || (!v11)) || (!v12))) = true) (fV r_i64 x0.Free), [], [(43, some 17), (44, some 18)], []⟩,
            ⟨Fact.when ((!(((!v10) || (!v11)) || (!v12))) = true) (fV Rep.bool v13), [], [(43, some 17), (45, some 19)], []⟩,
            ⟨Fact.when ((!(((!v10) || (!v11)) || (!v12))) = true) (fV Rep.bool (!v13)), [], [(43, some 17), (46, some 20)], []⟩,
            ⟨fV Rep.bool ((((!v10) || (!v11)) || (!v12)) || (!v13)), [], [(43, some 17), (47, some 21)], []⟩] [48] [] hAt
            ⟨ok_field GLoad.l1 fo24_1 rfl opd0,
            ok_load ty3 rfl opd0,
            ok_move rfl opd0,
            ok_call (ok_f_ref02_within N x0.Mass x2 1000000000 _ hv10) Try.func57 (by kernel_rfl) (by kernel_rfl) rfl ⟨opd0, ⟨opd1, ⟨opdI, trivial⟩⟩⟩,
            ok_not rfl opd0,
            ok_move rfl opd0,
            obl_tf rfl rfl rfl rfl rfl rfl rfl (fun hg => ok_field GLoad.l2 fo24_2 rfl opd1),
            obl_tf rfl rfl rfl rfl rfl rfl rfl (fun hg => ok_load ty3 rfl (opd1.on hg)),
            obl_tf rfl rfl rfl rfl rfl rfl rfl (fun hg => ok_call (ok_f_ref02_within N x0.X (-1000000) 1000000 _ (iteT hg hv11)) Try.func57 (by kernel_rfl) (by kernel_rfl) rfl ⟨(opd1.on hg), ⟨opdI, ⟨opdI, trivial⟩⟩⟩),
            obl_tf rfl rfl rfl rfl rfl rfl rfl (fun hg => ok_not rfl (opd1.on hg)),
            ok_or rfl opd0 (fun e => (opd1.on (notT e))),
            ok_move rfl opd0,
            obl_tf rfl rfl rfl rfl rfl rfl rfl (fun hg => ok_field GLoad.l3 fo24_3 rfl opd1),
            obl_tf rfl rfl rfl rfl rfl rfl rfl (fun hg => ok_load ty3 rfl (opd1.on hg)),
            obl_tf rfl rfl rfl rfl rfl rfl rfl (fun hg => ok_call (ok_f_ref02_within N x0.Z (-100000) 100000 _ (iteT hg hv12)) Try.func57 (by kernel_rfl) (by kernel_rfl) rfl ⟨(opd1.on hg), ⟨opdI, ⟨opdI, trivial⟩⟩⟩),
            obl_tf rfl rfl rfl rfl rfl rfl rfl (fun hg => ok_not rfl (opd1.on hg)),
            ok_or rfl opd0 (fun e => (opd1.on (notT e))),
            ok_move rfl opd0,
            obl_tf rfl rfl rfl rfl rfl rfl rfl (fun hg => ok_field GLoad.l4 fo24_4 rfl opd1),
            obl_tf rfl rfl rfl rfl rfl rfl rfl (fun hg => ok_load ty3 rfl (opd1.on hg)),
            obl_tf rfl rfl rfl rfl rfl rfl rfl (fun hg => ok_call (ok_f_ref02_within N x0.Free 0 1000000000 _ (iteT hg hv13)) Try.func57 (by kernel_rfl) (by kernel_rfl) rfl ⟨(opd1.on hg), ⟨opdI, ⟨opdI, trivial⟩⟩⟩),
            obl_tf rfl rfl rfl rfl rfl rfl rfl (fun hg => ok_not rfl (opd1.on hg)),
            ok_or rfl opd0 (fun e => (opd1.on (notT e))), trivial⟩ (by kernel_rfl) ?_
        clear hAt; intro a w hAt; replace hAt : At B h0 (mkG [(48, fV Rep.bool ((((!v10) || (!v11)) || (!v12)) || (!v13)))]) (mkO []) F 49 a w := hAt; refine then_n ?_; refine wp_if hAt (by rfl) ?_ ?_
        · intro hb14; have H := iteT hb14 H; refine wp_seq ?_
          refine reg [⟨fV r_i64 2, [], [], []⟩] [6] [] hAt
              ⟨ok_assign rfl opdI, trivial⟩ (by kernel_rfl) ?_
          clear hAt; intro a w hAt; replace hAt : At B h0 (mkG [(6, fV r_i64 2)]) (mkO []) F 49 a w := hAt; refine then_n ?_; refine wp_ret ?_; refine then_r ?_
          cases H
          exact ret1 rfl (rv_tmp rfl rfl) hAt
        · intro hb14; have H := iteF hb14 H; refine wp_skip ?_; refine then_n ?_; refine wp_seq ?_
          refine reg [⟨fV r_i64 0, [], [], []⟩] [6] [] hAt
              ⟨ok_assign rfl opdI, trivial⟩ (by kernel_rfl) ?_
          clear hAt; intro a w hAt; replace hAt : At B h0 (mkG [(6, fV r_i64 0)]) (mkO []) F 49 a w := hAt; refine then_n ?_; refine wp_ret ?_
          cases H
          exact ret1 rfl (rv_tmp rfl rfl) hAt
      | inr r9 =>
        rw [Sum.elim_inr] at H; replace hp := hp; obtain ⟨rfl, hAt⟩ := hp; refine blk_r ?_; refine then_r ?_
        cases H
        exact ret1 rfl (rv_tmp rfl rfl) hAt
theorem ok_f_ref02_Check (N : Nat) (x0 : GShip) (r : Int) (H : f_ref02_Check N x0 = some r) : FnOk Try.prog 20 [fV GShip.rep x0] (fV r_i64 r) := by
  unfold f_ref02_Check at H; refine fn_enter Try.func20 rfl rfl (by kernel_rfl) ?_; intro κ B h0 F a w hAt; refine wp_seq ?_
  refine reg [⟨fRef GShip.rep x0, [], [(0, none)], []⟩,
      ⟨fV r_i64 0, [], [], []⟩] [1] [] hAt
      ⟨ok_box rfl opd0,
      ok_assign rfl opdI, trivial⟩ (by kernel_rfl) ?_
  clear hAt; intro a w hAt; replace hAt : At B h0 (mkG [(1, fRef GShip.rep x0)]) (mkO []) F 126 a w := hAt; refine then_n ?_; refine wp_seq ?_; refine wp_seq ?_; obtain ⟨v1, hv1, H⟩ := bindE H
  refine reg [⟨fRef Rep.str x0.Name, [], [(1, none)], []⟩,
      ⟨fV Rep.str x0.Name, [], [(11, some 0)], []⟩,
      ⟨fV Rep.bool v1, [], [(12, some 1)], []⟩,
      ⟨fV Rep.bool (!v1), [], [(13, some 2)], []⟩] [1, 14] [] hAt
      ⟨ok_field GShip.l0 fo27_0 rfl opd0,
      ok_load ty9 rfl opd0,
      ok_call (ok_f_base_IsName N x0.Name _ hv1) Try.func56 (by kernel_rfl) (by kernel_rfl) rfl ⟨opd0, trivial⟩,
      ok_not rfl opd0, trivial⟩ (by kernel_rfl) ?_
  clear hAt; intro a w hAt; replace hAt : At B h0 (mkG [(1, fRef GShip.rep x0), (14, fV Rep.bool (!v1))]) (mkO []) F 126 a w := hAt; refine then_n ?_; refine wp_if hAt (by rfl) ?_ ?_
  · intro hb37; have H := iteT hb37 H; refine wp_seq ?_
    refine reg [⟨fV r_i64 4, [], [], []⟩] [2] [] hAt
        ⟨ok_assign rfl opdI, trivial⟩ (by kernel_rfl) ?_
    clear hAt; intro a w hAt; replace hAt : At B h0 (mkG [(2, fV r_i64 4)]) (mkO []) F 126 a w := hAt; refine then_n ?_; refine wp_ret ?_; refine then_r ?_
    cases H
    exact ret1 rfl (rv_tmp rfl rfl) hAt
  · intro hb37; have H := iteF hb37 H; refine wp_skip ?_; refine then_n ?_; refine wp_seq ?_; refine wp_seq ?_; obtain ⟨v2, hv2, H⟩ := bindE H; obtain ⟨v3, hv3, H⟩ := bindE H
    refine reg [⟨fRef r_i64 x0.Length, [], [(1, none)], []⟩,
        ⟨fV r_i64 x0.Length, [], [(15, some 0)], []⟩,
        ⟨fV Rep.bool v2, [], [(16, some 1)], []⟩,
        ⟨fV Rep.bool (!v2), [], [(17, some 2)], []⟩,
        ⟨fV Rep.bool (!v2), [], [(18, some 3)], []⟩,
        ⟨Fact.when ((!(!v2)) = true) (fRef (Rep.slice GStation.rep) x0.Stations), [], [(19, some 4), (1, none)], []⟩,
        ⟨Fact.when ((!(!v2)) = true) (fV (Rep.slice GStation.rep) x0.Stations), [], [(19, some 4), (20, some 5)], []⟩,
        ⟨Fact.when ((!(!v2)) = true) (fV r_i64 (List.length x0.Stations : Int)), [], [(19, some 4), (21, some 6)], []⟩,
        ⟨Fact.when ((!(!v2)) = true) (fV Rep.bool v3), [], [(19, some 4), (22, some 7)], []⟩,
        ⟨Fact.when ((!(!v2)) = true) (fV Rep.bool (!v3)), [], [(19, some 4), (23, some 8)], []⟩,
        ⟨fV Rep.bool ((!v2) || (!v3)), [], [(19, some 4), (24, some 9)], []⟩] [1, 25] [] hAt
        ⟨ok_field GShip.l1 fo27_1 rfl opd0,
        ok_load ty3 rfl opd0,
        ok_call (ok_f_ref02_within N x0.Length 1 1000000 _ hv2) Try.func57 (by kernel_rfl) (by kernel_rfl) rfl ⟨opd0, ⟨opdI, ⟨opdI, trivial⟩⟩⟩,
        ok_not rfl opd0,
        ok_move rfl opd0,
        obl_tf rfl rfl rfl rfl rfl rfl rfl (fun hg => ok_field GShip.l2 fo27_2 rfl opd1),
        obl_tf rfl rfl rfl rfl rfl rfl rfl (fun hg => ok_load ty22 rfl (opd1.on hg)),
        obl_tf rfl rfl rfl rfl rfl rfl rfl (fun hg => ok_len un22 rfl (opd1.on hg)),
        obl_tf rfl rfl rfl rfl rfl rfl rfl (fun hg => ok_call (ok_f_ref02_within N (List.length x0.Stations : Int) 1 40 _ (iteT hg hv3)) Try.func57 (by kernel_rfl) (by kernel_rfl) rfl ⟨(opd1.on hg), ⟨opdI, ⟨opdI, trivial⟩⟩⟩),
        obl_tf rfl rfl rfl rfl rfl rfl rfl (fun hg => ok_not rfl (opd1.on hg)),
        ok_or rfl opd0 (fun e => (opd1.on (notT e))), trivial⟩ (by kernel_rfl) ?_
    clear hAt; intro a w hAt; replace hAt : At B h0 (mkG [(1, fRef GShip.rep x0), (25, fV Rep.bool ((!v2) || (!v3)))]) (mkO []) F 126 a w := hAt; refine then_n ?_; refine wp_if hAt (by rfl) ?_ ?_
    · intro hb36; have H := iteT hb36 H; refine wp_seq ?_
      refine reg [⟨fV r_i64 2, [], [], []⟩] [2] [] hAt
          ⟨ok_assign rfl opdI, trivial⟩ (by kernel_rfl) ?_
      clear hAt; intro a w hAt; replace hAt : At B h0 (mkG [(2, fV r_i64 2)]) (mkO []) F 126 a w := hAt; refine then_n ?_; refine wp_ret ?_; refine then_r ?_
      cases H
      exact ret1 rfl (rv_tmp rfl rfl) hAt
    · intro hb36; have H := iteF hb36 H; refine wp_skip ?_; refine then_n ?_; refine wp_seq ?_; refine wp_seq ?_
      refine reg [⟨fV r_i64 0, [], [], []⟩] [1, 3] [] hAt
          ⟨ok_assign rfl opdI, trivial⟩ (by kernel_rfl) ?_
      clear hAt; intro a w hAt; replace hAt : At B h0 (mkG [(1, fRef GShip.rep x0), (3, fV r_i64 0)]) (mkO []) F 126 a w := hAt; refine then_n ?_; refine wp_block ?_; obtain ⟨o16, hl17, H⟩ := bindE H
      refine wp_mono (wp_loopN (f := f_ref02_Check_L2 N x0) (fun (s4 : Int) a w => At B h0 (mkG [(1, fRef GShip.rep x0), (3, fV r_i64 s4)]) (mkO []) F 126 a w) (fun o e a w => (Sum.elim (fun v => e = .exit 0 ∧ At B h0 (mkG [(1, fRef GShip.rep x0)]) (mkO []) F 126 a w) (fun v => e = .ret ∧ At B h0 (mkG [(2, fV r_i64 v)]) (mkO []) F 126 a w)) o) ?_ N 0 o16 _ _ hl17 ?_) ?_
      · clear H hAt hl17; intro s4 r35 a w H hAt; unfold f_ref02_Check_L2 at H; refine wp_seq ?_; refine wp_seq ?_
        refine reg [⟨fV r_i64 s4, [], [(3, none)], []⟩,
            ⟨fRef (Rep.slice GStation.rep) x0.Stations, [], [(1, none)], []⟩,
            ⟨fV (Rep.slice GStation.rep) x0.Stations, [], [(27, some 1)], []⟩,
            ⟨fV r_i64 (List.length x0.Stations : Int), [], [(28, some 2)], []⟩,
            ⟨fV Rep.bool (cmpI .lss s4 (List.length x0.Stations : Int)), [], [(26, some 0), (29, some 3)], []⟩] [1, 3, 30] [] hAt
            ⟨ok_move rfl opd0,
            ok_field GShip.l2 fo27_2 rfl opd0,
            ok_load ty22 rfl opd0,
            ok_len un22 rfl opd0,
            ok_cmp (op := .lss) (by simp) rfl rfl opd0 opd1, trivial⟩ (by kernel_rfl) ?_
        clear hAt; intro a w hAt; replace hAt : At B h0 (mkG [(1, fRef GShip.rep x0), (3, fV r_i64 s4), (30, fV Rep.bool (cmpI .lss s4 (List.length x0.Stations : Int)))]) (mkO []) F 126 a w := hAt; refine then_n ?_; refine wp_if hAt (by rfl) ?_ ?_
        · intro hb15; have H := iteT hb15 H; refine wp_skip ?_; refine then_n ?_; refine wp_seq ?_; refine wp_block ?_; refine wp_seq ?_; obtain ⟨v5, hv5, H⟩ := bindE H
          refine reg [⟨fRef (Rep.slice GStation.rep) x0.Stations, [], [(1, none)], []⟩,
              ⟨fV (Rep.slice GStation.rep) x0.Stations, [], [(33, some 0)], []⟩,
              ⟨fV r_i64 s4, [], [(3, none)], []⟩,
              ⟨fRef GStation.rep v5, [], [(34, some 1), (35, some 2)], []⟩,
              ⟨fV GStation.rep v5, [], [(36, some 3)], []⟩,
              ⟨Fact.triv, [(4, some (boxE 71 GStation.rep (⟨0, 0, [], []⟩ : GStation)))], [], []⟩,
              ⟨Fact.triv, [(4, some (boxE 71 GStation.rep v5))], [(37, some 4)], [(4, some 5)]⟩] [1, 3] [4] hAt
              ⟨ok_field GShip.l2 fo27_2 rfl opd0,
              ok_load ty22 rfl opd0,
              ok_move rfl opd0,
              ok_index ty71 un22 hv5 rfl opd0 opd1,
              ok_load ty71 rfl opd0,
              ok_alloc ty71 rfl rfl,
              ok_storeBox ty71 rfl rfl opd0, trivial⟩ (by kernel_rfl) ?_
          clear hAt; intro a w hAt; replace hAt : At B h0 (mkG [(1, fRef GShip.rep x0), (3, fV r_i64 s4)]) (mkO [(4, boxE 71 GStation.rep v5)]) F 126 a w := hAt; refine then_n ?_; refine wp_seq ?_; refine wp_seq ?_; obtain ⟨v6, hv6, H⟩ := bindE H
          refine reg [⟨fV GStation.rep v5, [], [], [(4, none)]⟩,
              ⟨fV r_i64 v6, [], [(38, some 0)], []⟩,
              ⟨fV r_i64 v6, [], [(39, some 1)], []⟩] [1, 3, 5] [4] hAt
              ⟨ok_loadBox ty71 rfl,
              ok_call (ok_f_ref02_StationErr N v5 _ hv6) Try.func58 (by kernel_rfl) (by kernel_rfl) rfl ⟨opd0, trivial⟩,
              ok_assign rfl opd0, trivial⟩ (by kernel_rfl) ?_
          clear hAt; intro a w hAt; replace hAt : At B h0 (mkG [(1, fRef GShip.rep x0), (3, fV r_i64 s4), (5, fV r_i64 v6)]) (mkO [(4, boxE 71 GStation.rep v5)]) F 126 a w := hAt; refine then_n ?_; refine wp_seq ?_
          refine reg [⟨fV r_i64 v6, [], [(5, none)], []⟩,
              ⟨fV Rep.bool (cmpI .neq v6 0), [], [(40, some 0)], []⟩] [1, 3, 5, 41] [4] hAt
              ⟨ok_move rfl opd0,
              ok_cmp (op := .neq) (by simp) rfl rfl opd0 opdI, trivial⟩ (by kernel_rfl) ?_
          clear hAt; intro a w hAt; replace hAt : At B h0 (mkG [(1, fRef GShip.rep x0), (3, fV r_i64 s4), (5, fV r_i64 v6), (41, fV Rep.bool (cmpI .neq v6 0))]) (mkO [(4, boxE 71 GStation.rep v5)]) F 126 a w := hAt; refine then_n ?_; refine wp_if hAt (by rfl) ?_ ?_
          · intro hb14; have H := iteT hb14 H; refine wp_seq ?_
            refine reg [⟨fV r_i64 v6, [], [(5, none)], []⟩,
                ⟨fV r_i64 v6, [], [(42, some 0)], []⟩] [2] [] hAt
                ⟨ok_move rfl opd0,
                ok_assign rfl opd0, trivial⟩ (by kernel_rfl) ?_
            clear hAt; intro a w hAt; replace hAt : At B h0 (mkG [(2, fV r_i64 v6)]) (mkO []) F 126 a w := hAt; refine then_n ?_; refine wp_ret ?_; refine then_r ?_; refine blk_r ?_; refine then_r ?_
            cases H
            exact ⟨ret_ne, rfl, hAt.pick [2] []⟩
          · intro hb14; have H := iteF hb14 H; refine wp_skip ?_; refine then_n ?_; refine wp_seq ?_; refine wp_seq ?_; obtain ⟨v7, hv7, H⟩ := bindE H
            refine regd [⟨fV r_i64 s4, [], [(3, none)], []⟩,
                ⟨fV Rep.bool (cmpI .gtr s4 0), [], [(43, some 0)], []⟩,
                ⟨fV Rep.bool (cmpI .gtr s4 0), [], [(44, some 1)], []⟩,
                ⟨Fact.when ((cmpI .gtr s4 0) = true) (fOff 4 0), [], [(45, some 2)], [(4, none)]⟩,
                ⟨Fact.when ((cmpI .gtr s4 0) = true) (fV r_i64 v5.X), [], [(45, some 2), (46, some 3)], [(4, none)]⟩,
                ⟨Fact.when ((cmpI .gtr s4 0) = true) (fRef (Rep.slice GStation.rep) x0.Stations), [], [(45, some 2), (1, none)], []⟩,
                ⟨Fact.when ((cmpI .gtr s4 0) = true) (fV (Rep.slice GStation.rep) x0.Stations), [], [(45, some 2), (48, some 5)], []⟩,
                ⟨Fact.when ((cmpI .gtr s4 0) = true) (fV r_i64 s4), [], [(45, some 2), (3, none)], []⟩,
                ⟨Fact.when ((cmpI .gtr s4 0) = true) (fV r_i64 (IntKind.i64.wrap (s4 - 1))), [], [(45, some 2), (50, some 7)], []⟩,
                ⟨Fact.when ((cmpI .gtr s4 0) = true) (fRef GStation.rep v7), [], [(45, some 2), (49, some 6), (51, some 8)], []⟩,
                ⟨Fact.when ((cmpI .gtr s4 0) = true) (fRef r_i64 v7.X), [], [(45, some 2), (52, some 9)], []⟩,
                ⟨Fact.when ((cmpI .gtr s4 0) = true) (fV r_i64 v7.X), [], [(45, some 2), (53, some 10)], []⟩,
                ⟨Fact.when ((cmpI .gtr s4 0) = true) (fV Rep.bool (cmpI .leq v5.X v7.X)), [], [(45, some 2), (47, some 4), (54, some 11)], []⟩,
                ⟨fV Rep.bool ((cmpI .gtr s4 0) && (cmpI .leq v5.X v7.X)), [], [(45, some 2), (55, some 12)], []⟩] [0, 1, 2, 3, 4, 5, 6, 7, 8, 9, 10, 11, 12, 13] [0, 1, 2, 3, 4, 5, 6, 7, 8, 9, 10, 11, 12, 13] [1, 3, 56] [4] hAt
                ⟨ok_move rfl opd0,
                ok_cmp (op := .gtr) (by simp) rfl rfl opd0 opdI,
                ok_move rfl opd0,
                obl_tt rfl rfl rfl rfl rfl rfl rfl (fun hg => ok_fieldOwn fo71_0 rfl),
                obl_tt rfl rfl rfl rfl rfl rfl rfl (fun hg => ok_loadOwn GStation.l0 ty3 rfl (opd1.on hg)),
                obl_tt rfl rfl rfl rfl rfl rfl rfl (fun hg => ok_field GShip.l2 fo27_2 rfl opd1),
                obl_tt rfl rfl rfl rfl rfl rfl rfl (fun hg => ok_load ty22 rfl (opd1.on hg)),
                obl_tt rfl rfl rfl rfl rfl rfl rfl (fun hg => ok_move rfl opd1),
                obl_tt rfl rfl rfl rfl rfl rfl rfl (fun hg => ok_sub rfl (opd1.on hg) opdI),
                obl_tt rfl rfl rfl rfl rfl rfl rfl (fun hg => ok_index ty71 un22 (iteT hg hv7) rfl (opd1.on hg) (opd2.on hg)),
                obl_tt rfl rfl rfl rfl rfl rfl rfl (fun hg => ok_field GStation.l0 fo71_0 rfl (opd1.on hg)),
                obl_tt rfl rfl rfl rfl rfl rfl rfl (fun hg => ok_load ty3 rfl (opd1.on hg)),
                obl_tt rfl rfl rfl rfl rfl rfl rfl (fun hg => ok_cmp (op := .leq) (by simp) rfl rfl (opd1.on hg) (opd2.on hg)),
                ok_and rfl opd0 (fun e => (opd1.on e)), trivial⟩ (by kernel_rfl) ?_
            clear hAt; intro a w hAt; replace hAt : At B h0 (mkG [(1, fRef GShip.rep x0), (3, fV r_i64 s4), (56, fV Rep.bool ((cmpI .gtr s4 0) && (cmpI .leq v5.X v7.X)))]) (mkO [(4, boxE 71 GStation.rep v5)]) F 126 a w := hAt; refine then_n ?_; refine wp_if hAt (by rfl) ?_ ?_
            · intro hb13; have H := iteT hb13 H; refine wp_seq ?_
              refine reg [⟨fV r_i64 10, [], [], []⟩] [2] [] hAt
                  ⟨ok_assign rfl opdI, trivial⟩ (by kernel_rfl) ?_
              clear hAt; intro a w hAt; replace hAt : At B h0 (mkG [(2, fV r_i64 10)]) (mkO []) F 126 a w := hAt; refine then_n ?_; refine wp_ret ?_; refine then_r ?_; refine blk_r ?_; refine then_r ?_
              cases H
              exact ⟨ret_ne, rfl, hAt.pick [2] []⟩
            · intro hb13; have H := iteF hb13 H; refine wp_skip ?_; refine then_n ?_; refine wp_seq ?_; refine wp_seq ?_; obtain ⟨v8, hv8, H⟩ := bindE H; obtain ⟨v9, hv9, H⟩ := bindE H
              refine regd [⟨fV r_i64 s4, [], [(3, none)], []⟩,
                  ⟨fV Rep.bool (cmpI .gtr s4 0), [], [(57, some 0)], []⟩,
                  ⟨fV Rep.bool (cmpI .gtr s4 0), [], [(58, some 1)], []⟩,
                  ⟨Fact.when ((cmpI .gtr s4 0) = true) (fOff 4 0), [], [(59, some 2)], [(4, none)]⟩,
                  ⟨Fact.when ((cmpI .gtr s4 0) = true) (fV r_i64 v5.X), [], [(59, some 2), (60, some 3)], [(4, none)]⟩,
                  ⟨Fact.when ((cmpI .gtr s4 0) = true) (fRef (Rep.slice GStation.rep) x0.Stations), [], [(59, some 2), (1, none)], []⟩,
                  ⟨Fact.when ((cmpI .gtr s4 0) = true) (fV (Rep.slice GStation.rep) x0.Stations), [], [(59, some 2), (62, some 5)], []⟩,
                  ⟨Fact.when ((cmpI .gtr s4 0) = true) (fV r_i64 s4), [], [(59, some 2), (3, none)], []⟩,
                  ⟨Fact.when ((cmpI .gtr s4 0) = true) (fV r_i64 (IntKind.i64.wrap (s4 - 1))), [], [(59, some 2), (64, some 7)], []⟩,
                  ⟨Fact.when ((cmpI .gtr s4 0) = true) (fRef GStation.rep v8), [], [(59, some 2), (63, some 6), (65, some 8)], []⟩,
                  ⟨Fact.when ((cmpI .gtr s4 0) = true) (fRef r_i64 v8.X), [], [(59, some 2), (66, some 9)], []⟩,
                  ⟨Fact.when ((cmpI .gtr s4 0) = true) (fV r_i64 v8.X), [], [(59, some 2), (67, some 10)], []⟩,
                  ⟨Fact.when ((cmpI .gtr s4 0) = true) (fV r_i64 (IntKind.i64.wrap (v5.X - v8.X))), [], [(59, some 2), (61, some 4), (68, some 11)], []⟩,
                  ⟨Fact.when ((cmpI .gtr s4 0) = true) (fV r_i64 (IntKind.i64.wrap (2 * (IntKind.i64.wrap (v5.X - v8.X))))), [], [(59, some 2), (69, some 12)], []⟩,
                  ⟨Fact.when ((cmpI .gtr s4 0) = true) (fOff 4 1), [], [(59, some 2)], [(4, none)]⟩,
                  ⟨Fact.when ((cmpI .gtr s4 0) = true) (fV r_i64 v5.Width), [], [(59, some 2), (71, some 14)], [(4, none)]⟩,
                  ⟨Fact.when ((cmpI .gtr s4 0) = true) (fRef (Rep.slice GStation.rep) x0.Stations), [], [(59, some 2), (1, none)], []⟩,
                  ⟨Fact.when ((cmpI .gtr s4 0) = true) (fV (Rep.slice GStation.rep) x0.Stations), [], [(59, some 2), (73, some 16)], []⟩,
                  ⟨Fact.when ((cmpI .gtr s4 0) = true) (fV r_i64 s4), [], [(59, some 2), (3, none)], []⟩,
                  ⟨Fact.when ((cmpI .gtr s4 0) = true) (fV r_i64 (IntKind.i64.wrap (s4 - 1))), [], [(59, some 2), (75, some 18)], []⟩,
                  ⟨Fact.when ((cmpI .gtr s4 0) = true) (fRef GStation.rep v9), [], [(59, some 2), (74, some 17), (76, some 19)], []⟩,
                  ⟨Fact.when ((cmpI .gtr s4 0) = true) (fRef r_i64 v9.Width), [], [(59, some 2), (77, some 20)], []⟩,
                  ⟨Fact.when ((cmpI .gtr s4 0) = true) (fV r_i64 v9.Width), [], [(59, some 2), (78, some 21)], []⟩,
                  ⟨Fact.when ((cmpI .gtr s4 0) = true) (fV r_i64 (IntKind.i64.wrap (v5.Width + v9.Width))), [], [(59, some 2), (72, some 15), (79, some 22)], []⟩,
                  ⟨Fact.when ((cmpI .gtr s4 0) = true) (fV Rep.bool (cmpI .lss (IntKind.i64.wrap (2 * (IntKind.i64.wrap (v5.X - v8.X)))) (IntKind.i64.wrap (v5.Width + v9.Width)))), [], [(59, some 2), (70, some 13), (80, some 23)], []⟩,
                  ⟨fV Rep.bool ((cmpI .gtr s4 0) && (cmpI .lss (IntKind.i64.wrap (2 * (IntKind.i64.wrap (v5.X - v8.X)))) (IntKind.i64.wrap (v5.Width + v9.Width)))), [], [(59, some 2), (81, some 24)], []⟩] [0, 1, 2, 3, 4, 5, 6, 7, 8, 9, 10, 11, 12, 13, 14, 15, 16, 17, 18, 19, 20, 21, 22, 23, 24, 25] [0, 1, 2, 3, 4, 5, 6, 7, 8, 9, 10, 11, 12, 13, 14, 15, 16, 17, 18, 19, 20, 21, 22, 23, 24, 25] [1, 3, 82] [4] hAt
                  ⟨ok_move rfl opd0,
                  ok_cmp (op := .gtr) (by simp) rfl rfl opd0 opdI,
                  ok_move rfl opd0,
                  obl_tt rfl rfl rfl rfl rfl rfl rfl (fun hg => ok_fieldOwn fo71_0 rfl),
                  obl_tt rfl rfl rfl rfl rfl rfl rfl (fun hg => ok_loadOwn GStation.l0 ty3 rfl (opd1.on hg)),
                  obl_tt rfl rfl rfl rfl rfl rfl rfl (fun hg => ok_field GShip.l2 fo27_2 rfl opd1),
                  obl_tt rfl rfl rfl rfl rfl rfl rfl (fun hg => ok_load ty22 rfl (opd1.on hg)),
                  obl_tt rfl rfl rfl rfl rfl rfl rfl (fun hg => ok_move rfl opd1),
                  obl_tt rfl rfl rfl rfl rfl rfl rfl (fun hg => ok_sub rfl (opd1.on hg) opdI),
                  obl_tt rfl rfl rfl rfl rfl rfl rfl (fun hg => ok_index ty71 un22 (iteT hg hv8) rfl (opd1.on hg) (opd2.on hg)),
                  obl_tt rfl rfl rfl rfl rfl rfl rfl (fun hg => ok_field GStation.l0 fo71_0 rfl (opd1.on hg)),
                  obl_tt rfl rfl rfl rfl rfl rfl rfl (fun hg => ok_load ty3 rfl (opd1.on hg)),
                  obl_tt rfl rfl rfl rfl rfl rfl rfl (fun hg => ok_sub rfl (opd1.on hg) (opd2.on hg)),
                  obl_tt rfl rfl rfl rfl rfl rfl rfl (fun hg => ok_mul rfl opdI (opd1.on hg)),
                  obl_tt rfl rfl rfl rfl rfl rfl rfl (fun hg => ok_fieldOwn fo71_1 rfl),
                  obl_tt rfl rfl rfl rfl rfl rfl rfl (fun hg => ok_loadOwn GStation.l1 ty3 rfl (opd1.on hg)),
                  obl_tt rfl rfl rfl rfl rfl rfl rfl (fun hg => ok_field GShip.l2 fo27_2 rfl opd1),
                  obl_tt rfl rfl rfl rfl rfl rfl rfl (fun hg => ok_load ty22 rfl (opd1.on hg)),
                  obl_tt rfl rfl rfl rfl rfl rfl rfl (fun hg => ok_move rfl opd1),
                  obl_tt rfl rfl rfl rfl rfl rfl rfl (fun hg => ok_sub rfl (opd1.on hg) opdI),
                  obl_tt rfl rfl rfl rfl rfl rfl rfl (fun hg => ok_index ty71 un22 (iteT hg hv9) rfl (opd1.on hg) (opd2.on hg)),
                  obl_tt rfl rfl rfl rfl rfl rfl rfl (fun hg => ok_field GStation.l1 fo71_1 rfl (opd1.on hg)),
                  obl_tt rfl rfl rfl rfl rfl rfl rfl (fun hg => ok_load ty3 rfl (opd1.on hg)),
                  obl_tt rfl rfl rfl rfl rfl rfl rfl (fun hg => ok_add rfl (opd1.on hg) (opd2.on hg)),
                  obl_tt rfl rfl rfl rfl rfl rfl rfl (fun hg => ok_cmp (op := .lss) (by simp) rfl rfl (opd1.on hg) (opd2.on hg)),
                  ok_and rfl opd0 (fun e => (opd1.on e)), trivial⟩ (by kernel_rfl) ?_
              clear hAt; intro a w hAt; replace hAt : At B h0 (mkG [(1, fRef GShip.rep x0), (3, fV r_i64 s4), (82, fV Rep.bool ((cmpI .gtr s4 0) && (cmpI .lss (IntKind.i64.wrap (2 * (IntKind.i64.wrap (v5.X - v8.X)))) (IntKind.i64.wrap (v5.Width + v9.Width)))))]) (mkO [(4, boxE 71 GStation.rep v5)]) F 126 a w := hAt; refine then_n ?_; refine wp_if hAt (by rfl) ?_ ?_
              · intro hb12; have H := iteT hb12 H; refine wp_seq ?_
                refine reg [⟨fV r_i64 17, [], [], []⟩] [2] [] hAt
                    ⟨ok_assign rfl opdI, trivial⟩ (by kernel_rfl) ?_
                clear hAt; intro a w hAt; replace hAt : At B h0 (mkG [(2, fV r_i64 17)]) (mkO []) F 126 a w := hAt; refine then_n ?_; refine wp_ret ?_; refine then_r ?_; refine blk_r ?_; refine then_r ?_
                cases H
                exact ⟨ret_ne, rfl, hAt.pick [2] []⟩
              · intro hb12; have H := iteF hb12 H; refine wp_skip ?_; refine then_n ?_; refine wp_seq ?_; obtain ⟨v10, hv10, H⟩ := bindE H
                refine reg [⟨fV GStation.rep v5, [], [], [(4, none)]⟩,
                    ⟨fV r_i64 v10, [], [(83, some 0)], []⟩,
                    ⟨fV r_i64 v10, [], [(84, some 1)], []⟩] [1, 3, 6] [] hAt
                    ⟨ok_loadBox ty71 rfl,
                    ok_call (ok_f_ref02_FormErr N v5 _ hv10) Try.func59 (by kernel_rfl) (by kernel_rfl) rfl ⟨opd0, trivial⟩,
                    ok_assign rfl opd0, trivial⟩ (by kernel_rfl) ?_
                clear hAt; intro a w hAt; replace hAt : At B h0 (mkG [(1, fRef GShip.rep x0), (3, fV r_i64 s4), (6, fV r_i64 v10)]) (mkO []) F 126 a w := hAt; refine then_n ?_; refine wp_seq ?_
                refine reg [⟨fV r_i64 v10, [], [(6, none)], []⟩,
                    ⟨fV Rep.bool (cmpI .neq v10 0), [], [(85, some 0)], []⟩] [1, 3, 6, 86] [] hAt
                    ⟨ok_move rfl opd0,
                    ok_cmp (op := .neq) (by simp) rfl rfl opd0 opdI, trivial⟩ (by kernel_rfl) ?_
                clear hAt; intro a w hAt; replace hAt : At B h0 (mkG [(1, fRef GShip.rep x0), (3, fV r_i64 s4), (6, fV r_i64 v10), (86, fV Rep.bool (cmpI .neq v10 0))]) (mkO []) F 126 a w := hAt; refine then_n ?_; refine wp_if hAt (by rfl) ?_ ?_
                · intro hb11; have H := iteT hb11 H; refine wp_seq ?_
                  refine reg [⟨fV r_i64 v10, [], [(6, none)], []⟩,
                      ⟨fV r_i64 v10, [], [(87, some 0)], []⟩] [2] [] hAt
                      ⟨ok_move rfl opd0,
                      ok_assign rfl opd0, trivial⟩ (by kernel_rfl) ?_
                  clear hAt; intro a w hAt; replace hAt : At B h0 (mkG [(2, fV r_i64 v10)]) (mkO []) F 126 a w := hAt; refine then_n ?_; refine wp_ret ?_; refine blk_r ?_; refine then_r ?_
                  cases H
                  exact ⟨ret_ne, rfl, hAt.pick [2] []⟩
                · intro hb11; have H := iteF hb11 H; refine wp_skip ?_; refine blk_n ?_; refine then_n ?_
                  refine reg [⟨fV r_i64 s4, [], [(3, none)], []⟩,
                      ⟨fV r_i64 (IntKind.i64.wrap (s4 + 1)), [], [(31, some 0)], []⟩,
                      ⟨fV r_i64 (IntKind.i64.wrap (s4 + 1)), [], [(32, some 1)], []⟩] [1, 3] [] hAt
                      ⟨ok_move rfl opd0,
                      ok_add rfl opd0 opdI,
                      ok_assign rfl opd0, trivial⟩ (by kernel_rfl) ?_
                  clear hAt; intro a w hAt; replace hAt : At B h0 (mkG [(1, fRef GShip.rep x0), (3, fV r_i64 (IntKind.i64.wrap (s4 + 1)))]) (mkO []) F 126 a w := hAt
                  cases H
                  exact ⟨rfl, hAt.pick [1, 3] []⟩
        · intro hb15; have H := iteF hb15 H; refine wp_exit ?_; refine then_x ?_
          cases H
          exact ⟨ex_ne, rfl, hAt.pick [1] []⟩
      · exact hAt.pick [1, 3] []
      · clear hAt; intro e a w hp
        cases o16 with
        | inl l18 =>
          rw [Sum.elim_inl] at H; obtain ⟨rfl, hAt⟩ := hp; refine blk_eq ?_; refine then_n ?_; refine wp_seq ?_; refine wp_seq ?_; obtain ⟨v20, hv20, H⟩ := bindE H
          refine reg [⟨fRef GLoad.rep x0.Light, [], [(1, none)], []⟩,
              ⟨fV GLoad.rep x0.Light, [], [(88, some 0)], []⟩,
              ⟨fV r_i64 v20, [], [(89, some 1)], []⟩,
              ⟨fV r_i64 v20, [], [(90, some 2)], []⟩] [1, 7] [] hAt
              ⟨ok_field GShip.l3 fo27_3 rfl opd0,
              ok_load ty24 rfl opd0,
              ok_call (ok_f_ref02_LoadErr N x0.Light ([] : (List GLoad)) 1 _ hv20) Try.func60 (by kernel_rfl) (by kernel_rfl) rfl ⟨opd0, ⟨opdN, ⟨opdI, trivial⟩⟩⟩,
              ok_assign rfl opd0, trivial⟩ (by kernel_rfl) ?_
          clear hAt; intro a w hAt; replace hAt : At B h0 (mkG [(1, fRef GShip.rep x0), (7, fV r_i64 v20)]) (mkO []) F 126 a w := hAt; refine then_n ?_; refine wp_seq ?_
          refine reg [⟨fV r_i64 v20, [], [(7, none)], []⟩,
              ⟨fV Rep.bool (cmpI .neq v20 0), [], [(91, some 0)], []⟩] [1, 7, 92] [] hAt
              ⟨ok_move rfl opd0,
              ok_cmp (op := .neq) (by simp) rfl rfl opd0 opdI, trivial⟩ (by kernel_rfl) ?_
          clear hAt; intro a w hAt; replace hAt : At B h0 (mkG [(1, fRef GShip.rep x0), (7, fV r_i64 v20), (92, fV Rep.bool (cmpI .neq v20 0))]) (mkO []) F 126 a w := hAt; refine then_n ?_; refine wp_if hAt (by rfl) ?_ ?_
          · intro hb34; have H := iteT hb34 H; refine wp_seq ?_
            refine reg [⟨fV r_i64 v20, [], [(7, none)], []⟩,
                ⟨fV r_i64 v20, [], [(93, some 0)], []⟩] [2] [] hAt
                ⟨ok_move rfl opd0,
                ok_assign rfl opd0, trivial⟩ (by kernel_rfl) ?_
            clear hAt; intro a w hAt; replace hAt : At B h0 (mkG [(2, fV r_i64 v20)]) (mkO []) F 126 a w := hAt; refine then_n ?_; refine wp_ret ?_; refine then_r ?_
            cases H
            exact ret1 rfl (rv_tmp rfl rfl) hAt
          · intro hb34; have H := iteF hb34 H; refine wp_skip ?_; refine then_n ?_; refine wp_seq ?_; refine wp_seq ?_
            refine reg [⟨fRef (Rep.slice GLoad.rep) x0.Items, [], [(1, none)], []⟩,
                ⟨fV (Rep.slice GLoad.rep) x0.Items, [], [(94, some 0)], []⟩,
                ⟨fV r_i64 (List.length x0.Items : Int), [], [(95, some 1)], []⟩,
                ⟨fV Rep.bool (cmpI .gtr (List.length x0.Items : Int) 60), [], [(96, some 2)], []⟩] [1, 97] [] hAt
                ⟨ok_field GShip.l4 fo27_4 rfl opd0,
                ok_load ty25 rfl opd0,
                ok_len un25 rfl opd0,
                ok_cmp (op := .gtr) (by simp) rfl rfl opd0 opdI, trivial⟩ (by kernel_rfl) ?_
            clear hAt; intro a w hAt; replace hAt : At B h0 (mkG [(1, fRef GShip.rep x0), (97, fV Rep.bool (cmpI .gtr (List.length x0.Items : Int) 60))]) (mkO []) F 126 a w := hAt; refine then_n ?_; refine wp_if hAt (by rfl) ?_ ?_
            · intro hb33; have H := iteT hb33 H; refine wp_seq ?_
              refine reg [⟨fV r_i64 8, [], [], []⟩] [2] [] hAt
                  ⟨ok_assign rfl opdI, trivial⟩ (by kernel_rfl) ?_
              clear hAt; intro a w hAt; replace hAt : At B h0 (mkG [(2, fV r_i64 8)]) (mkO []) F 126 a w := hAt; refine then_n ?_; refine wp_ret ?_; refine then_r ?_
              cases H
              exact ret1 rfl (rv_tmp rfl rfl) hAt
            · intro hb33; have H := iteF hb33 H; refine wp_skip ?_; refine then_n ?_; refine wp_seq ?_
              refine reg [⟨fRef GLoad.rep x0.Light, [], [(1, none)], []⟩,
                  ⟨fV GLoad.rep x0.Light, [], [(98, some 0)], []⟩,
                  ⟨fV (Rep.slice GLoad.rep) [x0.Light], [(100, some (tipE 24 GLoad.rep.sz))], [(99, some 1)], []⟩,
                  ⟨fV (Rep.slice GLoad.rep) [x0.Light], [(100, none), (8, some (tipE 24 GLoad.rep.sz))], [(100, some 2)], [(100, some 2)]⟩] [1, 8] [8] hAt
                  ⟨ok_field GShip.l3 fo27_3 rfl opd0,
                  ok_load ty24 rfl opd0,
                  ok_buildTip ty24 un25 rfl rfl rfl (fillC (Lens.arr _ _ 0 (by decide)) rfl opd0 fillN),
                  ok_moveOwn rfl rfl (.inr rfl) opd0, trivial⟩ (by kernel_rfl) ?_
              clear hAt; intro a w hAt; replace hAt : At B h0 (mkG [(1, fRef GShip.rep x0), (8, fV (Rep.slice GLoad.rep) [x0.Light])]) (mkO [(8, tipE 24 GLoad.rep.sz)]) F 126 a w := hAt; refine then_n ?_; refine wp_seq ?_; refine wp_seq ?_
              refine reg [⟨fV r_i64 0, [], [], []⟩] [1, 8, 9] [8] hAt
                  ⟨ok_assign rfl opdI, trivial⟩ (by kernel_rfl) ?_
              clear hAt; intro a w hAt; replace hAt : At B h0 (mkG [(1, fRef GShip.rep x0), (8, fV (Rep.slice GLoad.rep) [x0.Light]), (9, fV r_i64 0)]) (mkO [(8, tipE 24 GLoad.rep.sz)]) F 126 a w := hAt; refine then_n ?_; refine wp_block ?_; obtain ⟨o28, hl29, H⟩ := bindE H
              refine wp_mono (wp_loopN (f := f_ref02_Check_L1 N x0) (fun (s21 : ((List GLoad) × Int)) a w => At B h0 (mkG [(1, fRef GShip.rep x0), (8, fV (Rep.slice GLoad.rep) s21.1), (9, fV r_i64 s21.2)]) (mkO [(8, tipE 24 GLoad.rep.sz)]) F 126 a w) (fun o e a w => (Sum.elim (fun v => e = .exit 2 ∧ At B h0 (mkG []) (mkO []) F 126 a w) (fun v => e = .ret ∧ At B h0 (mkG [(2, fV r_i64 v)]) (mkO []) F 126 a w)) o) ?_ N ([x0.Light], 0) o28 _ _ hl29 ?_) ?_
              · clear H hAt hl29; intro s21 r32 a w H hAt; unfold f_ref02_Check_L1 at H; refine wp_seq ?_; refine wp_seq ?_
                refine reg [⟨fV r_i64 s21.2, [], [(9, none)], []⟩,
                    ⟨fRef (Rep.slice GLoad.rep) x0.Items, [], [(1, none)], []⟩,
                    ⟨fV (Rep.slice GLoad.rep) x0.Items, [], [(102, some 1)], []⟩,
                    ⟨fV r_i64 (List.length x0.Items : Int), [], [(103, some 2)], []⟩,
                    ⟨fV Rep.bool (cmpI .lss s21.2 (List.length x0.Items : Int)), [], [(101, some 0), (104, some 3)], []⟩] [1, 8, 9, 105] [8] hAt
                    ⟨ok_move rfl opd0,
                    ok_field GShip.l4 fo27_4 rfl opd0,
                    ok_load ty25 rfl opd0,
                    ok_len un25 rfl opd0,
                    ok_cmp (op := .lss) (by simp) rfl rfl opd0 opd1, trivial⟩ (by kernel_rfl) ?_
                clear hAt; intro a w hAt; replace hAt : At B h0 (mkG [(1, fRef GShip.rep x0), (8, fV (Rep.slice GLoad.rep) s21.1), (9, fV r_i64 s21.2), (105, fV Rep.bool (cmpI .lss s21.2 (List.length x0.Items : Int)))]) (mkO [(8, tipE 24 GLoad.rep.sz)]) F 126 a w := hAt; refine then_n ?_; refine wp_if hAt (by rfl) ?_ ?_
                · intro hb27; have H := iteT hb27 H; refine wp_skip ?_; refine then_n ?_; refine wp_seq ?_; refine wp_block ?_; refine wp_seq ?_; refine wp_seq ?_; obtain ⟨v22, hv22, H⟩ := bindE H; obtain ⟨v23, hv23, H⟩ := bindE H
                  refine reg [⟨fRef (Rep.slice GLoad.rep) x0.Items, [], [(1, none)], []⟩,
                      ⟨fV (Rep.slice GLoad.rep) x0.Items, [], [(108, some 0)], []⟩,
                      ⟨fV r_i64 s21.2, [], [(9, none)], []⟩,
                      ⟨fRef GLoad.rep v22, [], [(109, some 1), (110, some 2)], []⟩,
                      ⟨fV GLoad.rep v22, [], [(111, some 3)], []⟩,
                      ⟨fV (Rep.slice GLoad.rep) s21.1, [], [(8, none)], []⟩,
                      ⟨fV r_i64 v23, [], [(112, some 4), (113, some 5)], []⟩,
                      ⟨fV r_i64 v23, [], [(114, some 6)], []⟩] [1, 8, 9, 10] [8] hAt
                      ⟨ok_field GShip.l4 fo27_4 rfl opd0,
                      ok_load ty25 rfl opd0,
                      ok_move rfl opd0,
                      ok_index ty24 un25 hv22 rfl opd0 opd1,
                      ok_load ty24 rfl opd0,
                      ok_move rfl opd0,
                      ok_call (ok_f_ref02_LoadErr N v22 s21.1 0 _ hv23) Try.func60 (by kernel_rfl) (by kernel_rfl) rfl ⟨opd0, ⟨opd1, ⟨opdI, trivial⟩⟩⟩,
                      ok_assign rfl opd0, trivial⟩ (by kernel_rfl) ?_
                  clear hAt; intro a w hAt; replace hAt : At B h0 (mkG [(1, fRef GShip.rep x0), (8, fV (Rep.slice GLoad.rep) s21.1), (9, fV r_i64 s21.2), (10, fV r_i64 v23)]) (mkO [(8, tipE 24 GLoad.rep.sz)]) F 126 a w := hAt; refine then_n ?_; refine wp_seq ?_
                  refine reg [⟨fV r_i64 v23, [], [(10, none)], []⟩,
                      ⟨fV Rep.bool (cmpI .neq v23 0), [], [(115, some 0)], []⟩] [1, 8, 9, 10, 116] [8] hAt
                      ⟨ok_move rfl opd0,
                      ok_cmp (op := .neq) (by simp) rfl rfl opd0 opdI, trivial⟩ (by kernel_rfl) ?_
                  clear hAt; intro a w hAt; replace hAt : At B h0 (mkG [(1, fRef GShip.rep x0), (8, fV (Rep.slice GLoad.rep) s21.1), (9, fV r_i64 s21.2), (10, fV r_i64 v23), (116, fV Rep.bool (cmpI .neq v23 0))]) (mkO [(8, tipE 24 GLoad.rep.sz)]) F 126 a w := hAt; refine then_n ?_; refine wp_if hAt (by rfl) ?_ ?_
                  · intro hb26; have H := iteT hb26 H; refine wp_seq ?_
                    refine reg [⟨fV r_i64 v23, [], [(10, none)], []⟩,
                        ⟨fV r_i64 v23, [], [(117, some 0)], []⟩] [2] [] hAt
                        ⟨ok_move rfl opd0,
                        ok_assign rfl opd0, trivial⟩ (by kernel_rfl) ?_
                    clear hAt; intro a w hAt; replace hAt : At B h0 (mkG [(2, fV r_i64 v23)]) (mkO []) F 126 a w := hAt; refine then_n ?_; refine wp_ret ?_; refine then_r ?_; refine blk_r ?_; refine then_r ?_
                    cases H
                    exact ⟨ret_ne, rfl, hAt.pick [2] []⟩
                  · intro hb26; have H := iteF hb26 H; refine wp_skip ?_; refine then_n ?_; obtain ⟨v24, hv24, H⟩ := bindE H; obtain ⟨v25, hv25, H⟩ := bindE H
                    refine reg [⟨fV (Rep.slice GLoad.rep) s21.1, [(8, none), (118, some (tipE 24 GLoad.rep.sz))], [(8, none)], [(8, none)]⟩,
                        ⟨fRef (Rep.slice GLoad.rep) x0.Items, [], [(1, none)], []⟩,
                        ⟨fV (Rep.slice GLoad.rep) x0.Items, [], [(119, some 1)], []⟩,
                        ⟨fV r_i64 s21.2, [], [(9, none)], []⟩,
                        ⟨fRef GLoad.rep v24, [], [(120, some 2), (121, some 3)], []⟩,
                        ⟨fV GLoad.rep v24, [], [(122, some 4)], []⟩,
                        ⟨fV (Rep.slice GLoad.rep) [v24], [], [(123, some 5)], []⟩,
                        ⟨fV (Rep.slice GLoad.rep) v25, [(118, none), (125, some (tipE 24 GLoad.rep.sz))], [(118, some 0), (124, some 6)], [(118, some 0)]⟩,
                        ⟨fV (Rep.slice GLoad.rep) v25, [(125, none), (8, some (tipE 24 GLoad.rep.sz))], [(125, some 7)], [(125, some 7)]⟩] [1, 8, 9] [8] hAt
                        ⟨ok_moveOwn rfl rfl (.inl rfl) opd0,
                        ok_field GShip.l4 fo27_4 rfl opd0,
                        ok_load ty25 rfl opd0,
                        ok_move rfl opd0,
                        ok_index ty24 un25 hv24 rfl opd0 opd1,
                        ok_load ty24 rfl opd0,
                        ok_buildSlice ty24 un25 rfl rfl (fillC (Lens.arr _ _ 0 (by decide)) rfl opd0 fillN),
                        ok_append hv25 el24 un25 rfl rfl rfl opd0 opd1,
                        ok_moveOwn rfl rfl (.inr rfl) opd0, trivial⟩ (by kernel_rfl) ?_
                    clear hAt; intro a w hAt; replace hAt : At B h0 (mkG [(1, fRef GShip.rep x0), (8, fV (Rep.slice GLoad.rep) v25), (9, fV r_i64 s21.2)]) (mkO [(8, tipE 24 GLoad.rep.sz)]) F 126 a w := hAt; refine blk_n ?_; refine then_n ?_
                    refine reg [⟨fV r_i64 s21.2, [], [(9, none)], []⟩,
                        ⟨fV r_i64 (IntKind.i64.wrap (s21.2 + 1)), [], [(106, some 0)], []⟩,
                        ⟨fV r_i64 (IntKind.i64.wrap (s21.2 + 1)), [], [(107, some 1)], []⟩] [1, 8, 9] [8] hAt
                        ⟨ok_move rfl opd0,
                        ok_add rfl opd0 opdI,
                        ok_assign rfl opd0, trivial⟩ (by kernel_rfl) ?_
                    clear hAt; intro a w hAt; replace hAt : At B h0 (mkG [(1, fRef GShip.rep x0), (8, fV (Rep.slice GLoad.rep) v25), (9, fV r_i64 (IntKind.i64.wrap (s21.2 + 1)))]) (mkO [(8, tipE 24 GLoad.rep.sz)]) F 126 a w := hAt
                    cases H
                    exact ⟨rfl, hAt.pick [1, 8, 9] [8]⟩
                · intro hb27; have H := iteF hb27 H; refine wp_exit ?_; refine then_x ?_
                  cases H
                  exact ⟨ex_ne, rfl, hAt.pick [] []⟩
              · exact hAt.pick [1, 8, 9] [8]
              · clear hAt; intro e a w hp
                cases o28 with
                | inl l30 =>
                  rw [Sum.elim_inl] at H; obtain ⟨rfl, hAt⟩ := hp; refine blk_eq ?_; refine then_n ?_; refine wp_seq ?_
                  refine reg [⟨fV r_i64 0, [], [], []⟩] [2] [] hAt
                      ⟨ok_assign rfl opdI, trivial⟩ (by kernel_rfl) ?_
                  clear hAt; intro a w hAt; replace hAt : At B h0 (mkG [(2, fV r_i64 0)]) (mkO []) F 126 a w := hAt; refine then_n ?_; refine wp_ret ?_
                  cases H
                  exact ret1 rfl (rv_tmp rfl rfl) hAt
                | inr r31 =>
                  rw [Sum.elim_inr] at H; replace hp := hp; obtain ⟨rfl, hAt⟩ := hp; refine blk_r ?_; refine then_r ?_
                  cases H
                  exact ret1 rfl (rv_tmp rfl rfl) hAt
        | inr r19 =>
          rw [Sum.elim_inr] at H; replace hp := hp; obtain ⟨rfl, hAt⟩ := hp; refine blk_r ?_; refine then_r ?_
          cases H
          exact ret1 rfl (rv_tmp rfl rfl) hAt
theorem ok_f_law02_HullChecks (N : Nat) (x0 : GShip) (r : Bool) (H : f_law02_HullChecks N x0 = some r) : FnOk Try.prog 4 [fV GShip.rep x0] (fV Rep.bool r) := by
  unfold f_law02_HullChecks at H; refine fn_enter Try.func4 rfl rfl (by kernel_rfl) ?_; intro κ B h0 F a w hAt; refine wp_seq ?_
  refine reg [⟨fRef GShip.rep x0, [], [(0, none)], []⟩,
      ⟨fV Rep.bool false, [], [], []⟩] [1] [] hAt
      ⟨ok_box rfl opd0,
      ok_assign rfl opdB, trivial⟩ (by kernel_rfl) ?_
  clear hAt; intro a w hAt; replace hAt : At B h0 (mkG [(1, fRef GShip.rep x0)]) (mkO []) F 16 a w := hAt; refine then_n ?_; refine wp_seq ?_; refine wp_seq ?_; obtain ⟨v1, hv1, H⟩ := bindE H
  refine reg [⟨fV Rep.bool v1, [], [], []⟩,
      ⟨fV Rep.bool (!v1), [], [(3, some 0)], []⟩] [1, 4] [] hAt
      ⟨ok_call (ok_f_law02_awake N _ hv1) Try.func18 (by kernel_rfl) (by kernel_rfl) rfl trivial,
      ok_not rfl opd0, trivial⟩ (by kernel_rfl) ?_
  clear hAt; intro a w hAt; replace hAt : At B h0 (mkG [(1, fRef GShip.rep x0), (4, fV Rep.bool (!v1))]) (mkO []) F 16 a w := hAt; refine then_n ?_; refine wp_if hAt (by rfl) ?_ ?_
  · intro hb6; have H := iteT hb6 H; refine wp_seq ?_
    refine reg [⟨fV Rep.bool false, [], [], []⟩] [2] [] hAt
        ⟨ok_assign rfl opdB, trivial⟩ (by kernel_rfl) ?_
    clear hAt; intro a w hAt; replace hAt : At B h0 (mkG [(2, fV Rep.bool false)]) (mkO []) F 16 a w := hAt; refine then_n ?_; refine wp_ret ?_; refine then_r ?_
    cases H
    exact ret1 rfl (rv_tmp rfl rfl) hAt
  · intro hb6; have H := iteF hb6 H; refine wp_skip ?_; refine then_n ?_; refine wp_seq ?_; obtain ⟨v2, hv2, H⟩ := bindE H; obtain ⟨v3, hv3, H⟩ := bindE H; obtain ⟨v4, hv4, H⟩ := bindE H; obtain ⟨v5, hv5, H⟩ := bindE H
    refine regd [⟨fV GShip.rep x0, [], [(1, none)], []⟩,
        ⟨fV Rep.bool v2, [], [(5, some 0)], []⟩,
        ⟨fV Rep.bool (!v2), [], [(6, some 1)], []⟩,
        ⟨fV Rep.bool (!v2), [], [(7, some 2)], []⟩,
        ⟨Fact.when ((!(!v2)) = true) (fV GShip.rep x0), [], [(8, some 3), (1, none)], []⟩,
        ⟨Fact.when ((!(!v2)) = true) (fV GShip.rep v3), [], [(8, some 3), (9, some 4)], []⟩,
        ⟨Fact.when ((!(!v2)) = true) (fV r_i64 v4), [], [(8, some 3), (10, some 5)], []⟩,
        ⟨Fact.when ((!(!v2)) = true) (fV GShip.rep x0), [], [(8, some 3), (1, none)], []⟩,
        ⟨Fact.when ((!(!v2)) = true) (fV r_i64 v5), [], [(8, some 3), (12, some 7)], []⟩,
        ⟨Fact.when ((!(!v2)) = true) (fV Rep.bool (cmpI .eql v4 v5)), [], [(8, some 3), (11, some 6), (13, some 8)], []⟩,
        ⟨fV Rep.bool ((!v2) || (cmpI .eql v4 v5)), [], [(8, some 3), (14, some 9)], []⟩,
        ⟨fV Rep.bool ((!v2) || (cmpI .eql v4 v5)), [], [(15, some 10)], []⟩] [0, 1, 2, 3, 4, 5, 6, 7, 8, 9, 10, 11] [0, 1, 2, 3, 4, 5, 6, 7, 8, 9, 10, 11] [2] [] hAt
        ⟨ok_load ty27 rfl opd0,
        ok_call (ok_f_law02_Small N x0 _ hv2) Try.func9 (by kernel_rfl) (by kernel_rfl) rfl ⟨opd0, trivial⟩,
        ok_not rfl opd0,
        ok_move rfl opd0,
        obl_tf rfl rfl rfl rfl rfl rfl rfl (fun hg => ok_load ty27 rfl opd1),
        obl_tf rfl rfl rfl rfl rfl rfl rfl (fun hg => ok_call (ok_f_law02_copied N x0 _ (iteT hg hv3)) Try.func19 (by kernel_rfl) (by kernel_rfl) rfl ⟨(opd1.on hg), trivial⟩),
        obl_tf rfl rfl rfl rfl rfl rfl rfl (fun hg => ok_call (ok_f_hull_Check N v3 _ (iteT hg hv4)) Try.func11 (by kernel_rfl) (by kernel_rfl) rfl ⟨(opd1.on hg), trivial⟩),
        obl_tf rfl rfl rfl rfl rfl rfl rfl (fun hg => ok_load ty27 rfl opd1),
        obl_tf rfl rfl rfl rfl rfl rfl rfl (fun hg => ok_call (ok_f_ref02_Check N x0 _ (iteT hg hv5)) Try.func20 (by kernel_rfl) (by kernel_rfl) rfl ⟨(opd1.on hg), trivial⟩),
        obl_tf rfl rfl rfl rfl rfl rfl rfl (fun hg => ok_cmp (op := .eql) (by simp) rfl rfl (opd1.on hg) (opd2.on hg)),
        ok_or rfl opd0 (fun e => (opd1.on (notT e))),
        ok_assign rfl opd0, trivial⟩ (by kernel_rfl) ?_
    clear hAt; intro a w hAt; replace hAt : At B h0 (mkG [(2, fV Rep.bool ((!v2) || (cmpI .eql v4 v5)))]) (mkO []) F 16 a w := hAt; refine then_n ?_; refine wp_ret ?_
    cases H
    exact ret1 rfl (rv_tmp rfl rfl) hAt
end Go.KB
