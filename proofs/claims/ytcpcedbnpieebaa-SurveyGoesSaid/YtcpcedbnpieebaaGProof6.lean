/- The Go functions compute what the plain functions compute. Printed by a program. No condition. -/
import Derived.Test.YtcpcedbnpieebaaGProof5
namespace Go.KB
open Go.Proofs
set_option maxRecDepth 100000
set_option linter.unusedVariables false
theorem ok_f_survey_Next (N : Nat) (x0 : (List GCoat)) (x1 : (List GPainting)) (r : Int × Int × Int) (H : f_survey_Next N x0 x1 = some r) : FnOk Try.prog 54 [fV (Rep.slice GCoat.rep) x0, fV (Rep.slice GPainting.rep) x1] (fT3 (fV r_i64 (r.1)) (fV r_i64 (r.2.1)) (fV r_i64 (r.2.2))) := by
  unfold f_survey_Next at H
  refine fn_enter Try.func54 rfl rfl (by kernel_rfl) ?_
  intro κ B h0 F a w hAt
  refine wp_seq ?_
  refine reg [⟨fV r_i64 0, [], [], []⟩,
      ⟨fV r_i64 0, [], [], []⟩,
      ⟨fV r_i64 0, [], [], []⟩] [0, 1] [] hAt
      ⟨ok_assign rfl opdI,
      ok_assign rfl opdI,
      ok_assign rfl opdI, trivial⟩ (by kernel_rfl) ?_
  clear hAt
  intro a w hAt
  replace hAt : At B h0 (mkG [(0, fV (Rep.slice GCoat.rep) x0), (1, fV (Rep.slice GPainting.rep) x1)]) (mkO []) F 54 a w := hAt
  refine then_n ?_
  refine wp_seq ?_
  obtain ⟨v1, hv1, H⟩ := bindE H
  refine reg [⟨fV (Rep.slice GCoat.rep) x0, [], [(0, none)], []⟩,
      ⟨fV (Rep.slice GPainting.rep) x1, [], [(1, none)], []⟩,
      ⟨fT2 (fV r_i64 v1.1) (fV r_i64 v1.2), [], [(9, some 0), (10, some 1)], []⟩,
      ⟨fT2 (fV r_i64 v1.1) (fV r_i64 v1.2), [], [(11, some 2)], []⟩,
      ⟨fV r_i64 v1.1, [], [(8, some 3)], []⟩,
      ⟨fV r_i64 v1.2, [], [(8, some 3)], []⟩,
      ⟨fV r_i64 v1.1, [], [(12, some 4)], []⟩,
      ⟨fV r_i64 v1.2, [], [(13, some 5)], []⟩] [0, 1, 6, 7] [] hAt
      ⟨ok_move rfl opd0,
      ok_move rfl opd0,
      ok_call (ok_f_survey_Paint N x0 x1 _ hv1) Try.func55 (by kernel_rfl) (by kernel_rfl) rfl ⟨opd0, ⟨opd1, trivial⟩⟩,
      ok_move rfl opd0,
      ok_ext20 rfl rfl opd0,
      ok_ext21 rfl rfl opd0,
      ok_assign rfl opd0,
      ok_assign rfl opd0, trivial⟩ (by kernel_rfl) ?_
  clear hAt
  intro a w hAt
  replace hAt : At B h0 (mkG [(0, fV (Rep.slice GCoat.rep) x0), (1, fV (Rep.slice GPainting.rep) x1), (6, fV r_i64 v1.2), (7, fV r_i64 v1.1)]) (mkO []) F 54 a w := hAt
  refine then_n ?_
  refine wp_seq ?_
  refine wp_block ?_
  refine wp_seq ?_
  refine reg [⟨fV r_i64 v1.2, [], [(6, none)], []⟩,
      ⟨fV Rep.bool (cmpI .neq v1.2 0), [], [(15, some 0)], []⟩,
      ⟨fV Rep.bool (cmpI .neq v1.2 0), [], [(16, some 1)], []⟩] [0, 1, 6, 7, 14] [] hAt
      ⟨ok_move rfl opd0,
      ok_cmp (op := .neq) (by simp) rfl rfl opd0 opdI,
      ok_assign rfl opd0, trivial⟩ (by kernel_rfl) ?_
  clear hAt
  intro a w hAt
  replace hAt : At B h0 (mkG [(0, fV (Rep.slice GCoat.rep) x0), (1, fV (Rep.slice GPainting.rep) x1), (6, fV r_i64 v1.2), (7, fV r_i64 v1.1), (14, fV Rep.bool (cmpI .neq v1.2 0))]) (mkO []) F 54 a w := hAt
  refine then_n ?_
  refine wp_if hAt (by rfl) ?_ ?_
  · intro hb9
    have H := iteT hb9 H
    refine wp_seq ?_
    refine reg [⟨fV r_i64 v1.2, [], [(6, none)], []⟩,
        ⟨fV r_i64 0, [], [], []⟩,
        ⟨fV r_i64 0, [], [], []⟩,
        ⟨fV r_i64 v1.2, [], [(17, some 0)], []⟩] [4, 5, 6] [] hAt
        ⟨ok_move rfl opd0,
        ok_assign rfl opdI,
        ok_assign rfl opdI,
        ok_assign rfl opd0, trivial⟩ (by kernel_rfl) ?_
    clear hAt
    intro a w hAt
    replace hAt : At B h0 (mkG [(4, fV r_i64 0), (5, fV r_i64 0), (6, fV r_i64 v1.2)]) (mkO []) F 54 a w := hAt
    refine then_n ?_
    refine wp_ret ?_
    refine blk_r ?_
    refine then_r ?_
    cases H
    exact ret3 rfl (rv_tmp rfl rfl) (rv_tmp rfl rfl) (rv_tmp rfl rfl) hAt
  · intro hb9
    have H := iteF hb9 H
    refine wp_seq ?_
    refine reg [⟨fV r_i64 v1.1, [], [(7, none)], []⟩,
        ⟨fV (Rep.slice GCoat.rep) x0, [], [(0, none)], []⟩,
        ⟨fV r_i64 (List.length x0 : Int), [], [(20, some 1)], []⟩,
        ⟨fV Rep.bool (cmpI .eql v1.1 (List.length x0 : Int)), [], [(19, some 0), (21, some 2)], []⟩,
        ⟨fV Rep.bool (cmpI .eql v1.1 (List.length x0 : Int)), [], [(22, some 3)], []⟩] [0, 1, 7, 18] [] hAt
        ⟨ok_move rfl opd0,
        ok_move rfl opd0,
        ok_len un93 rfl opd0,
        ok_cmp (op := .eql) (by simp) rfl rfl opd0 opd1,
        ok_assign rfl opd0, trivial⟩ (by kernel_rfl) ?_
    clear hAt
    intro a w hAt
    replace hAt : At B h0 (mkG [(0, fV (Rep.slice GCoat.rep) x0), (1, fV (Rep.slice GPainting.rep) x1), (7, fV r_i64 v1.1), (18, fV Rep.bool (cmpI .eql v1.1 (List.length x0 : Int)))]) (mkO []) F 54 a w := hAt
    refine then_n ?_
    refine wp_if hAt (by rfl) ?_ ?_
    · intro hb8
      have H := iteT hb8 H
      refine wp_seq ?_
      refine reg [⟨fV r_i64 0, [], [], []⟩,
          ⟨fV r_i64 0, [], [], []⟩,
          ⟨fV r_i64 18, [], [], []⟩] [4, 5, 6] [] hAt
          ⟨ok_assign rfl opdI,
          ok_assign rfl opdI,
          ok_assign rfl opdI, trivial⟩ (by kernel_rfl) ?_
      clear hAt
      intro a w hAt
      replace hAt : At B h0 (mkG [(4, fV r_i64 0), (5, fV r_i64 0), (6, fV r_i64 18)]) (mkO []) F 54 a w := hAt
      refine then_n ?_
      refine wp_ret ?_
      refine blk_r ?_
      refine then_r ?_
      cases H
      exact ret3 rfl (rv_tmp rfl rfl) (rv_tmp rfl rfl) (rv_tmp rfl rfl) hAt
    · intro hb8
      have H := iteF hb8 H
      refine wp_seq ?_
      refine reg [⟨fV r_i64 v1.1, [], [(7, none)], []⟩,
          ⟨fV Rep.bool (cmpI .eql v1.1 0), [], [(24, some 0)], []⟩,
          ⟨fV Rep.bool (cmpI .eql v1.1 0), [], [(25, some 1)], []⟩] [0, 1, 7, 23] [] hAt
          ⟨ok_move rfl opd0,
          ok_cmp (op := .eql) (by simp) rfl rfl opd0 opdI,
          ok_assign rfl opd0, trivial⟩ (by kernel_rfl) ?_
      clear hAt
      intro a w hAt
      replace hAt : At B h0 (mkG [(0, fV (Rep.slice GCoat.rep) x0), (1, fV (Rep.slice GPainting.rep) x1), (7, fV r_i64 v1.1), (23, fV Rep.bool (cmpI .eql v1.1 0))]) (mkO []) F 54 a w := hAt
      refine then_n ?_
      refine wp_if hAt (by rfl) ?_ ?_
      · intro hb7
        have H := iteT hb7 H
        refine wp_seq ?_
        refine reg [⟨fV r_i64 0, [], [], []⟩,
            ⟨fV r_i64 1000000, [], [], []⟩,
            ⟨fV r_i64 0, [], [], []⟩] [4, 5, 6] [] hAt
            ⟨ok_assign rfl opdI,
            ok_assign rfl opdI,
            ok_assign rfl opdI, trivial⟩ (by kernel_rfl) ?_
        clear hAt
        intro a w hAt
        replace hAt : At B h0 (mkG [(4, fV r_i64 0), (5, fV r_i64 1000000), (6, fV r_i64 0)]) (mkO []) F 54 a w := hAt
        refine then_n ?_
        refine wp_ret ?_
        refine blk_r ?_
        refine then_r ?_
        cases H
        exact ret3 rfl (rv_tmp rfl rfl) (rv_tmp rfl rfl) (rv_tmp rfl rfl) hAt
      · intro hb7
        have H := iteF hb7 H
        refine wp_skip ?_
        refine blk_n ?_
        refine then_n ?_
        refine wp_seq ?_
        obtain ⟨v2, hv2, H⟩ := bindE H
        obtain ⟨v3, hv3, H⟩ := bindE H
        refine regd [⟨fV (Rep.slice GPainting.rep) x1, [], [(1, none)], []⟩,
            ⟨fV r_i64 v1.1, [], [(7, none)], []⟩,
            ⟨fV r_i64 (IntKind.i64.wrap (v1.1 - 1)), [], [(27, some 1)], []⟩,
            ⟨fRef GPainting.rep v2, [], [(26, some 0), (28, some 2)], []⟩,
            ⟨fRef r_i64 v2.Start, [], [(29, some 3)], []⟩,
            ⟨fV r_i64 v2.Start, [], [(30, some 4)], []⟩,
            ⟨fV (Rep.slice GCoat.rep) x0, [], [(0, none)], []⟩,
            ⟨fV r_i64 v1.1, [], [(7, none)], []⟩,
            ⟨fRef GCoat.rep v3, [], [(32, some 6), (33, some 7)], []⟩,
            ⟨fRef r_i64 v3.Soonest, [], [(34, some 8)], []⟩,
            ⟨fV r_i64 v3.Soonest, [], [(35, some 9)], []⟩,
            ⟨fV r_i64 (IntKind.i64.wrap (v2.Start + v3.Soonest)), [], [(31, some 5), (36, some 10)], []⟩,
            ⟨fV r_i64 (IntKind.i64.wrap (v2.Start + v3.Soonest)), [], [(37, some 11)], []⟩] [0, 1, 2, 3, 4, 5, 6, 7, 8, 9, 10, 11, 12] [0, 1, 2, 3, 4, 5, 6, 7, 8, 9, 10, 11, 12] [0, 1, 4, 7] [] hAt
            ⟨ok_move rfl opd0,
            ok_move rfl opd0,
            ok_sub rfl opd0 opdI,
            ok_index ty107 un102 hv2 rfl opd0 opd1,
            ok_field GPainting.l1 fo107_1 rfl opd0,
            ok_load ty3 rfl opd0,
            ok_move rfl opd0,
            ok_move rfl opd0,
            ok_index ty95 un93 hv3 rfl opd0 opd1,
            ok_field GCoat.l3 fo95_3 rfl opd0,
            ok_load ty3 rfl opd0,
            ok_add rfl opd0 opd1,
            ok_assign rfl opd0, trivial⟩ (by kernel_rfl) ?_
        clear hAt
        intro a w hAt
        replace hAt : At B h0 (mkG [(0, fV (Rep.slice GCoat.rep) x0), (1, fV (Rep.slice GPainting.rep) x1), (4, fV r_i64 (IntKind.i64.wrap (v2.Start + v3.Soonest))), (7, fV r_i64 v1.1)]) (mkO []) F 54 a w := hAt
        refine then_n ?_
        refine wp_seq ?_
        refine wp_seq ?_
        refine reg [⟨fV r_i64 (IntKind.i64.wrap (v2.Start + v3.Soonest)), [], [(4, none)], []⟩,
            ⟨fV Rep.bool (cmpI .gtr (IntKind.i64.wrap (v2.Start + v3.Soonest)) 1000000), [], [(38, some 0)], []⟩] [0, 1, 4, 7, 39] [] hAt
            ⟨ok_move rfl opd0,
            ok_cmp (op := .gtr) (by simp) rfl rfl opd0 opdI, trivial⟩ (by kernel_rfl) ?_
        clear hAt
        intro a w hAt
        replace hAt : At B h0 (mkG [(0, fV (Rep.slice GCoat.rep) x0), (1, fV (Rep.slice GPainting.rep) x1), (4, fV r_i64 (IntKind.i64.wrap (v2.Start + v3.Soonest))), (7, fV r_i64 v1.1), (39, fV Rep.bool (cmpI .gtr (IntKind.i64.wrap (v2.Start + v3.Soonest)) 1000000))]) (mkO []) F 54 a w := hAt
        refine then_n ?_
        refine wp_if hAt (by rfl) ?_ ?_
        · intro hb6
          have H := iteT hb6 H
          refine wp_seq ?_
          refine reg [⟨fV r_i64 0, [], [], []⟩,
              ⟨fV r_i64 0, [], [], []⟩,
              ⟨fV r_i64 18, [], [], []⟩] [4, 5, 6] [] hAt
              ⟨ok_assign rfl opdI,
              ok_assign rfl opdI,
              ok_assign rfl opdI, trivial⟩ (by kernel_rfl) ?_
          clear hAt
          intro a w hAt
          replace hAt : At B h0 (mkG [(4, fV r_i64 0), (5, fV r_i64 0), (6, fV r_i64 18)]) (mkO []) F 54 a w := hAt
          refine then_n ?_
          refine wp_ret ?_
          refine then_r ?_
          cases H
          exact ret3 rfl (rv_tmp rfl rfl) (rv_tmp rfl rfl) (rv_tmp rfl rfl) hAt
        · intro hb6
          have H := iteF hb6 H
          refine wp_skip ?_
          refine then_n ?_
          refine wp_seq ?_
          obtain ⟨v4, hv4, H⟩ := bindE H
          obtain ⟨v5, hv5, H⟩ := bindE H
          refine regd [⟨fV r_i64 (IntKind.i64.wrap (v2.Start + v3.Soonest)), [], [(4, none)], []⟩,
              ⟨fV (Rep.slice GPainting.rep) x1, [], [(1, none)], []⟩,
              ⟨fV r_i64 v1.1, [], [(7, none)], []⟩,
              ⟨fV r_i64 (IntKind.i64.wrap (v1.1 - 1)), [], [(42, some 2)], []⟩,
              ⟨fRef GPainting.rep v4, [], [(41, some 1), (43, some 3)], []⟩,
              ⟨fRef r_i64 v4.Start, [], [(44, some 4)], []⟩,
              ⟨fV r_i64 v4.Start, [], [(45, some 5)], []⟩,
              ⟨fV (Rep.slice GCoat.rep) x0, [], [(0, none)], []⟩,
              ⟨fV r_i64 v1.1, [], [(7, none)], []⟩,
              ⟨fRef GCoat.rep v5, [], [(47, some 7), (48, some 8)], []⟩,
              ⟨fRef r_i64 v5.Latest, [], [(49, some 9)], []⟩,
              ⟨fV r_i64 v5.Latest, [], [(50, some 10)], []⟩,
              ⟨fV r_i64 (IntKind.i64.wrap (v4.Start + v5.Latest)), [], [(46, some 6), (51, some 11)], []⟩,
              ⟨fV r_i64 (min (IntKind.i64.wrap (v4.Start + v5.Latest)) 1000000), [], [(52, some 12)], []⟩,
              ⟨fV r_i64 (IntKind.i64.wrap (v2.Start + v3.Soonest)), [], [(40, some 0)], []⟩,
              ⟨fV r_i64 (min (IntKind.i64.wrap (v4.Start + v5.Latest)) 1000000), [], [(53, some 13)], []⟩,
              ⟨fV r_i64 0, [], [], []⟩] [0, 1, 2, 3, 4, 5, 6, 7, 8, 9, 10, 11, 12, 13, 14, 15, 16] [0, 1, 2, 3, 4, 5, 6, 7, 8, 9, 10, 11, 12, 13, 14, 15, 16] [4, 5, 6] [] hAt
              ⟨ok_move rfl opd0,
              ok_move rfl opd0,
              ok_move rfl opd0,
              ok_sub rfl opd0 opdI,
              ok_index ty107 un102 hv4 rfl opd0 opd1,
              ok_field GPainting.l1 fo107_1 rfl opd0,
              ok_load ty3 rfl opd0,
              ok_move rfl opd0,
              ok_move rfl opd0,
              ok_index ty95 un93 hv5 rfl opd0 opd1,
              ok_field GCoat.l4 fo95_4 rfl opd0,
              ok_load ty3 rfl opd0,
              ok_add rfl opd0 opd1,
              ok_min rfl opd0 opdI,
              ok_assign rfl opd0,
              ok_assign rfl opd0,
              ok_assign rfl opdI, trivial⟩ (by kernel_rfl) ?_
          clear hAt
          intro a w hAt
          replace hAt : At B h0 (mkG [(4, fV r_i64 (IntKind.i64.wrap (v2.Start + v3.Soonest))), (5, fV r_i64 (min (IntKind.i64.wrap (v4.Start + v5.Latest)) 1000000)), (6, fV r_i64 0)]) (mkO []) F 54 a w := hAt
          refine then_n ?_
          refine wp_ret ?_
          cases H
          exact ret3 rfl (rv_tmp rfl rfl) (rv_tmp rfl rfl) (rv_tmp rfl rfl) hAt
theorem ok_f_law09_SurveyGoes (N : Nat) (x0 : (List GCoat)) (x1 : (List GPainting)) (x2 : Int) (r : Bool) (H : f_law09_SurveyGoes N x0 x1 x2 = some r) : FnOk Try.prog 10 [fV (Rep.slice GCoat.rep) x0, fV (Rep.slice GPainting.rep) x1, fV r_u16 x2] (fV Rep.bool r) := by
  unfold f_law09_SurveyGoes at H
  refine fn_enter Try.func10 rfl rfl (by kernel_rfl) ?_
  intro κ B h0 F a w hAt
  refine wp_seq ?_
  refine reg [⟨fV Rep.bool false, [], [], []⟩] [0, 1, 2] [] hAt
      ⟨ok_assign rfl opdB, trivial⟩ (by kernel_rfl) ?_
  clear hAt
  intro a w hAt
  replace hAt : At B h0 (mkG [(0, fV (Rep.slice GCoat.rep) x0), (1, fV (Rep.slice GPainting.rep) x1), (2, fV r_u16 x2)]) (mkO []) F 126 a w := hAt
  refine then_n ?_
  refine wp_seq ?_
  refine wp_seq ?_
  obtain ⟨v1, hv1, H⟩ := bindE H
  refine reg [⟨fV Rep.bool v1, [], [], []⟩,
      ⟨fV Rep.bool (!v1), [], [(18, some 0)], []⟩] [0, 1, 2, 19] [] hAt
      ⟨ok_call (ok_f_law09_awake N _ hv1) Try.func14 (by kernel_rfl) (by kernel_rfl) rfl trivial,
      ok_not rfl opd0, trivial⟩ (by kernel_rfl) ?_
  clear hAt
  intro a w hAt
  replace hAt : At B h0 (mkG [(0, fV (Rep.slice GCoat.rep) x0), (1, fV (Rep.slice GPainting.rep) x1), (2, fV r_u16 x2), (19, fV Rep.bool (!v1))]) (mkO []) F 126 a w := hAt
  refine then_n ?_
  refine wp_if hAt (by rfl) ?_ ?_
  · intro hb21
    have H := iteT hb21 H
    refine wp_seq ?_
    refine reg [⟨fV Rep.bool false, [], [], []⟩] [6] [] hAt
        ⟨ok_assign rfl opdB, trivial⟩ (by kernel_rfl) ?_
    clear hAt
    intro a w hAt
    replace hAt : At B h0 (mkG [(6, fV Rep.bool false)]) (mkO []) F 126 a w := hAt
    refine then_n ?_
    refine wp_ret ?_
    refine then_r ?_
    cases H
    exact ret1 rfl (rv_tmp rfl rfl) hAt
  · intro hb21
    have H := iteF hb21 H
    refine wp_skip ?_
    refine then_n ?_
    refine wp_seq ?_
    refine wp_seq ?_
    obtain ⟨v2, hv2, H⟩ := bindE H
    refine reg [⟨fV (Rep.slice GCoat.rep) x0, [], [(0, none)], []⟩,
        ⟨fV (Rep.slice GPainting.rep) x1, [], [(1, none)], []⟩,
        ⟨fV Rep.bool v2, [], [(20, some 0), (21, some 1)], []⟩,
        ⟨fV Rep.bool (!v2), [], [(22, some 2)], []⟩] [0, 1, 2, 23] [] hAt
        ⟨ok_move rfl opd0,
        ok_move rfl opd0,
        ok_call (ok_f_law09_brief N x0 x1 _ hv2) Try.func49 (by kernel_rfl) (by kernel_rfl) rfl ⟨opd0, ⟨opd1, trivial⟩⟩,
        ok_not rfl opd0, trivial⟩ (by kernel_rfl) ?_
    clear hAt
    intro a w hAt
    replace hAt : At B h0 (mkG [(0, fV (Rep.slice GCoat.rep) x0), (1, fV (Rep.slice GPainting.rep) x1), (2, fV r_u16 x2), (23, fV Rep.bool (!v2))]) (mkO []) F 126 a w := hAt
    refine then_n ?_
    refine wp_if hAt (by rfl) ?_ ?_
    · intro hb20
      have H := iteT hb20 H
      refine wp_seq ?_
      refine reg [⟨fV Rep.bool true, [], [], []⟩] [6] [] hAt
          ⟨ok_assign rfl opdB, trivial⟩ (by kernel_rfl) ?_
      clear hAt
      intro a w hAt
      replace hAt : At B h0 (mkG [(6, fV Rep.bool true)]) (mkO []) F 126 a w := hAt
      refine then_n ?_
      refine wp_ret ?_
      refine then_r ?_
      cases H
      exact ret1 rfl (rv_tmp rfl rfl) hAt
    · intro hb20
      have H := iteF hb20 H
      refine wp_skip ?_
      refine then_n ?_
      refine wp_seq ?_
      obtain ⟨v3, hv3, H⟩ := bindE H
      refine reg [⟨fV (Rep.slice GCoat.rep) x0, [], [(0, none)], []⟩,
          ⟨fV (Rep.slice GPainting.rep) x1, [], [(1, none)], []⟩,
          ⟨fT3 (fV r_i64 v3.1) (fV r_i64 v3.2.1) (fV r_i64 v3.2.2), [], [(25, some 0), (26, some 1)], []⟩,
          ⟨fT3 (fV r_i64 v3.1) (fV r_i64 v3.2.1) (fV r_i64 v3.2.2), [], [(27, some 2)], []⟩,
          ⟨fV r_i64 v3.1, [], [(24, some 3)], []⟩,
          ⟨fV r_i64 v3.2.1, [], [(24, some 3)], []⟩,
          ⟨fV r_i64 v3.2.2, [], [(24, some 3)], []⟩,
          ⟨fV r_i64 v3.1, [], [(28, some 4)], []⟩,
          ⟨fV r_i64 v3.2.1, [], [(29, some 5)], []⟩,
          ⟨fV r_i64 v3.2.2, [], [(30, some 6)], []⟩] [0, 1, 2, 7, 8, 9] [] hAt
          ⟨ok_move rfl opd0,
          ok_move rfl opd0,
          ok_call (ok_f_survey_Next N x0 x1 _ hv3) Try.func54 (by kernel_rfl) (by kernel_rfl) rfl ⟨opd0, ⟨opd1, trivial⟩⟩,
          ok_move rfl opd0,
          ok_ext30 rfl rfl opd0,
          ok_ext31 rfl rfl opd0,
          ok_ext32 rfl rfl opd0,
          ok_assign rfl opd0,
          ok_assign rfl opd0,
          ok_assign rfl opd0, trivial⟩ (by kernel_rfl) ?_
      clear hAt
      intro a w hAt
      replace hAt : At B h0 (mkG [(0, fV (Rep.slice GCoat.rep) x0), (1, fV (Rep.slice GPainting.rep) x1), (2, fV r_u16 x2), (7, fV r_i64 v3.1), (8, fV r_i64 v3.2.1), (9, fV r_i64 v3.2.2)]) (mkO []) F 126 a w := hAt
      refine then_n ?_
      refine wp_seq ?_
      refine wp_seq ?_
      refine reg [⟨fV r_i64 v3.2.2, [], [(9, none)], []⟩,
          ⟨fV Rep.bool (cmpI .neq v3.2.2 0), [], [(31, some 0)], []⟩] [0, 1, 2, 7, 8, 32] [] hAt
          ⟨ok_move rfl opd0,
          ok_cmp (op := .neq) (by simp) rfl rfl opd0 opdI, trivial⟩ (by kernel_rfl) ?_
      clear hAt
      intro a w hAt
      replace hAt : At B h0 (mkG [(0, fV (Rep.slice GCoat.rep) x0), (1, fV (Rep.slice GPainting.rep) x1), (2, fV r_u16 x2), (7, fV r_i64 v3.1), (8, fV r_i64 v3.2.1), (32, fV Rep.bool (cmpI .neq v3.2.2 0))]) (mkO []) F 126 a w := hAt
      refine then_n ?_
      refine wp_if hAt (by rfl) ?_ ?_
      · intro hb19
        have H := iteT hb19 H
        refine wp_seq ?_
        refine reg [⟨fV r_i64 v3.1, [], [(7, none)], []⟩,
            ⟨fV Rep.bool (cmpI .eql v3.1 0), [], [(33, some 0)], []⟩,
            ⟨fV Rep.bool (cmpI .eql v3.1 0), [], [(34, some 1)], []⟩,
            ⟨Fact.when ((cmpI .eql v3.1 0) = true) (fV r_i64 v3.2.1), [], [(35, some 2), (8, none)], []⟩,
            ⟨Fact.when ((cmpI .eql v3.1 0) = true) (fV Rep.bool (cmpI .eql v3.2.1 0)), [], [(35, some 2), (36, some 3)], []⟩,
            ⟨fV Rep.bool ((cmpI .eql v3.1 0) && (cmpI .eql v3.2.1 0)), [], [(35, some 2), (37, some 4)], []⟩,
            ⟨fV Rep.bool ((cmpI .eql v3.1 0) && (cmpI .eql v3.2.1 0)), [], [(38, some 5)], []⟩] [6] [] hAt
            ⟨ok_move rfl opd0,
            ok_cmp (op := .eql) (by simp) rfl rfl opd0 opdI,
            ok_move rfl opd0,
            obl_tt rfl rfl rfl rfl rfl rfl rfl (fun hg => ok_move rfl opd1),
            obl_tt rfl rfl rfl rfl rfl rfl rfl (fun hg => ok_cmp (op := .eql) (by simp) rfl rfl (opd1.on hg) opdI),
            ok_and rfl opd0 (fun e => (opd1.on e)),
            ok_assign rfl opd0, trivial⟩ (by kernel_rfl) ?_
        clear hAt
        intro a w hAt
        replace hAt : At B h0 (mkG [(6, fV Rep.bool ((cmpI .eql v3.1 0) && (cmpI .eql v3.2.1 0)))]) (mkO []) F 126 a w := hAt
        refine then_n ?_
        refine wp_ret ?_
        refine then_r ?_
        cases H
        exact ret1 rfl (rv_tmp rfl rfl) hAt
      · intro hb19
        have H := iteF hb19 H
        refine wp_skip ?_
        refine then_n ?_
        refine wp_seq ?_
        refine reg [⟨fV (Rep.slice GPainting.rep) x1, [], [(1, none)], []⟩,
            ⟨fV r_i64 (List.length x1 : Int), [], [(39, some 0)], []⟩,
            ⟨fV r_i64 (List.length x1 : Int), [], [(40, some 1)], []⟩] [0, 1, 2, 7, 8, 10] [] hAt
            ⟨ok_move rfl opd0,
            ok_len un102 rfl opd0,
            ok_assign rfl opd0, trivial⟩ (by kernel_rfl) ?_
        clear hAt
        intro a w hAt
        replace hAt : At B h0 (mkG [(0, fV (Rep.slice GCoat.rep) x0), (1, fV (Rep.slice GPainting.rep) x1), (2, fV r_u16 x2), (7, fV r_i64 v3.1), (8, fV r_i64 v3.2.1), (10, fV r_i64 (List.length x1 : Int))]) (mkO []) F 126 a w := hAt
        refine then_n ?_
        refine wp_seq ?_
        refine wp_seq ?_
        refine reg [⟨fV r_i64 (List.length x1 : Int), [], [(10, none)], []⟩,
            ⟨fV (Rep.slice GCoat.rep) x0, [], [(0, none)], []⟩,
            ⟨fV r_i64 (List.length x0 : Int), [], [(42, some 1)], []⟩,
            ⟨fV Rep.bool (cmpI .geq (List.length x1 : Int) (List.length x0 : Int)), [], [(41, some 0), (43, some 2)], []⟩,
            ⟨fV Rep.bool (cmpI .geq (List.length x1 : Int) (List.length x0 : Int)), [], [(44, some 3)], []⟩,
            ⟨Fact.when ((!(cmpI .geq (List.length x1 : Int) (List.length x0 : Int))) = true) (fV r_i64 v3.1), [], [(45, some 4), (7, none)], []⟩,
            ⟨Fact.when ((!(cmpI .geq (List.length x1 : Int) (List.length x0 : Int))) = true) (fV r_i64 v3.2.1), [], [(45, some 4), (8, none)], []⟩,
            ⟨Fact.when ((!(cmpI .geq (List.length x1 : Int) (List.length x0 : Int))) = true) (fV Rep.bool (cmpI .gtr v3.1 v3.2.1)), [], [(45, some 4), (46, some 5), (47, some 6)], []⟩,
            ⟨fV Rep.bool ((cmpI .geq (List.length x1 : Int) (List.length x0 : Int)) || (cmpI .gtr v3.1 v3.2.1)), [], [(45, some 4), (48, some 7)], []⟩] [0, 1, 2, 7, 8, 10, 49] [] hAt
            ⟨ok_move rfl opd0,
            ok_move rfl opd0,
            ok_len un93 rfl opd0,
            ok_cmp (op := .geq) (by simp) rfl rfl opd0 opd1,
            ok_move rfl opd0,
            obl_tf rfl rfl rfl rfl rfl rfl rfl (fun hg => ok_move rfl opd1),
            obl_tf rfl rfl rfl rfl rfl rfl rfl (fun hg => ok_move rfl opd1),
            obl_tf rfl rfl rfl rfl rfl rfl rfl (fun hg => ok_cmp (op := .gtr) (by simp) rfl rfl (opd1.on hg) (opd2.on hg)),
            ok_or rfl opd0 (fun e => (opd1.on (notT e))), trivial⟩ (by kernel_rfl) ?_
        clear hAt
        intro a w hAt
        replace hAt : At B h0 (mkG [(0, fV (Rep.slice GCoat.rep) x0), (1, fV (Rep.slice GPainting.rep) x1), (2, fV r_u16 x2), (7, fV r_i64 v3.1), (8, fV r_i64 v3.2.1), (10, fV r_i64 (List.length x1 : Int)), (49, fV Rep.bool ((cmpI .geq (List.length x1 : Int) (List.length x0 : Int)) || (cmpI .gtr v3.1 v3.2.1)))]) (mkO []) F 126 a w := hAt
        refine then_n ?_
        refine wp_if hAt (by rfl) ?_ ?_
        · intro hb18
          have H := iteT hb18 H
          refine wp_seq ?_
          refine reg [⟨fV Rep.bool false, [], [], []⟩] [6] [] hAt
              ⟨ok_assign rfl opdB, trivial⟩ (by kernel_rfl) ?_
          clear hAt
          intro a w hAt
          replace hAt : At B h0 (mkG [(6, fV Rep.bool false)]) (mkO []) F 126 a w := hAt
          refine then_n ?_
          refine wp_ret ?_
          refine then_r ?_
          cases H
          exact ret1 rfl (rv_tmp rfl rfl) hAt
        · intro hb18
          have H := iteF hb18 H
          refine wp_skip ?_
          refine then_n ?_
          refine wp_seq ?_
          obtain ⟨v4, hv4, H⟩ := bindE H
          obtain ⟨v5, hv5, H⟩ := bindE H
          obtain ⟨v6, hv6, H⟩ := bindE H
          refine regd [⟨fV (Rep.slice GCoat.rep) x0, [], [(0, none)], []⟩,
              ⟨fV r_i64 (List.length x1 : Int), [], [(10, none)], []⟩,
              ⟨fRef GCoat.rep v4, [], [(50, some 0), (51, some 1)], []⟩,
              ⟨fRef Rep.str v4.Name, [], [(52, some 2)], []⟩,
              ⟨fV Rep.str v4.Name, [], [(53, some 3)], []⟩,
              ⟨fV r_i64 v3.1, [], [(7, none)], []⟩,
              ⟨fV r_u16 x2, [], [(2, none)], []⟩,
              ⟨fV r_i64 (IntKind.i64.wrap x2), [], [(56, some 6)], []⟩,
              ⟨fV r_i64 v3.2.1, [], [(8, none)], []⟩,
              ⟨fV r_i64 v3.1, [], [(7, none)], []⟩,
              ⟨fV r_i64 (IntKind.i64.wrap (v3.2.1 - v3.1)), [], [(58, some 8), (59, some 9)], []⟩,
              ⟨fV r_i64 (IntKind.i64.wrap ((IntKind.i64.wrap (v3.2.1 - v3.1)) + 1)), [], [(60, some 10)], []⟩,
              ⟨fV r_i64 v5, [], [(57, some 7), (61, some 11)], []⟩,
              ⟨fV r_i64 (IntKind.i64.wrap (v3.1 + v5)), [], [(55, some 5), (62, some 12)], []⟩,
              ⟨fV (Rep.slice GCoat.rep) x0, [], [(0, none)], []⟩,
              ⟨fV r_i64 (List.length x1 : Int), [], [(10, none)], []⟩,
              ⟨fRef GCoat.rep v6, [], [(64, some 14), (65, some 15)], []⟩,
              ⟨fRef r_i64 v6.Nominal, [], [(66, some 16)], []⟩,
              ⟨fV r_i64 v6.Nominal, [], [(67, some 17)], []⟩,
              ⟨fV (Rep.slice r_i64) [v6.Nominal], [], [(68, some 18)], []⟩,
              ⟨fV GPainting.rep (⟨v4.Name, (IntKind.i64.wrap (v3.1 + v5)), [v6.Nominal]⟩ : GPainting), [], [(54, some 4), (63, some 13), (69, some 19)], []⟩,
              ⟨Fact.triv, [(11, some (boxE 107 GPainting.rep (⟨[], 0, []⟩ : GPainting)))], [], []⟩,
              ⟨Fact.triv, [(11, some (boxE 107 GPainting.rep (⟨v4.Name, (IntKind.i64.wrap (v3.1 + v5)), [v6.Nominal]⟩ : GPainting)))], [(70, some 20)], [(11, some 21)]⟩] [0, 1, 2, 3, 4, 5, 6, 7, 8, 9, 10, 11, 12, 13, 14, 15, 16, 17, 18, 19, 20, 21, 22] [0, 1, 2, 3, 4, 5, 6, 7, 8, 9, 10, 11, 12, 13, 14, 15, 16, 17, 18, 19, 20, 21, 22] [0, 1, 7, 8, 10] [11] hAt
              ⟨ok_move rfl opd0,
              ok_move rfl opd0,
              ok_index ty95 un93 hv4 rfl opd0 opd1,
              ok_field GCoat.l0 fo95_0 rfl opd0,
              ok_load ty9 rfl opd0,
              ok_move rfl opd0,
              ok_move rfl opd0,
              ok_conv un103 un3 rfl opd0,
              ok_move rfl opd0,
              ok_move rfl opd0,
              ok_sub rfl opd0 opd1,
              ok_add rfl opd0 opdI,
              ok_rem hv5 rfl opd0 opd1,
              ok_add rfl opd0 opd1,
              ok_move rfl opd0,
              ok_move rfl opd0,
              ok_index ty95 un93 hv6 rfl opd0 opd1,
              ok_field GCoat.l1 fo95_1 rfl opd0,
              ok_load ty3 rfl opd0,
              ok_buildSlice ty3 un22 rfl rfl (fillC (Lens.arr _ _ 0 (by decide)) rfl opd0 fillN),
              ok_build ty107 rfl pl107 rfl (fillC GPainting.l0 rfl opd0 (fillC GPainting.l1 rfl opd1 (fillC GPainting.l2 rfl opd2 fillN))),
              ok_alloc ty107 rfl rfl,
              ok_storeBox ty107 rfl rfl opd0, trivial⟩ (by kernel_rfl) ?_
          clear hAt
          intro a w hAt
          replace hAt : At B h0 (mkG [(0, fV (Rep.slice GCoat.rep) x0), (1, fV (Rep.slice GPainting.rep) x1), (7, fV r_i64 v3.1), (8, fV r_i64 v3.2.1), (10, fV r_i64 (List.length x1 : Int))]) (mkO [(11, boxE 107 GPainting.rep (⟨v4.Name, (IntKind.i64.wrap (v3.1 + v5)), [v6.Nominal]⟩ : GPainting))]) F 126 a w := hAt
          refine then_n ?_
          refine wp_seq ?_
          obtain ⟨v7, hv7, H⟩ := bindE H
          obtain ⟨v8, hv8, H⟩ := bindE H
          obtain ⟨v9, hv9, H⟩ := bindE H
          refine regd [⟨fV (Rep.slice GCoat.rep) x0, [], [(0, none)], []⟩,
              ⟨fV (Rep.slice GPainting.rep) ([] : (List GPainting)), [(73, some (tipE 107 GPainting.rep.sz))], [], []⟩,
              ⟨fV (Rep.slice GPainting.rep) x1, [], [(1, none)], []⟩,
              ⟨fV (Rep.slice GPainting.rep) v7, [(73, none), (75, some (tipE 107 GPainting.rep.sz))], [(73, some 1), (74, some 2)], [(73, some 1)]⟩,
              ⟨fV GPainting.rep (⟨v4.Name, (IntKind.i64.wrap (v3.1 + v5)), [v6.Nominal]⟩ : GPainting), [], [], [(11, none)]⟩,
              ⟨fV (Rep.slice GPainting.rep) [(⟨v4.Name, (IntKind.i64.wrap (v3.1 + v5)), [v6.Nominal]⟩ : GPainting)], [], [(76, some 4)], []⟩,
              ⟨fV (Rep.slice GPainting.rep) v8, [(75, none), (78, some (tipE 107 GPainting.rep.sz))], [(75, some 3), (77, some 5)], [(75, some 3)]⟩,
              ⟨fT2 (fV r_i64 v9.1) (fV r_i64 v9.2), [], [(72, some 0), (78, some 6)], []⟩,
              ⟨fT2 (fV r_i64 v9.1) (fV r_i64 v9.2), [], [(79, some 7)], []⟩,
              ⟨fV r_i64 v9.1, [], [(71, some 8)], []⟩,
              ⟨fV r_i64 v9.2, [], [(71, some 8)], []⟩,
              ⟨fV r_i64 v9.1, [], [(80, some 9)], []⟩,
              ⟨fV r_i64 v9.2, [], [(81, some 10)], []⟩] [0, 1, 2, 3, 4, 5, 6, 7, 8, 9, 10, 11, 12] [0, 1, 2, 3, 4, 5, 6, 7, 8, 9, 11, 10, 12] [0, 1, 7, 8, 10, 12, 13] [11] hAt
              ⟨ok_move rfl opd0,
              ok_buildTip ty107 un102 rfl rfl rfl fillN,
              ok_move rfl opd0,
              ok_append hv7 el107 un102 rfl rfl rfl opd0 opd1,
              ok_loadBox ty107 rfl,
              ok_buildSlice ty107 un102 rfl rfl (fillC (Lens.arr _ _ 0 (by decide)) rfl opd0 fillN),
              ok_append hv8 el107 un102 rfl rfl rfl opd0 opd1,
              ok_call (ok_f_survey_Paint N x0 v8 _ hv9) Try.func55 (by kernel_rfl) (by kernel_rfl) rfl ⟨opd0, ⟨opd1, trivial⟩⟩,
              ok_move rfl opd0,
              ok_ext20 rfl rfl opd0,
              ok_ext21 rfl rfl opd0,
              ok_assign rfl opd0,
              ok_assign rfl opd0, trivial⟩ (by kernel_rfl) ?_
          clear hAt
          intro a w hAt
          replace hAt : At B h0 (mkG [(0, fV (Rep.slice GCoat.rep) x0), (1, fV (Rep.slice GPainting.rep) x1), (7, fV r_i64 v3.1), (8, fV r_i64 v3.2.1), (10, fV r_i64 (List.length x1 : Int)), (12, fV r_i64 v9.1), (13, fV r_i64 v9.2)]) (mkO [(11, boxE 107 GPainting.rep (⟨v4.Name, (IntKind.i64.wrap (v3.1 + v5)), [v6.Nominal]⟩ : GPainting))]) F 126 a w := hAt
          refine then_n ?_
          refine wp_seq ?_
          refine wp_seq ?_
          refine reg [⟨fV r_i64 v9.1, [], [(12, none)], []⟩,
              ⟨fV r_i64 (List.length x1 : Int), [], [(10, none)], []⟩,
              ⟨fV r_i64 (IntKind.i64.wrap ((List.length x1 : Int) + 1)), [], [(83, some 1)], []⟩,
              ⟨fV Rep.bool (cmpI .neq v9.1 (IntKind.i64.wrap ((List.length x1 : Int) + 1))), [], [(82, some 0), (84, some 2)], []⟩,
              ⟨fV Rep.bool (cmpI .neq v9.1 (IntKind.i64.wrap ((List.length x1 : Int) + 1))), [], [(85, some 3)], []⟩,
              ⟨Fact.when ((!(cmpI .neq v9.1 (IntKind.i64.wrap ((List.length x1 : Int) + 1)))) = true) (fV r_i64 v9.2), [], [(86, some 4), (13, none)], []⟩,
              ⟨Fact.when ((!(cmpI .neq v9.1 (IntKind.i64.wrap ((List.length x1 : Int) + 1)))) = true) (fV Rep.bool (cmpI .neq v9.2 0)), [], [(86, some 4), (87, some 5)], []⟩,
              ⟨fV Rep.bool ((cmpI .neq v9.1 (IntKind.i64.wrap ((List.length x1 : Int) + 1))) || (cmpI .neq v9.2 0)), [], [(86, some 4), (88, some 6)], []⟩] [0, 1, 7, 8, 10, 89] [11] hAt
              ⟨ok_move rfl opd0,
              ok_move rfl opd0,
              ok_add rfl opd0 opdI,
              ok_cmp (op := .neq) (by simp) rfl rfl opd0 opd1,
              ok_move rfl opd0,
              obl_tf rfl rfl rfl rfl rfl rfl rfl (fun hg => ok_move rfl opd1),
              obl_tf rfl rfl rfl rfl rfl rfl rfl (fun hg => ok_cmp (op := .neq) (by simp) rfl rfl (opd1.on hg) opdI),
              ok_or rfl opd0 (fun e => (opd1.on (notT e))), trivial⟩ (by kernel_rfl) ?_
          clear hAt
          intro a w hAt
          replace hAt : At B h0 (mkG [(0, fV (Rep.slice GCoat.rep) x0), (1, fV (Rep.slice GPainting.rep) x1), (7, fV r_i64 v3.1), (8, fV r_i64 v3.2.1), (10, fV r_i64 (List.length x1 : Int)), (89, fV Rep.bool ((cmpI .neq v9.1 (IntKind.i64.wrap ((List.length x1 : Int) + 1))) || (cmpI .neq v9.2 0)))]) (mkO [(11, boxE 107 GPainting.rep (⟨v4.Name, (IntKind.i64.wrap (v3.1 + v5)), [v6.Nominal]⟩ : GPainting))]) F 126 a w := hAt
          refine then_n ?_
          refine wp_if hAt (by rfl) ?_ ?_
          · intro hb17
            have H := iteT hb17 H
            refine wp_seq ?_
            refine reg [⟨fV Rep.bool false, [], [], []⟩] [6] [] hAt
                ⟨ok_assign rfl opdB, trivial⟩ (by kernel_rfl) ?_
            clear hAt
            intro a w hAt
            replace hAt : At B h0 (mkG [(6, fV Rep.bool false)]) (mkO []) F 126 a w := hAt
            refine then_n ?_
            refine wp_ret ?_
            refine then_r ?_
            cases H
            exact ret1 rfl (rv_tmp rfl rfl) hAt
          · intro hb17
            have H := iteF hb17 H
            refine wp_skip ?_
            refine then_n ?_
            refine wp_seq ?_
            refine wp_seq ?_
            refine reg [⟨fV r_i64 (List.length x1 : Int), [], [(10, none)], []⟩,
                ⟨fV Rep.bool (cmpI .eql (List.length x1 : Int) 0), [], [(90, some 0)], []⟩] [0, 1, 7, 8, 91] [11] hAt
                ⟨ok_move rfl opd0,
                ok_cmp (op := .eql) (by simp) rfl rfl opd0 opdI, trivial⟩ (by kernel_rfl) ?_
            clear hAt
            intro a w hAt
            replace hAt : At B h0 (mkG [(0, fV (Rep.slice GCoat.rep) x0), (1, fV (Rep.slice GPainting.rep) x1), (7, fV r_i64 v3.1), (8, fV r_i64 v3.2.1), (91, fV Rep.bool (cmpI .eql (List.length x1 : Int) 0))]) (mkO [(11, boxE 107 GPainting.rep (⟨v4.Name, (IntKind.i64.wrap (v3.1 + v5)), [v6.Nominal]⟩ : GPainting))]) F 126 a w := hAt
            refine then_n ?_
            refine wp_if hAt (by rfl) ?_ ?_
            · intro hb16
              have H := iteT hb16 H
              refine wp_seq ?_
              refine reg [⟨fV Rep.bool true, [], [], []⟩] [6] [] hAt
                  ⟨ok_assign rfl opdB, trivial⟩ (by kernel_rfl) ?_
              clear hAt
              intro a w hAt
              replace hAt : At B h0 (mkG [(6, fV Rep.bool true)]) (mkO []) F 126 a w := hAt
              refine then_n ?_
              refine wp_ret ?_
              refine then_r ?_
              cases H
              exact ret1 rfl (rv_tmp rfl rfl) hAt
            · intro hb16
              have H := iteF hb16 H
              refine wp_skip ?_
              refine then_n ?_
              refine wp_seq ?_
              refine reg [⟨fV r_i64 v3.1, [], [(7, none)], []⟩,
                  ⟨fV r_i64 (IntKind.i64.wrap (v3.1 - 1)), [], [(92, some 0)], []⟩,
                  ⟨fOff 11 1, [], [], [(11, none)]⟩,
                  ⟨Fact.triv, [(11, some (boxE 107 GPainting.rep ({ (⟨v4.Name, (IntKind.i64.wrap (v3.1 + v5)), [v6.Nominal]⟩ : GPainting) with Start := (IntKind.i64.wrap (v3.1 - 1)) } : GPainting)))], [(94, some 2), (93, some 1)], [(11, none)]⟩] [0, 1, 8] [11] hAt
                  ⟨ok_move rfl opd0,
                  ok_sub rfl opd0 opdI,
                  ok_fieldOwn fo107_1 rfl,
                  ok_store GPainting.l1 ty3 rfl rfl opd0 opd1 rfl, trivial⟩ (by kernel_rfl) ?_
              clear hAt
              intro a w hAt
              replace hAt : At B h0 (mkG [(0, fV (Rep.slice GCoat.rep) x0), (1, fV (Rep.slice GPainting.rep) x1), (8, fV r_i64 v3.2.1)]) (mkO [(11, boxE 107 GPainting.rep ({ (⟨v4.Name, (IntKind.i64.wrap (v3.1 + v5)), [v6.Nominal]⟩ : GPainting) with Start := (IntKind.i64.wrap (v3.1 - 1)) } : GPainting))]) F 126 a w := hAt
              refine then_n ?_
              refine wp_seq ?_
              obtain ⟨v10, hv10, H⟩ := bindE H
              obtain ⟨v11, hv11, H⟩ := bindE H
              obtain ⟨v12, hv12, H⟩ := bindE H
              refine regd [⟨fV (Rep.slice GCoat.rep) x0, [], [(0, none)], []⟩,
                  ⟨fV (Rep.slice GPainting.rep) ([] : (List GPainting)), [(97, some (tipE 107 GPainting.rep.sz))], [], []⟩,
                  ⟨fV (Rep.slice GPainting.rep) x1, [], [(1, none)], []⟩,
                  ⟨fV (Rep.slice GPainting.rep) v10, [(97, none), (99, some (tipE 107 GPainting.rep.sz))], [(97, some 1), (98, some 2)], [(97, some 1)]⟩,
                  ⟨fV GPainting.rep ({ (⟨v4.Name, (IntKind.i64.wrap (v3.1 + v5)), [v6.Nominal]⟩ : GPainting) with Start := (IntKind.i64.wrap (v3.1 - 1)) } : GPainting), [], [], [(11, none)]⟩,
                  ⟨fV (Rep.slice GPainting.rep) [({ (⟨v4.Name, (IntKind.i64.wrap (v3.1 + v5)), [v6.Nominal]⟩ : GPainting) with Start := (IntKind.i64.wrap (v3.1 - 1)) } : GPainting)], [], [(100, some 4)], []⟩,
                  ⟨fV (Rep.slice GPainting.rep) v11, [(99, none), (102, some (tipE 107 GPainting.rep.sz))], [(99, some 3), (101, some 5)], [(99, some 3)]⟩,
                  ⟨fT2 (fV r_i64 v12.1) (fV r_i64 v12.2), [], [(96, some 0), (102, some 6)], []⟩,
                  ⟨fT2 (fV r_i64 v12.1) (fV r_i64 v12.2), [], [(103, some 7)], []⟩,
                  ⟨fV r_i64 v12.1, [], [(95, some 8)], []⟩,
                  ⟨fV r_i64 v12.2, [], [(95, some 8)], []⟩,
                  ⟨fV r_i64 v12.1, [], [(104, some 9)], []⟩,
                  ⟨fV r_i64 v12.2, [], [(105, some 10)], []⟩] [0, 1, 2, 3, 4, 5, 6, 7, 8, 9, 10, 11, 12] [0, 1, 2, 3, 4, 5, 6, 7, 8, 9, 11, 10, 12] [0, 1, 8, 15] [11] hAt
                  ⟨ok_move rfl opd0,
                  ok_buildTip ty107 un102 rfl rfl rfl fillN,
                  ok_move rfl opd0,
                  ok_append hv10 el107 un102 rfl rfl rfl opd0 opd1,
                  ok_loadBox ty107 rfl,
                  ok_buildSlice ty107 un102 rfl rfl (fillC (Lens.arr _ _ 0 (by decide)) rfl opd0 fillN),
                  ok_append hv11 el107 un102 rfl rfl rfl opd0 opd1,
                  ok_call (ok_f_survey_Paint N x0 v11 _ hv12) Try.func55 (by kernel_rfl) (by kernel_rfl) rfl ⟨opd0, ⟨opd1, trivial⟩⟩,
                  ok_move rfl opd0,
                  ok_ext20 rfl rfl opd0,
                  ok_ext21 rfl rfl opd0,
                  ok_assign rfl opd0,
                  ok_assign rfl opd0, trivial⟩ (by kernel_rfl) ?_
              clear hAt
              intro a w hAt
              replace hAt : At B h0 (mkG [(0, fV (Rep.slice GCoat.rep) x0), (1, fV (Rep.slice GPainting.rep) x1), (8, fV r_i64 v3.2.1), (15, fV r_i64 v12.2)]) (mkO [(11, boxE 107 GPainting.rep ({ (⟨v4.Name, (IntKind.i64.wrap (v3.1 + v5)), [v6.Nominal]⟩ : GPainting) with Start := (IntKind.i64.wrap (v3.1 - 1)) } : GPainting))]) F 126 a w := hAt
              refine then_n ?_
              refine wp_seq ?_
              refine reg [⟨fV r_i64 v3.2.1, [], [(8, none)], []⟩,
                  ⟨fV r_i64 (IntKind.i64.wrap (v3.2.1 + 1)), [], [(106, some 0)], []⟩,
                  ⟨fOff 11 1, [], [], [(11, none)]⟩,
                  ⟨Fact.triv, [(11, some (boxE 107 GPainting.rep ({ ({ (⟨v4.Name, (IntKind.i64.wrap (v3.1 + v5)), [v6.Nominal]⟩ : GPainting) with Start := (IntKind.i64.wrap (v3.1 - 1)) } : GPainting) with Start := (IntKind.i64.wrap (v3.2.1 + 1)) } : GPainting)))], [(108, some 2), (107, some 1)], [(11, none)]⟩] [0, 1, 15] [11] hAt
                  ⟨ok_move rfl opd0,
                  ok_add rfl opd0 opdI,
                  ok_fieldOwn fo107_1 rfl,
                  ok_store GPainting.l1 ty3 rfl rfl opd0 opd1 rfl, trivial⟩ (by kernel_rfl) ?_
              clear hAt
              intro a w hAt
              replace hAt : At B h0 (mkG [(0, fV (Rep.slice GCoat.rep) x0), (1, fV (Rep.slice GPainting.rep) x1), (15, fV r_i64 v12.2)]) (mkO [(11, boxE 107 GPainting.rep ({ ({ (⟨v4.Name, (IntKind.i64.wrap (v3.1 + v5)), [v6.Nominal]⟩ : GPainting) with Start := (IntKind.i64.wrap (v3.1 - 1)) } : GPainting) with Start := (IntKind.i64.wrap (v3.2.1 + 1)) } : GPainting))]) F 126 a w := hAt
              refine then_n ?_
              refine wp_seq ?_
              obtain ⟨v13, hv13, H⟩ := bindE H
              obtain ⟨v14, hv14, H⟩ := bindE H
              obtain ⟨v15, hv15, H⟩ := bindE H
              refine regd [⟨fV (Rep.slice GCoat.rep) x0, [], [(0, none)], []⟩,
                  ⟨fV (Rep.slice GPainting.rep) ([] : (List GPainting)), [(111, some (tipE 107 GPainting.rep.sz))], [], []⟩,
                  ⟨fV (Rep.slice GPainting.rep) x1, [], [(1, none)], []⟩,
                  ⟨fV (Rep.slice GPainting.rep) v13, [(111, none), (113, some (tipE 107 GPainting.rep.sz))], [(111, some 1), (112, some 2)], [(111, some 1)]⟩,
                  ⟨fV GPainting.rep ({ ({ (⟨v4.Name, (IntKind.i64.wrap (v3.1 + v5)), [v6.Nominal]⟩ : GPainting) with Start := (IntKind.i64.wrap (v3.1 - 1)) } : GPainting) with Start := (IntKind.i64.wrap (v3.2.1 + 1)) } : GPainting), [], [], [(11, none)]⟩,
                  ⟨fV (Rep.slice GPainting.rep) [({ ({ (⟨v4.Name, (IntKind.i64.wrap (v3.1 + v5)), [v6.Nominal]⟩ : GPainting) with Start := (IntKind.i64.wrap (v3.1 - 1)) } : GPainting) with Start := (IntKind.i64.wrap (v3.2.1 + 1)) } : GPainting)], [], [(114, some 4)], []⟩,
                  ⟨fV (Rep.slice GPainting.rep) v14, [(113, none), (116, some (tipE 107 GPainting.rep.sz))], [(113, some 3), (115, some 5)], [(113, some 3)]⟩,
                  ⟨fT2 (fV r_i64 v15.1) (fV r_i64 v15.2), [], [(110, some 0), (116, some 6)], []⟩,
                  ⟨fT2 (fV r_i64 v15.1) (fV r_i64 v15.2), [], [(117, some 7)], []⟩,
                  ⟨fV r_i64 v15.1, [], [(109, some 8)], []⟩,
                  ⟨fV r_i64 v15.2, [], [(109, some 8)], []⟩,
                  ⟨fV r_i64 v15.1, [], [(118, some 9)], []⟩,
                  ⟨fV r_i64 v15.2, [], [(119, some 10)], []⟩] [0, 1, 2, 3, 4, 5, 6, 7, 8, 9, 10, 11, 12] [0, 1, 2, 3, 4, 5, 6, 7, 8, 9, 11, 10, 12] [15, 17] [] hAt
                  ⟨ok_move rfl opd0,
                  ok_buildTip ty107 un102 rfl rfl rfl fillN,
                  ok_move rfl opd0,
                  ok_append hv13 el107 un102 rfl rfl rfl opd0 opd1,
                  ok_loadBox ty107 rfl,
                  ok_buildSlice ty107 un102 rfl rfl (fillC (Lens.arr _ _ 0 (by decide)) rfl opd0 fillN),
                  ok_append hv14 el107 un102 rfl rfl rfl opd0 opd1,
                  ok_call (ok_f_survey_Paint N x0 v14 _ hv15) Try.func55 (by kernel_rfl) (by kernel_rfl) rfl ⟨opd0, ⟨opd1, trivial⟩⟩,
                  ok_move rfl opd0,
                  ok_ext20 rfl rfl opd0,
                  ok_ext21 rfl rfl opd0,
                  ok_assign rfl opd0,
                  ok_assign rfl opd0, trivial⟩ (by kernel_rfl) ?_
              clear hAt
              intro a w hAt
              replace hAt : At B h0 (mkG [(15, fV r_i64 v12.2), (17, fV r_i64 v15.2)]) (mkO []) F 126 a w := hAt
              refine then_n ?_
              refine wp_seq ?_
              refine reg [⟨fV r_i64 v12.2, [], [(15, none)], []⟩,
                  ⟨fV Rep.bool (cmpI .neq v12.2 0), [], [(120, some 0)], []⟩,
                  ⟨fV Rep.bool (cmpI .neq v12.2 0), [], [(121, some 1)], []⟩,
                  ⟨Fact.when ((cmpI .neq v12.2 0) = true) (fV r_i64 v15.2), [], [(122, some 2), (17, none)], []⟩,
                  ⟨Fact.when ((cmpI .neq v12.2 0) = true) (fV Rep.bool (cmpI .neq v15.2 0)), [], [(122, some 2), (123, some 3)], []⟩,
                  ⟨fV Rep.bool ((cmpI .neq v12.2 0) && (cmpI .neq v15.2 0)), [], [(122, some 2), (124, some 4)], []⟩,
                  ⟨fV Rep.bool ((cmpI .neq v12.2 0) && (cmpI .neq v15.2 0)), [], [(125, some 5)], []⟩] [6] [] hAt
                  ⟨ok_move rfl opd0,
                  ok_cmp (op := .neq) (by simp) rfl rfl opd0 opdI,
                  ok_move rfl opd0,
                  obl_tt rfl rfl rfl rfl rfl rfl rfl (fun hg => ok_move rfl opd1),
                  obl_tt rfl rfl rfl rfl rfl rfl rfl (fun hg => ok_cmp (op := .neq) (by simp) rfl rfl (opd1.on hg) opdI),
                  ok_and rfl opd0 (fun e => (opd1.on e)),
                  ok_assign rfl opd0, trivial⟩ (by kernel_rfl) ?_
              clear hAt
              intro a w hAt
              replace hAt : At B h0 (mkG [(6, fV Rep.bool ((cmpI .neq v12.2 0) && (cmpI .neq v15.2 0)))]) (mkO []) F 126 a w := hAt
              refine then_n ?_
              refine wp_ret ?_
              cases H
              exact ret1 rfl (rv_tmp rfl rfl) hAt
end Go.KB
