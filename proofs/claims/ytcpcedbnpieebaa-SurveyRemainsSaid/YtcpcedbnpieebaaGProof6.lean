/- The Go functions compute what the plain functions compute. Printed by a program. No condition. -/
import Derived.Test.YtcpcedbnpieebaaGProof5
namespace Go.KB
open Go.Proofs
set_option maxRecDepth 100000
set_option linter.unusedVariables false
theorem ok_f_law09_SurveyRemains (N : Nat) (x0 : GPanel) (x1 : GPanel) (x2 : GRule) (r : Bool) (H : f_law09_SurveyRemains N x0 x1 x2 = some r) : FnOk Try.prog 6 [fV GPanel.rep x0, fV GPanel.rep x1, fV GRule.rep x2] (fV Rep.bool r) := by
  unfold f_law09_SurveyRemains at H
  refine fn_enter Try.func6 rfl rfl (by kernel_rfl) ?_
  intro κ B h0 F a w hAt
  refine wp_seq ?_
  refine reg [⟨fRef GPanel.rep x0, [], [(0, none)], []⟩,
      ⟨fRef GPanel.rep x1, [], [(1, none)], []⟩,
      ⟨fRef GRule.rep x2, [], [(2, none)], []⟩,
      ⟨fV Rep.bool false, [], [], []⟩] [3, 4, 5] [] hAt
      ⟨ok_box rfl opd0,
      ok_box rfl opd0,
      ok_box rfl opd0,
      ok_assign rfl opdB, trivial⟩ (by kernel_rfl) ?_
  clear hAt
  intro a w hAt
  replace hAt : At B h0 (mkG [(3, fRef GPanel.rep x0), (4, fRef GPanel.rep x1), (5, fRef GRule.rep x2)]) (mkO []) F 104 a w := hAt
  refine then_n ?_
  refine wp_seq ?_
  refine wp_seq ?_
  obtain ⟨v1, hv1, H⟩ := bindE H
  refine reg [⟨fV Rep.bool v1, [], [], []⟩,
      ⟨fV Rep.bool (!v1), [], [(13, some 0)], []⟩] [3, 4, 5, 14] [] hAt
      ⟨ok_call (ok_f_law09_awake N _ hv1) Try.func14 (by kernel_rfl) (by kernel_rfl) rfl trivial,
      ok_not rfl opd0, trivial⟩ (by kernel_rfl) ?_
  clear hAt
  intro a w hAt
  replace hAt : At B h0 (mkG [(3, fRef GPanel.rep x0), (4, fRef GPanel.rep x1), (5, fRef GRule.rep x2), (14, fV Rep.bool (!v1))]) (mkO []) F 104 a w := hAt
  refine then_n ?_
  refine wp_if hAt (by rfl) ?_ ?_
  · intro hb22
    have H := iteT hb22 H
    refine wp_seq ?_
    refine reg [⟨fV Rep.bool false, [], [], []⟩] [6] [] hAt
        ⟨ok_assign rfl opdB, trivial⟩ (by kernel_rfl) ?_
    clear hAt
    intro a w hAt
    replace hAt : At B h0 (mkG [(6, fV Rep.bool false)]) (mkO []) F 104 a w := hAt
    refine then_n ?_
    refine wp_ret ?_
    refine then_r ?_
    cases H
    exact ret1 rfl (rv_tmp rfl rfl) hAt
  · intro hb22
    have H := iteF hb22 H
    refine wp_skip ?_
    refine then_n ?_
    refine wp_seq ?_
    refine wp_seq ?_
    obtain ⟨v2, hv2, H⟩ := bindE H
    obtain ⟨v3, hv3, H⟩ := bindE H
    refine reg [⟨fV GPanel.rep x0, [], [(3, none)], []⟩,
        ⟨fV Rep.bool v2, [], [(15, some 0)], []⟩,
        ⟨fV Rep.bool (!v2), [], [(16, some 1)], []⟩,
        ⟨fV Rep.bool (!v2), [], [(17, some 2)], []⟩,
        ⟨Fact.when ((!(!v2)) = true) (fV GPanel.rep x1), [], [(18, some 3), (4, none)], []⟩,
        ⟨Fact.when ((!(!v2)) = true) (fV Rep.bool v3), [], [(18, some 3), (19, some 4)], []⟩,
        ⟨Fact.when ((!(!v2)) = true) (fV Rep.bool (!v3)), [], [(18, some 3), (20, some 5)], []⟩,
        ⟨fV Rep.bool ((!v2) || (!v3)), [], [(18, some 3), (21, some 6)], []⟩] [3, 4, 5, 22] [] hAt
        ⟨ok_load ty24 rfl opd0,
        ok_call (ok_f_law09_slim N x0 _ hv2) Try.func15 (by kernel_rfl) (by kernel_rfl) rfl ⟨opd0, trivial⟩,
        ok_not rfl opd0,
        ok_move rfl opd0,
        obl_tf rfl rfl rfl rfl rfl rfl rfl (fun hg => ok_load ty24 rfl opd1),
        obl_tf rfl rfl rfl rfl rfl rfl rfl (fun hg => ok_call (ok_f_law09_slim N x1 _ (iteT hg hv3)) Try.func15 (by kernel_rfl) (by kernel_rfl) rfl ⟨(opd1.on hg), trivial⟩),
        obl_tf rfl rfl rfl rfl rfl rfl rfl (fun hg => ok_not rfl (opd1.on hg)),
        ok_or rfl opd0 (fun e => (opd1.on (notT e))), trivial⟩ (by kernel_rfl) ?_
    clear hAt
    intro a w hAt
    replace hAt : At B h0 (mkG [(3, fRef GPanel.rep x0), (4, fRef GPanel.rep x1), (5, fRef GRule.rep x2), (22, fV Rep.bool ((!v2) || (!v3)))]) (mkO []) F 104 a w := hAt
    refine then_n ?_
    refine wp_if hAt (by rfl) ?_ ?_
    · intro hb21
      have H := iteT hb21 H
      refine wp_seq ?_
      refine reg [⟨fV Rep.bool true, [], [], []⟩] [6] [] hAt
          ⟨ok_assign rfl opdB, trivial⟩ (by kernel_rfl) ?_
      clear hAt
      intro a w hAt
      replace hAt : At B h0 (mkG [(6, fV Rep.bool true)]) (mkO []) F 104 a w := hAt
      refine then_n ?_
      refine wp_ret ?_
      refine then_r ?_
      cases H
      exact ret1 rfl (rv_tmp rfl rfl) hAt
    · intro hb21
      have H := iteF hb21 H
      refine wp_skip ?_
      refine then_n ?_
      refine wp_seq ?_
      obtain ⟨v4, hv4, H⟩ := bindE H
      refine reg [⟨fV GPanel.rep x0, [], [(3, none)], []⟩,
          ⟨fV GPanel.rep x1, [], [(4, none)], []⟩,
          ⟨fV GRule.rep x2, [], [(5, none)], []⟩,
          ⟨fT3 (fV GRat.rep v4.1) (fV Rep.bool v4.2.1) (fV r_i64 v4.2.2), [], [(24, some 0), (25, some 1), (26, some 2)], []⟩,
          ⟨fT3 (fV GRat.rep v4.1) (fV Rep.bool v4.2.1) (fV r_i64 v4.2.2), [], [(27, some 3)], []⟩,
          ⟨fV GRat.rep v4.1, [], [(23, some 4)], []⟩,
          ⟨fV Rep.bool v4.2.1, [], [(23, some 4)], []⟩,
          ⟨fV r_i64 v4.2.2, [], [(23, some 4)], []⟩,
          ⟨Fact.triv, [(7, some (boxE 49 GRat.rep (⟨(⟨false, []⟩ : GInt), (⟨false, []⟩ : GInt)⟩ : GRat)))], [], []⟩,
          ⟨Fact.triv, [(7, some (boxE 49 GRat.rep v4.1))], [(28, some 5)], [(7, some 8)]⟩,
          ⟨fV Rep.bool v4.2.1, [], [(29, some 6)], []⟩,
          ⟨fV r_i64 v4.2.2, [], [(30, some 7)], []⟩] [3, 4, 5, 8, 9] [7] hAt
          ⟨ok_load ty24 rfl opd0,
          ok_load ty24 rfl opd0,
          ok_load ty26 rfl opd0,
          ok_call (ok_f_survey_Remaining N x0 x1 x2 _ hv4) Try.func38 (by kernel_rfl) (by kernel_rfl) rfl ⟨opd0, ⟨opd1, ⟨opd2, trivial⟩⟩⟩,
          ok_move rfl opd0,
          ok_ext30 rfl rfl opd0,
          ok_ext31 rfl rfl opd0,
          ok_ext32 rfl rfl opd0,
          ok_alloc ty49 rfl rfl,
          ok_storeBox ty49 rfl rfl opd0,
          ok_assign rfl opd0,
          ok_assign rfl opd0, trivial⟩ (by kernel_rfl) ?_
      clear hAt
      intro a w hAt
      replace hAt : At B h0 (mkG [(3, fRef GPanel.rep x0), (4, fRef GPanel.rep x1), (5, fRef GRule.rep x2), (8, fV Rep.bool v4.2.1), (9, fV r_i64 v4.2.2)]) (mkO [(7, boxE 49 GRat.rep v4.1)]) F 104 a w := hAt
      refine then_n ?_
      refine wp_seq ?_
      obtain ⟨v5, hv5, H⟩ := bindE H
      refine reg [⟨fV GPanel.rep x0, [], [(3, none)], []⟩,
          ⟨fV r_i64 v5, [], [(31, some 0)], []⟩,
          ⟨fV r_i64 v5, [], [(32, some 1)], []⟩] [3, 4, 5, 8, 9, 10] [7] hAt
          ⟨ok_load ty24 rfl opd0,
          ok_call (ok_f_ref09_CheckPanel N x0 _ hv5) Try.func18 (by kernel_rfl) (by kernel_rfl) rfl ⟨opd0, trivial⟩,
          ok_assign rfl opd0, trivial⟩ (by kernel_rfl) ?_
      clear hAt
      intro a w hAt
      replace hAt : At B h0 (mkG [(3, fRef GPanel.rep x0), (4, fRef GPanel.rep x1), (5, fRef GRule.rep x2), (8, fV Rep.bool v4.2.1), (9, fV r_i64 v4.2.2), (10, fV r_i64 v5)]) (mkO [(7, boxE 49 GRat.rep v4.1)]) F 104 a w := hAt
      refine then_n ?_
      refine wp_seq ?_
      obtain ⟨o8, hl9, H⟩ := bindE H
      refine wp_mono (Q := (fun o e a w => (fun v => e = .normal ∧ At B h0 (mkG [(3, fRef GPanel.rep x0), (4, fRef GPanel.rep x1), (5, fRef GRule.rep x2), (8, fV Rep.bool v4.2.1), (9, fV r_i64 v4.2.2), (10, fV r_i64 v)]) (mkO [(7, boxE 49 GRat.rep v4.1)]) F 104 a w) o) o8) ?_ ?_
      · clear H
        have H := hl9
        clear hl9
        refine wp_seq ?_
        refine reg [⟨fV r_i64 v5, [], [(10, none)], []⟩,
            ⟨fV Rep.bool (cmpI .eql v5 0), [], [(33, some 0)], []⟩] [3, 4, 5, 8, 9, 10, 34] [7] hAt
            ⟨ok_move rfl opd0,
            ok_cmp (op := .eql) (by simp) rfl rfl opd0 opdI, trivial⟩ (by kernel_rfl) ?_
        clear hAt
        intro a w hAt
        replace hAt : At B h0 (mkG [(3, fRef GPanel.rep x0), (4, fRef GPanel.rep x1), (5, fRef GRule.rep x2), (8, fV Rep.bool v4.2.1), (9, fV r_i64 v4.2.2), (10, fV r_i64 v5), (34, fV Rep.bool (cmpI .eql v5 0))]) (mkO [(7, boxE 49 GRat.rep v4.1)]) F 104 a w := hAt
        refine then_n ?_
        refine wp_if hAt (by rfl) ?_ ?_
        · intro hb7
          have H := iteT hb7 H
          obtain ⟨v6, hv6, H⟩ := bindE H
          refine reg [⟨fV GPanel.rep x1, [], [(4, none)], []⟩,
              ⟨fV r_i64 v6, [], [(35, some 0)], []⟩,
              ⟨fV r_i64 v6, [], [(36, some 1)], []⟩] [3, 4, 5, 8, 9, 10] [7] hAt
              ⟨ok_load ty24 rfl opd0,
              ok_call (ok_f_ref09_CheckPanel N x1 _ hv6) Try.func18 (by kernel_rfl) (by kernel_rfl) rfl ⟨opd0, trivial⟩,
              ok_assign rfl opd0, trivial⟩ (by kernel_rfl) ?_
          clear hAt
          intro a w hAt
          replace hAt : At B h0 (mkG [(3, fRef GPanel.rep x0), (4, fRef GPanel.rep x1), (5, fRef GRule.rep x2), (8, fV Rep.bool v4.2.1), (9, fV r_i64 v4.2.2), (10, fV r_i64 v6)]) (mkO [(7, boxE 49 GRat.rep v4.1)]) F 104 a w := hAt
          cases H
          exact ⟨rfl, hAt.pick [3, 4, 5, 8, 9, 10] [7]⟩
        · intro hb7
          have H := iteF hb7 H
          refine wp_skip ?_
          cases H
          exact ⟨rfl, hAt.pick [3, 4, 5, 8, 9, 10] [7]⟩
      · clear hAt
        intro e a w hp
        obtain ⟨rfl, hAt⟩ := hp
        refine then_n ?_
        refine wp_seq ?_
        obtain ⟨o11, hl12, H⟩ := bindE H
        refine wp_mono (Q := (fun o e a w => (fun v => e = .normal ∧ At B h0 (mkG [(3, fRef GPanel.rep x0), (4, fRef GPanel.rep x1), (5, fRef GRule.rep x2), (8, fV Rep.bool v4.2.1), (9, fV r_i64 v4.2.2), (10, fV r_i64 v)]) (mkO [(7, boxE 49 GRat.rep v4.1)]) F 104 a w) o) o11) ?_ ?_
        · clear H
          have H := hl12
          clear hl12
          refine wp_seq ?_
          refine reg (⟨fV r_i64 o8, [], [(10, none)], []⟩ ::
              ⟨fV Rep.bool (cmpI .eql o8 0), [], [(37, some 0)], []⟩ ::
              ⟨fV Rep.bool (cmpI .eql o8 0), [], [(38, some 1)], []⟩ ::
              ⟨Fact.when ((cmpI .eql o8 0) = true) (fRef Rep.str x0.Name), [], [(39, some 2), (3, none)], []⟩ ::
              ⟨Fact.when ((cmpI .eql o8 0) = true) (fV Rep.str x0.Name), [], [(39, some 2), (40, some 3)], []⟩ ::
              ⟨Fact.when ((cmpI .eql o8 0) = true) (fRef Rep.str x1.Name), [], [(39, some 2), (4, none)], []⟩ ::
              ⟨Fact.when ((cmpI .eql o8 0) = true) (fV Rep.str x1.Name), [], [(39, some 2), (42, some 5)], []⟩ ::
              ⟨Fact.when ((cmpI .eql o8 0) = true) (fV Rep.bool (cmpS .neq x0.Name x1.Name)), [], [(39, some 2), (41, some 4), (43, some 6)], []⟩ ::
              ⟨Fact.when ((cmpI .eql o8 0) = true) (fV Rep.bool (cmpS .neq x0.Name x1.Name)), [], [(39, some 2), (44, some 7)], []⟩ ::
              ⟨Fact.when (((cmpI .eql o8 0) && (!(cmpS .neq x0.Name x1.Name))) = true) (fRef r_i64 x0.Rows), [], [(45, some 8), (3, none)], []⟩ ::
              ⟨Fact.when (((cmpI .eql o8 0) && (!(cmpS .neq x0.Name x1.Name))) = true) (fV r_i64 x0.Rows), [], [(45, some 8), (46, some 9)], []⟩ ::
              ⟨Fact.when (((cmpI .eql o8 0) && (!(cmpS .neq x0.Name x1.Name))) = true) (fRef r_i64 x1.Rows), [], [(45, some 8), (4, none)], []⟩ ::
              ⟨Fact.when (((cmpI .eql o8 0) && (!(cmpS .neq x0.Name x1.Name))) = true) (fV r_i64 x1.Rows), [], [(45, some 8), (48, some 11)], []⟩ ::
              ⟨Fact.when (((cmpI .eql o8 0) && (!(cmpS .neq x0.Name x1.Name))) = true) (fV Rep.bool (cmpI .neq x0.Rows x1.Rows)), [], [(45, some 8), (47, some 10), (49, some 12)], []⟩ ::
              ⟨Fact.when ((cmpI .eql o8 0) = true) (fV Rep.bool ((cmpS .neq x0.Name x1.Name) || (cmpI .neq x0.Rows x1.Rows))), [], [(39, some 2), (45, some 8), (50, some 13)], []⟩ ::
              ⟨Fact.when ((cmpI .eql o8 0) = true) (fV Rep.bool ((cmpS .neq x0.Name x1.Name) || (cmpI .neq x0.Rows x1.Rows))), [], [(39, some 2), (51, some 14)], []⟩ ::
              ⟨Fact.when (((cmpI .eql o8 0) && (!((cmpS .neq x0.Name x1.Name) || (cmpI .neq x0.Rows x1.Rows)))) = true) (fRef r_i64 x0.Cols), [], [(52, some 15), (3, none)], []⟩ ::
              ⟨Fact.when (((cmpI .eql o8 0) && (!((cmpS .neq x0.Name x1.Name) || (cmpI .neq x0.Rows x1.Rows)))) = true) (fV r_i64 x0.Cols), [], [(52, some 15), (53, some 16)], []⟩ ::
              ⟨Fact.when (((cmpI .eql o8 0) && (!((cmpS .neq x0.Name x1.Name) || (cmpI .neq x0.Rows x1.Rows)))) = true) (fRef r_i64 x1.Cols), [], [(52, some 15), (4, none)], []⟩ ::
              ⟨Fact.when (((cmpI .eql o8 0) && (!((cmpS .neq x0.Name x1.Name) || (cmpI .neq x0.Rows x1.Rows)))) = true) (fV r_i64 x1.Cols), [], [(52, some 15), (55, some 18)], []⟩ ::
              ⟨Fact.when (((cmpI .eql o8 0) && (!((cmpS .neq x0.Name x1.Name) || (cmpI .neq x0.Rows x1.Rows)))) = true) (fV Rep.bool (cmpI .neq x0.Cols x1.Cols)), [], [(52, some 15), (54, some 17), (56, some 19)], []⟩ ::
              ⟨Fact.when ((cmpI .eql o8 0) = true) (fV Rep.bool (((cmpS .neq x0.Name x1.Name) || (cmpI .neq x0.Rows x1.Rows)) || (cmpI .neq x0.Cols x1.Cols))), [], [(39, some 2), (52, some 15), (57, some 20)], []⟩ ::
              ⟨Fact.when ((cmpI .eql o8 0) = true) (fV Rep.bool (((cmpS .neq x0.Name x1.Name) || (cmpI .neq x0.Rows x1.Rows)) || (cmpI .neq x0.Cols x1.Cols))), [], [(39, some 2), (58, some 21)], []⟩ ::
              ⟨Fact.when (((cmpI .eql o8 0) && (!(((cmpS .neq x0.Name x1.Name) || (cmpI .neq x0.Rows x1.Rows)) || (cmpI .neq x0.Cols x1.Cols)))) = true) (fRef r_i64 x0.Built), [], [(59, some 22), (3, none)], []⟩ ::
              ⟨Fact.when (((cmpI .eql o8 0) && (!(((cmpS .neq x0.Name x1.Name) || (cmpI .neq x0.Rows x1.Rows)) || (cmpI .neq x0.Cols x1.Cols)))) = true) (fV r_i64 x0.Built), [], [(59, some 22), (60, some 23)], []⟩ ::
              ⟨Fact.when (((cmpI .eql o8 0) && (!(((cmpS .neq x0.Name x1.Name) || (cmpI .neq x0.Rows x1.Rows)) || (cmpI .neq x0.Cols x1.Cols)))) = true) (fRef r_i64 x1.Built), [], [(59, some 22), (4, none)], []⟩ ::
              ⟨Fact.when (((cmpI .eql o8 0) && (!(((cmpS .neq x0.Name x1.Name) || (cmpI .neq x0.Rows x1.Rows)) || (cmpI .neq x0.Cols x1.Cols)))) = true) (fV r_i64 x1.Built), [], [(59, some 22), (62, some 25)], []⟩ ::
              ⟨Fact.when (((cmpI .eql o8 0) && (!(((cmpS .neq x0.Name x1.Name) || (cmpI .neq x0.Rows x1.Rows)) || (cmpI .neq x0.Cols x1.Cols)))) = true) (fV Rep.bool (cmpI .neq x0.Built x1.Built)), [], [(59, some 22), (61, some 24), (63, some 26)], []⟩ ::
              ⟨Fact.when ((cmpI .eql o8 0) = true) (fV Rep.bool ((((cmpS .neq x0.Name x1.Name) || (cmpI .neq x0.Rows x1.Rows)) || (cmpI .neq x0.Cols x1.Cols)) || (cmpI .neq x0.Built x1.Built))), [], [(39, some 2), (59, some 22), (64, some 27)], []⟩ ::
              ⟨fV Rep.bool ((cmpI .eql o8 0) && ((((cmpS .neq x0.Name x1.Name) || (cmpI .neq x0.Rows x1.Rows)) || (cmpI .neq x0.Cols x1.Cols)) || (cmpI .neq x0.Built x1.Built))), [], [(39, some 2), (65, some 28)], []⟩ :: []) [3, 4, 5, 8, 9, 10, 66] [7] hAt
              ⟨ok_move rfl opd0,
              ok_cmp (op := .eql) (by simp) rfl rfl opd0 opdI,
              ok_move rfl opd0,
              obl_tt rfl rfl rfl rfl rfl rfl rfl (fun hg => ok_field GPanel.l0 fo24_0 rfl opd1),
              obl_tt rfl rfl rfl rfl rfl rfl rfl (fun hg => ok_load ty9 rfl (opd1.on hg)),
              obl_tt rfl rfl rfl rfl rfl rfl rfl (fun hg => ok_field GPanel.l0 fo24_0 rfl opd1),
              obl_tt rfl rfl rfl rfl rfl rfl rfl (fun hg => ok_load ty9 rfl (opd1.on hg)),
              obl_tt rfl rfl rfl rfl rfl rfl rfl (fun hg => ok_cmpS (op := .neq) (by simp) rfl rfl (opd1.on hg) (opd2.on hg)),
              obl_tt rfl rfl rfl rfl rfl rfl rfl (fun hg => ok_move rfl (opd1.on hg)),
              obl_wf rfl rfl rfl rfl rfl rfl rfl (fun hg => ok_field GPanel.l1 fo24_1 rfl opd1),
              obl_wf rfl rfl rfl rfl rfl rfl rfl (fun hg => ok_load ty3 rfl (opd1.on hg)),
              obl_wf rfl rfl rfl rfl rfl rfl rfl (fun hg => ok_field GPanel.l1 fo24_1 rfl opd1),
              obl_wf rfl rfl rfl rfl rfl rfl rfl (fun hg => ok_load ty3 rfl (opd1.on hg)),
              obl_wf rfl rfl rfl rfl rfl rfl rfl (fun hg => ok_cmp (op := .neq) (by simp) rfl rfl (opd1.on hg) (opd2.on hg)),
              obl_tt rfl rfl rfl rfl rfl rfl rfl (fun hg => ok_or rfl (opd1.on hg) (fun e => (opd2.on (andT hg (notT e))))),
              obl_tt rfl rfl rfl rfl rfl rfl rfl (fun hg => ok_move rfl (opd1.on hg)),
              obl_wf rfl rfl rfl rfl rfl rfl rfl (fun hg => ok_field GPanel.l2 fo24_2 rfl opd1),
              obl_wf rfl rfl rfl rfl rfl rfl rfl (fun hg => ok_load ty3 rfl (opd1.on hg)),
              obl_wf rfl rfl rfl rfl rfl rfl rfl (fun hg => ok_field GPanel.l2 fo24_2 rfl opd1),
              obl_wf rfl rfl rfl rfl rfl rfl rfl (fun hg => ok_load ty3 rfl (opd1.on hg)),
              obl_wf rfl rfl rfl rfl rfl rfl rfl (fun hg => ok_cmp (op := .neq) (by simp) rfl rfl (opd1.on hg) (opd2.on hg)),
              obl_tt rfl rfl rfl rfl rfl rfl rfl (fun hg => ok_or rfl (opd1.on hg) (fun e => (opd2.on (andT hg (notT e))))),
              obl_tt rfl rfl rfl rfl rfl rfl rfl (fun hg => ok_move rfl (opd1.on hg)),
              obl_wf rfl rfl rfl rfl rfl rfl rfl (fun hg => ok_field GPanel.l3 fo24_3 rfl opd1),
              obl_wf rfl rfl rfl rfl rfl rfl rfl (fun hg => ok_load ty3 rfl (opd1.on hg)),
              obl_wf rfl rfl rfl rfl rfl rfl rfl (fun hg => ok_field GPanel.l3 fo24_3 rfl opd1),
              obl_wf rfl rfl rfl rfl rfl rfl rfl (fun hg => ok_load ty3 rfl (opd1.on hg)),
              obl_wf rfl rfl rfl rfl rfl rfl rfl (fun hg => ok_cmp (op := .neq) (by simp) rfl rfl (opd1.on hg) (opd2.on hg)),
              obl_tt rfl rfl rfl rfl rfl rfl rfl (fun hg => ok_or rfl (opd1.on hg) (fun e => (opd2.on (andT hg (notT e))))),
              ok_and rfl opd0 (fun e => (opd1.on e)), trivial⟩ (by kernel_rfl) ?_
          clear hAt
          intro a w hAt
          replace hAt : At B h0 (mkG [(3, fRef GPanel.rep x0), (4, fRef GPanel.rep x1), (5, fRef GRule.rep x2), (8, fV Rep.bool v4.2.1), (9, fV r_i64 v4.2.2), (10, fV r_i64 o8), (66, fV Rep.bool ((cmpI .eql o8 0) && ((((cmpS .neq x0.Name x1.Name) || (cmpI .neq x0.Rows x1.Rows)) || (cmpI .neq x0.Cols x1.Cols)) || (cmpI .neq x0.Built x1.Built))))]) (mkO [(7, boxE 49 GRat.rep v4.1)]) F 104 a w := hAt
          refine then_n ?_
          refine wp_if hAt (by rfl) ?_ ?_
          · intro hb10
            have H := iteT hb10 H
            refine reg [⟨fV r_i64 11, [], [], []⟩] [3, 4, 5, 8, 9, 10] [7] hAt
                ⟨ok_assign rfl opdI, trivial⟩ (by kernel_rfl) ?_
            clear hAt
            intro a w hAt
            replace hAt : At B h0 (mkG [(3, fRef GPanel.rep x0), (4, fRef GPanel.rep x1), (5, fRef GRule.rep x2), (8, fV Rep.bool v4.2.1), (9, fV r_i64 v4.2.2), (10, fV r_i64 11)]) (mkO [(7, boxE 49 GRat.rep v4.1)]) F 104 a w := hAt
            cases H
            exact ⟨rfl, hAt.pick [3, 4, 5, 8, 9, 10] [7]⟩
          · intro hb10
            have H := iteF hb10 H
            refine wp_skip ?_
            cases H
            exact ⟨rfl, hAt.pick [3, 4, 5, 8, 9, 10] [7]⟩
        · clear hAt
          intro e a w hp
          obtain ⟨rfl, hAt⟩ := hp
          refine then_n ?_
          refine wp_seq ?_
          obtain ⟨o15, hl16, H⟩ := bindE H
          refine wp_mono (Q := (fun o e a w => (fun v => e = .normal ∧ At B h0 (mkG [(3, fRef GPanel.rep x0), (4, fRef GPanel.rep x1), (5, fRef GRule.rep x2), (8, fV Rep.bool v4.2.1), (9, fV r_i64 v4.2.2), (10, fV r_i64 v)]) (mkO [(7, boxE 49 GRat.rep v4.1)]) F 104 a w) o) o15) ?_ ?_
          · clear H
            have H := hl16
            clear hl16
            refine wp_seq ?_
            refine reg [⟨fV r_i64 o11, [], [(10, none)], []⟩,
                ⟨fV Rep.bool (cmpI .eql o11 0), [], [(67, some 0)], []⟩] [3, 4, 5, 8, 9, 10, 68] [7] hAt
                ⟨ok_move rfl opd0,
                ok_cmp (op := .eql) (by simp) rfl rfl opd0 opdI, trivial⟩ (by kernel_rfl) ?_
            clear hAt
            intro a w hAt
            replace hAt : At B h0 (mkG [(3, fRef GPanel.rep x0), (4, fRef GPanel.rep x1), (5, fRef GRule.rep x2), (8, fV Rep.bool v4.2.1), (9, fV r_i64 v4.2.2), (10, fV r_i64 o11), (68, fV Rep.bool (cmpI .eql o11 0))]) (mkO [(7, boxE 49 GRat.rep v4.1)]) F 104 a w := hAt
            refine then_n ?_
            refine wp_if hAt (by rfl) ?_ ?_
            · intro hb14
              have H := iteT hb14 H
              obtain ⟨v13, hv13, H⟩ := bindE H
              refine reg [⟨fV GRule.rep x2, [], [(5, none)], []⟩,
                  ⟨fV r_i64 v13, [], [(69, some 0)], []⟩,
                  ⟨fV r_i64 v13, [], [(70, some 1)], []⟩] [3, 4, 5, 8, 9, 10] [7] hAt
                  ⟨ok_load ty26 rfl opd0,
                  ok_call (ok_f_ref09_CheckRule N x2 _ hv13) Try.func39 (by kernel_rfl) (by kernel_rfl) rfl ⟨opd0, trivial⟩,
                  ok_assign rfl opd0, trivial⟩ (by kernel_rfl) ?_
              clear hAt
              intro a w hAt
              replace hAt : At B h0 (mkG [(3, fRef GPanel.rep x0), (4, fRef GPanel.rep x1), (5, fRef GRule.rep x2), (8, fV Rep.bool v4.2.1), (9, fV r_i64 v4.2.2), (10, fV r_i64 v13)]) (mkO [(7, boxE 49 GRat.rep v4.1)]) F 104 a w := hAt
              cases H
              exact ⟨rfl, hAt.pick [3, 4, 5, 8, 9, 10] [7]⟩
            · intro hb14
              have H := iteF hb14 H
              refine wp_skip ?_
              cases H
              exact ⟨rfl, hAt.pick [3, 4, 5, 8, 9, 10] [7]⟩
          · clear hAt
            intro e a w hp
            obtain ⟨rfl, hAt⟩ := hp
            refine then_n ?_
            refine wp_seq ?_
            refine wp_seq ?_
            refine reg [⟨fV r_i64 o15, [], [(10, none)], []⟩,
                ⟨fV Rep.bool (cmpI .neq o15 0), [], [(71, some 0)], []⟩] [3, 4, 5, 8, 9, 10, 72] [7] hAt
                ⟨ok_move rfl opd0,
                ok_cmp (op := .neq) (by simp) rfl rfl opd0 opdI, trivial⟩ (by kernel_rfl) ?_
            clear hAt
            intro a w hAt
            replace hAt : At B h0 (mkG [(3, fRef GPanel.rep x0), (4, fRef GPanel.rep x1), (5, fRef GRule.rep x2), (8, fV Rep.bool v4.2.1), (9, fV r_i64 v4.2.2), (10, fV r_i64 o15), (72, fV Rep.bool (cmpI .neq o15 0))]) (mkO [(7, boxE 49 GRat.rep v4.1)]) F 104 a w := hAt
            refine then_n ?_
            refine wp_if hAt (by rfl) ?_ ?_
            · intro hb20
              have H := iteT hb20 H
              refine wp_seq ?_
              obtain ⟨v17, hv17, H⟩ := bindE H
              refine reg [⟨fV r_i64 v4.2.2, [], [(9, none)], []⟩,
                  ⟨fV r_i64 o15, [], [(10, none)], []⟩,
                  ⟨fV Rep.bool (cmpI .eql v4.2.2 o15), [], [(73, some 0), (74, some 1)], []⟩,
                  ⟨fV Rep.bool (cmpI .eql v4.2.2 o15), [], [(75, some 2)], []⟩,
                  ⟨Fact.when ((cmpI .eql v4.2.2 o15) = true) (fV Rep.bool v4.2.1), [], [(76, some 3), (8, none)], []⟩,
                  ⟨Fact.when ((cmpI .eql v4.2.2 o15) = true) (fV Rep.bool (!v4.2.1)), [], [(76, some 3), (77, some 4)], []⟩,
                  ⟨fV Rep.bool ((cmpI .eql v4.2.2 o15) && (!v4.2.1)), [], [(76, some 3), (78, some 5)], []⟩,
                  ⟨fV Rep.bool ((cmpI .eql v4.2.2 o15) && (!v4.2.1)), [], [(79, some 6)], []⟩,
                  ⟨Fact.when (((cmpI .eql v4.2.2 o15) && (!v4.2.1)) = true) (fV GRat.rep v4.1), [], [(80, some 7)], [(7, none)]⟩,
                  ⟨Fact.when (((cmpI .eql v4.2.2 o15) && (!v4.2.1)) = true) (fV GRat.rep (⟨(⟨false, []⟩ : GInt), (⟨false, []⟩ : GInt)⟩ : GRat)), [], [(80, some 7)], []⟩,
                  ⟨Fact.when (((cmpI .eql v4.2.2 o15) && (!v4.2.1)) = true) (fV Rep.bool v17), [], [(80, some 7), (81, some 8), (82, some 9)], []⟩,
                  ⟨fV Rep.bool (((cmpI .eql v4.2.2 o15) && (!v4.2.1)) && v17), [], [(80, some 7), (83, some 10)], []⟩,
                  ⟨fV Rep.bool (((cmpI .eql v4.2.2 o15) && (!v4.2.1)) && v17), [], [(84, some 11)], []⟩] [6] [] hAt
                  ⟨ok_move rfl opd0,
                  ok_move rfl opd0,
                  ok_cmp (op := .eql) (by simp) rfl rfl opd0 opd1,
                  ok_move rfl opd0,
                  obl_tt rfl rfl rfl rfl rfl rfl rfl (fun hg => ok_move rfl opd1),
                  obl_tt rfl rfl rfl rfl rfl rfl rfl (fun hg => ok_not rfl (opd1.on hg)),
                  ok_and rfl opd0 (fun e => (opd1.on e)),
                  ok_move rfl opd0,
                  obl_tt rfl rfl rfl rfl rfl rfl rfl (fun hg => ok_loadBox ty49 rfl),
                  obl_tt rfl rfl rfl rfl rfl rfl rfl (fun hg => ok_build ty49 rfl pl49 rfl fillN),
                  obl_tt rfl rfl rfl rfl rfl rfl rfl (fun hg => ok_call (ok_f_base_SameRat N v4.1 (⟨(⟨false, []⟩ : GInt), (⟨false, []⟩ : GInt)⟩ : GRat) _ (iteT hg hv17)) Try.func30 (by kernel_rfl) (by kernel_rfl) rfl ⟨(opd1.on hg), ⟨(opd2.on hg), trivial⟩⟩),
                  ok_and rfl opd0 (fun e => (opd1.on e)),
                  ok_assign rfl opd0, trivial⟩ (by kernel_rfl) ?_
              clear hAt
              intro a w hAt
              replace hAt : At B h0 (mkG [(6, fV Rep.bool (((cmpI .eql v4.2.2 o15) && (!v4.2.1)) && v17))]) (mkO []) F 104 a w := hAt
              refine then_n ?_
              refine wp_ret ?_
              refine then_r ?_
              cases H
              exact ret1 rfl (rv_tmp rfl rfl) hAt
            · intro hb20
              have H := iteF hb20 H
              refine wp_skip ?_
              refine then_n ?_
              refine wp_seq ?_
              obtain ⟨v18, hv18, H⟩ := bindE H
              refine reg [⟨fV GPanel.rep x0, [], [(3, none)], []⟩,
                  ⟨fV GPanel.rep x1, [], [(4, none)], []⟩,
                  ⟨fV GRule.rep x2, [], [(5, none)], []⟩,
                  ⟨fT2 (fV GRat.rep v18.1) (fV Rep.bool v18.2), [], [(86, some 0), (87, some 1), (88, some 2)], []⟩,
                  ⟨fT2 (fV GRat.rep v18.1) (fV Rep.bool v18.2), [], [(89, some 3)], []⟩,
                  ⟨fV GRat.rep v18.1, [], [(85, some 4)], []⟩,
                  ⟨fV Rep.bool v18.2, [], [(85, some 4)], []⟩,
                  ⟨Fact.triv, [(11, some (boxE 49 GRat.rep (⟨(⟨false, []⟩ : GInt), (⟨false, []⟩ : GInt)⟩ : GRat)))], [], []⟩,
                  ⟨Fact.triv, [(11, some (boxE 49 GRat.rep v18.1))], [(90, some 5)], [(11, some 7)]⟩,
                  ⟨fV Rep.bool v18.2, [], [(91, some 6)], []⟩] [8, 9, 12] [7, 11] hAt
                  ⟨ok_load ty24 rfl opd0,
                  ok_load ty24 rfl opd0,
                  ok_load ty26 rfl opd0,
                  ok_call (ok_f_ref09_Remaining N x0 x1 x2 _ hv18) Try.func40 (by kernel_rfl) (by kernel_rfl) rfl ⟨opd0, ⟨opd1, ⟨opd2, trivial⟩⟩⟩,
                  ok_move rfl opd0,
                  ok_ext20 rfl rfl opd0,
                  ok_ext21 rfl rfl opd0,
                  ok_alloc ty49 rfl rfl,
                  ok_storeBox ty49 rfl rfl opd0,
                  ok_assign rfl opd0, trivial⟩ (by kernel_rfl) ?_
              clear hAt
              intro a w hAt
              replace hAt : At B h0 (mkG [(8, fV Rep.bool v4.2.1), (9, fV r_i64 v4.2.2), (12, fV Rep.bool v18.2)]) (mkO [(7, boxE 49 GRat.rep v4.1), (11, boxE 49 GRat.rep v18.1)]) F 104 a w := hAt
              refine then_n ?_
              refine wp_seq ?_
              obtain ⟨v19, hv19, H⟩ := bindE H
              refine reg [⟨fV r_i64 v4.2.2, [], [(9, none)], []⟩,
                  ⟨fV Rep.bool (cmpI .eql v4.2.2 0), [], [(92, some 0)], []⟩,
                  ⟨fV Rep.bool (cmpI .eql v4.2.2 0), [], [(93, some 1)], []⟩,
                  ⟨Fact.when ((cmpI .eql v4.2.2 0) = true) (fV Rep.bool v4.2.1), [], [(94, some 2), (8, none)], []⟩,
                  ⟨Fact.when ((cmpI .eql v4.2.2 0) = true) (fV Rep.bool v18.2), [], [(94, some 2), (12, none)], []⟩,
                  ⟨Fact.when ((cmpI .eql v4.2.2 0) = true) (fV Rep.bool (v4.2.1 == v18.2)), [], [(94, some 2), (95, some 3), (96, some 4)], []⟩,
                  ⟨fV Rep.bool ((cmpI .eql v4.2.2 0) && (v4.2.1 == v18.2)), [], [(94, some 2), (97, some 5)], []⟩,
                  ⟨fV Rep.bool ((cmpI .eql v4.2.2 0) && (v4.2.1 == v18.2)), [], [(98, some 6)], []⟩,
                  ⟨Fact.when (((cmpI .eql v4.2.2 0) && (v4.2.1 == v18.2)) = true) (fV GRat.rep v4.1), [], [(99, some 7)], [(7, none)]⟩,
                  ⟨Fact.when (((cmpI .eql v4.2.2 0) && (v4.2.1 == v18.2)) = true) (fV GRat.rep v18.1), [], [(99, some 7)], [(11, none)]⟩,
                  ⟨Fact.when (((cmpI .eql v4.2.2 0) && (v4.2.1 == v18.2)) = true) (fV Rep.bool v19), [], [(99, some 7), (100, some 8), (101, some 9)], []⟩,
                  ⟨fV Rep.bool (((cmpI .eql v4.2.2 0) && (v4.2.1 == v18.2)) && v19), [], [(99, some 7), (102, some 10)], []⟩,
                  ⟨fV Rep.bool (((cmpI .eql v4.2.2 0) && (v4.2.1 == v18.2)) && v19), [], [(103, some 11)], []⟩] [6] [] hAt
                  ⟨ok_move rfl opd0,
                  ok_cmp (op := .eql) (by simp) rfl rfl opd0 opdI,
                  ok_move rfl opd0,
                  obl_tt rfl rfl rfl rfl rfl rfl rfl (fun hg => ok_move rfl opd1),
                  obl_tt rfl rfl rfl rfl rfl rfl rfl (fun hg => ok_move rfl opd1),
                  obl_tt rfl rfl rfl rfl rfl rfl rfl (fun hg => ok_eqB un4 rfl (opd1.on hg) (opd2.on hg)),
                  ok_and rfl opd0 (fun e => (opd1.on e)),
                  ok_move rfl opd0,
                  obl_tt rfl rfl rfl rfl rfl rfl rfl (fun hg => ok_loadBox ty49 rfl),
                  obl_tt rfl rfl rfl rfl rfl rfl rfl (fun hg => ok_loadBox ty49 rfl),
                  obl_tt rfl rfl rfl rfl rfl rfl rfl (fun hg => ok_call (ok_f_base_SameRat N v4.1 v18.1 _ (iteT hg hv19)) Try.func30 (by kernel_rfl) (by kernel_rfl) rfl ⟨(opd1.on hg), ⟨(opd2.on hg), trivial⟩⟩),
                  ok_and rfl opd0 (fun e => (opd1.on e)),
                  ok_assign rfl opd0, trivial⟩ (by kernel_rfl) ?_
              clear hAt
              intro a w hAt
              replace hAt : At B h0 (mkG [(6, fV Rep.bool (((cmpI .eql v4.2.2 0) && (v4.2.1 == v18.2)) && v19))]) (mkO []) F 104 a w := hAt
              refine then_n ?_
              refine wp_ret ?_
              cases H
              exact ret1 rfl (rv_tmp rfl rfl) hAt
end Go.KB
