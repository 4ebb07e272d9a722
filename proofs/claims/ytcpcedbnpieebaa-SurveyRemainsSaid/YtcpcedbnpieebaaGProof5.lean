/- The Go functions compute what the plain functions compute. Printed by a program. No condition. -/
import Derived.Test.YtcpcedbnpieebaaGProof4
namespace Go.KB
open Go.Proofs
set_option maxRecDepth 100000
set_option linter.unusedVariables false
theorem ok_f_survey_Remaining (N : Nat) (x0 : GPanel) (x1 : GPanel) (x2 : GRule) (r : GRat × Bool × Int) (H : f_survey_Remaining N x0 x1 x2 = some r) : FnOk Try.prog 38 [fV GPanel.rep x0, fV GPanel.rep x1, fV GRule.rep x2] (fT3 (fV GRat.rep (r.1)) (fV Rep.bool (r.2.1)) (fV r_i64 (r.2.2))) := by
  unfold f_survey_Remaining at H
  refine fn_enter Try.func38 rfl rfl (by kernel_rfl) ?_
  intro κ B h0 F a w hAt
  refine wp_seq ?_
  refine reg [⟨fRef GPanel.rep x0, [], [(0, none)], []⟩,
      ⟨fRef GPanel.rep x1, [], [(1, none)], []⟩,
      ⟨fRef GRule.rep x2, [], [(2, none)], []⟩,
      ⟨Fact.triv, [(6, some (boxE 49 GRat.rep (⟨(⟨false, []⟩ : GInt), (⟨false, []⟩ : GInt)⟩ : GRat)))], [], []⟩,
      ⟨fV Rep.bool false, [], [], []⟩,
      ⟨fV r_i64 0, [], [], []⟩] [3, 4, 5] [6] hAt
      ⟨ok_box rfl opd0,
      ok_box rfl opd0,
      ok_box rfl opd0,
      ok_alloc ty49 rfl rfl,
      ok_assign rfl opdB,
      ok_assign rfl opdI, trivial⟩ (by kernel_rfl) ?_
  clear hAt
  intro a w hAt
  replace hAt : At B h0 (mkG [(3, fRef GPanel.rep x0), (4, fRef GPanel.rep x1), (5, fRef GRule.rep x2)]) (mkO [(6, boxE 49 GRat.rep (⟨(⟨false, []⟩ : GInt), (⟨false, []⟩ : GInt)⟩ : GRat))]) F 121 a w := hAt
  refine then_n ?_
  refine wp_seq ?_
  refine wp_seq ?_
  refine reg [⟨fV GPanel.rep x0, [], [(3, none)], []⟩,
      ⟨fV GPanel.rep x1, [], [(4, none)], []⟩,
      ⟨fV (Rep.slice GPanel.rep) [x0, x1], [], [(19, some 0), (20, some 1)], []⟩,
      ⟨fV r_i64 (List.length [x0, x1] : Int), [], [(21, some 2)], []⟩,
      ⟨fV r_i64 0, [], [], []⟩] [3, 4, 5, 21, 22, 23] [6] hAt
      ⟨ok_load ty24 rfl opd0,
      ok_load ty24 rfl opd0,
      ok_buildSlice ty24 un142 rfl rfl (fillC (Lens.arr _ _ 0 (by decide)) rfl opd0 (fillC (Lens.arr _ _ 1 (by decide)) rfl opd1 fillN)),
      ok_len un142 rfl opd0,
      ok_move rfl opdI, trivial⟩ (by kernel_rfl) ?_
  clear hAt
  intro a w hAt
  replace hAt : At B h0 (mkG [(3, fRef GPanel.rep x0), (4, fRef GPanel.rep x1), (5, fRef GRule.rep x2), (21, fV (Rep.slice GPanel.rep) [x0, x1]), (22, fV r_i64 (List.length [x0, x1] : Int)), (23, fV r_i64 0)]) (mkO [(6, boxE 49 GRat.rep (⟨(⟨false, []⟩ : GInt), (⟨false, []⟩ : GInt)⟩ : GRat))]) F 121 a w := hAt
  refine then_n ?_
  refine wp_block ?_
  obtain ⟨o6, hl7, H⟩ := bindE H
  refine wp_mono (wp_loopN (f := f_survey_Remaining_L2 N x0 x1) (fun (s1 : (GRat × Int)) a w => At B h0 (mkG [(3, fRef GPanel.rep x0), (4, fRef GPanel.rep x1), (5, fRef GRule.rep x2), (21, fV (Rep.slice GPanel.rep) [x0, x1]), (22, fV r_i64 (List.length [x0, x1] : Int)), (23, fV r_i64 s1.2)]) (mkO [(6, boxE 49 GRat.rep s1.1)]) F 121 a w) (fun o e a w => (Sum.elim (fun v => e = .exit 0 ∧ At B h0 (mkG [(3, fRef GPanel.rep x0), (4, fRef GPanel.rep x1), (5, fRef GRule.rep x2)]) (mkO [(6, boxE 49 GRat.rep v)]) F 121 a w) (fun v => e = .ret ∧ At B h0 (mkG [(7, fV Rep.bool v.2.1), (8, fV r_i64 v.2.2)]) (mkO [(6, boxE 49 GRat.rep v.1)]) F 121 a w)) o) ?_ N ((⟨(⟨false, []⟩ : GInt), (⟨false, []⟩ : GInt)⟩ : GRat), 0) o6 _ _ hl7 ?_) ?_
  · clear H hAt hl7
    intro s1 r25 a w H hAt
    unfold f_survey_Remaining_L2 at H
    refine wp_seq ?_
    refine reg [⟨fV Rep.bool (cmpI .lss s1.2 (List.length [x0, x1] : Int)), [], [(23, none), (22, none)], []⟩] [3, 4, 5, 21, 22, 23, 24] [6] hAt
        ⟨ok_cmp (op := .lss) (by simp) rfl rfl opd0 opd1, trivial⟩ (by kernel_rfl) ?_
    clear hAt
    intro a w hAt
    replace hAt : At B h0 (mkG [(3, fRef GPanel.rep x0), (4, fRef GPanel.rep x1), (5, fRef GRule.rep x2), (21, fV (Rep.slice GPanel.rep) [x0, x1]), (22, fV r_i64 (List.length [x0, x1] : Int)), (23, fV r_i64 s1.2), (24, fV Rep.bool (cmpI .lss s1.2 (List.length [x0, x1] : Int)))]) (mkO [(6, boxE 49 GRat.rep s1.1)]) F 121 a w := hAt
    refine then_n ?_
    refine wp_seq ?_
    refine wp_if hAt (by rfl) ?_ ?_
    · intro hb5
      have H := iteT hb5 H
      refine wp_skip ?_
      refine then_n ?_
      refine wp_seq ?_
      refine wp_block ?_
      refine wp_seq ?_
      obtain ⟨v2, hv2, H⟩ := bindE H
      refine reg [⟨fRef GPanel.rep v2, [], [(21, none), (23, none)], []⟩,
          ⟨fV GPanel.rep v2, [], [(25, some 0)], []⟩,
          ⟨Fact.triv, [(10, some (boxE 24 GPanel.rep (⟨[], 0, 0, 0, []⟩ : GPanel)))], [], []⟩,
          ⟨Fact.triv, [(10, some (boxE 24 GPanel.rep v2))], [(26, some 1)], [(10, some 2)]⟩] [3, 4, 5, 21, 22, 23] [6, 10] hAt
          ⟨ok_index ty24 un142 hv2 rfl opd0 opd1,
          ok_load ty24 rfl opd0,
          ok_alloc ty24 rfl rfl,
          ok_storeBox ty24 rfl rfl opd0, trivial⟩ (by kernel_rfl) ?_
      clear hAt
      intro a w hAt
      replace hAt : At B h0 (mkG [(3, fRef GPanel.rep x0), (4, fRef GPanel.rep x1), (5, fRef GRule.rep x2), (21, fV (Rep.slice GPanel.rep) [x0, x1]), (22, fV r_i64 (List.length [x0, x1] : Int)), (23, fV r_i64 s1.2)]) (mkO [(6, boxE 49 GRat.rep s1.1), (10, boxE 24 GPanel.rep v2)]) F 121 a w := hAt
      refine then_n ?_
      refine wp_seq ?_
      obtain ⟨v3, hv3, H⟩ := bindE H
      refine reg [⟨fV GPanel.rep v2, [], [], [(10, none)]⟩,
          ⟨fV r_i64 v3, [], [(27, some 0)], []⟩,
          ⟨fV r_i64 v3, [], [(28, some 1)], []⟩] [3, 4, 5, 11, 21, 22, 23] [6] hAt
          ⟨ok_loadBox ty24 rfl,
          ok_call (ok_f_survey_CheckPanel N v2 _ hv3) Try.func19 (by kernel_rfl) (by kernel_rfl) rfl ⟨opd0, trivial⟩,
          ok_assign rfl opd0, trivial⟩ (by kernel_rfl) ?_
      clear hAt
      intro a w hAt
      replace hAt : At B h0 (mkG [(3, fRef GPanel.rep x0), (4, fRef GPanel.rep x1), (5, fRef GRule.rep x2), (11, fV r_i64 v3), (21, fV (Rep.slice GPanel.rep) [x0, x1]), (22, fV r_i64 (List.length [x0, x1] : Int)), (23, fV r_i64 s1.2)]) (mkO [(6, boxE 49 GRat.rep s1.1)]) F 121 a w := hAt
      refine then_n ?_
      refine wp_seq ?_
      refine reg [⟨fV r_i64 v3, [], [(11, none)], []⟩,
          ⟨fV Rep.bool (cmpI .neq v3 0), [], [(29, some 0)], []⟩] [3, 4, 5, 11, 21, 22, 23, 30] [6] hAt
          ⟨ok_move rfl opd0,
          ok_cmp (op := .neq) (by simp) rfl rfl opd0 opdI, trivial⟩ (by kernel_rfl) ?_
      clear hAt
      intro a w hAt
      replace hAt : At B h0 (mkG [(3, fRef GPanel.rep x0), (4, fRef GPanel.rep x1), (5, fRef GRule.rep x2), (11, fV r_i64 v3), (21, fV (Rep.slice GPanel.rep) [x0, x1]), (22, fV r_i64 (List.length [x0, x1] : Int)), (23, fV r_i64 s1.2), (30, fV Rep.bool (cmpI .neq v3 0))]) (mkO [(6, boxE 49 GRat.rep s1.1)]) F 121 a w := hAt
      refine then_n ?_
      refine wp_if hAt (by rfl) ?_ ?_
      · intro hb4
        have H := iteT hb4 H
        refine wp_seq ?_
        refine reg [⟨fV GRat.rep (⟨(⟨false, []⟩ : GInt), (⟨false, []⟩ : GInt)⟩ : GRat), [], [], []⟩,
            ⟨fV r_i64 v3, [], [(11, none)], []⟩,
            ⟨Fact.triv, [(6, some (boxE 49 GRat.rep (⟨(⟨false, []⟩ : GInt), (⟨false, []⟩ : GInt)⟩ : GRat)))], [(31, some 0)], [(6, none)]⟩,
            ⟨fV Rep.bool false, [], [], []⟩,
            ⟨fV r_i64 v3, [], [(32, some 1)], []⟩] [7, 8] [6] hAt
            ⟨ok_build ty49 rfl pl49 rfl fillN,
            ok_move rfl opd0,
            ok_storeBox ty49 rfl rfl opd0,
            ok_assign rfl opdB,
            ok_assign rfl opd0, trivial⟩ (by kernel_rfl) ?_
        clear hAt
        intro a w hAt
        replace hAt : At B h0 (mkG [(7, fV Rep.bool false), (8, fV r_i64 v3)]) (mkO [(6, boxE 49 GRat.rep (⟨(⟨false, []⟩ : GInt), (⟨false, []⟩ : GInt)⟩ : GRat))]) F 121 a w := hAt
        refine then_n ?_
        refine wp_ret ?_
        refine blk_r ?_
        refine then_r ?_
        cases H
        exact ⟨ret_ne, rfl, hAt.pick [7, 8] [6]⟩
      · intro hb4
        have H := iteF hb4 H
        refine wp_skip ?_
        refine blk_n ?_
        refine then_n ?_
        refine reg [⟨fV r_i64 (IntKind.i64.wrap (s1.2 + 1)), [], [(23, none)], []⟩,
            ⟨fV r_i64 (IntKind.i64.wrap (s1.2 + 1)), [], [(33, some 0)], []⟩] [3, 4, 5, 21, 22, 23] [6] hAt
            ⟨ok_add rfl opd0 opdI,
            ok_move rfl opd0, trivial⟩ (by kernel_rfl) ?_
        clear hAt
        intro a w hAt
        replace hAt : At B h0 (mkG [(3, fRef GPanel.rep x0), (4, fRef GPanel.rep x1), (5, fRef GRule.rep x2), (21, fV (Rep.slice GPanel.rep) [x0, x1]), (22, fV r_i64 (List.length [x0, x1] : Int)), (23, fV r_i64 (IntKind.i64.wrap (s1.2 + 1)))]) (mkO [(6, boxE 49 GRat.rep s1.1)]) F 121 a w := hAt
        cases H
        exact ⟨rfl, hAt.pick [3, 4, 5, 21, 22, 23] [6]⟩
    · intro hb5
      have H := iteF hb5 H
      refine wp_exit ?_
      refine then_x ?_
      cases H
      exact ⟨ex_ne, rfl, hAt.pick [3, 4, 5] [6]⟩
  · exact hAt.pick [3, 4, 5, 21, 22, 23] [6]
  · clear hAt
    intro e a w hp
    cases o6 with
    | inl l8 =>
      rw [Sum.elim_inl] at H
      obtain ⟨rfl, hAt⟩ := hp
      refine blk_eq ?_
      refine then_n ?_
      refine wp_seq ?_
      refine wp_seq ?_
      refine reg [⟨fRef Rep.str x0.Name, [], [(3, none)], []⟩,
          ⟨fV Rep.str x0.Name, [], [(34, some 0)], []⟩,
          ⟨fRef Rep.str x1.Name, [], [(4, none)], []⟩,
          ⟨fV Rep.str x1.Name, [], [(36, some 2)], []⟩,
          ⟨fV Rep.bool (cmpS .neq x0.Name x1.Name), [], [(35, some 1), (37, some 3)], []⟩,
          ⟨fV Rep.bool (cmpS .neq x0.Name x1.Name), [], [(38, some 4)], []⟩,
          ⟨Fact.when ((!(cmpS .neq x0.Name x1.Name)) = true) (fRef r_i64 x0.Rows), [], [(39, some 5), (3, none)], []⟩,
          ⟨Fact.when ((!(cmpS .neq x0.Name x1.Name)) = true) (fV r_i64 x0.Rows), [], [(39, some 5), (40, some 6)], []⟩,
          ⟨Fact.when ((!(cmpS .neq x0.Name x1.Name)) = true) (fRef r_i64 x1.Rows), [], [(39, some 5), (4, none)], []⟩,
          ⟨Fact.when ((!(cmpS .neq x0.Name x1.Name)) = true) (fV r_i64 x1.Rows), [], [(39, some 5), (42, some 8)], []⟩,
          ⟨Fact.when ((!(cmpS .neq x0.Name x1.Name)) = true) (fV Rep.bool (cmpI .neq x0.Rows x1.Rows)), [], [(39, some 5), (41, some 7), (43, some 9)], []⟩,
          ⟨fV Rep.bool ((cmpS .neq x0.Name x1.Name) || (cmpI .neq x0.Rows x1.Rows)), [], [(39, some 5), (44, some 10)], []⟩,
          ⟨fV Rep.bool ((cmpS .neq x0.Name x1.Name) || (cmpI .neq x0.Rows x1.Rows)), [], [(45, some 11)], []⟩,
          ⟨Fact.when ((!((cmpS .neq x0.Name x1.Name) || (cmpI .neq x0.Rows x1.Rows))) = true) (fRef r_i64 x0.Cols), [], [(46, some 12), (3, none)], []⟩,
          ⟨Fact.when ((!((cmpS .neq x0.Name x1.Name) || (cmpI .neq x0.Rows x1.Rows))) = true) (fV r_i64 x0.Cols), [], [(46, some 12), (47, some 13)], []⟩,
          ⟨Fact.when ((!((cmpS .neq x0.Name x1.Name) || (cmpI .neq x0.Rows x1.Rows))) = true) (fRef r_i64 x1.Cols), [], [(46, some 12), (4, none)], []⟩,
          ⟨Fact.when ((!((cmpS .neq x0.Name x1.Name) || (cmpI .neq x0.Rows x1.Rows))) = true) (fV r_i64 x1.Cols), [], [(46, some 12), (49, some 15)], []⟩,
          ⟨Fact.when ((!((cmpS .neq x0.Name x1.Name) || (cmpI .neq x0.Rows x1.Rows))) = true) (fV Rep.bool (cmpI .neq x0.Cols x1.Cols)), [], [(46, some 12), (48, some 14), (50, some 16)], []⟩,
          ⟨fV Rep.bool (((cmpS .neq x0.Name x1.Name) || (cmpI .neq x0.Rows x1.Rows)) || (cmpI .neq x0.Cols x1.Cols)), [], [(46, some 12), (51, some 17)], []⟩,
          ⟨fV Rep.bool (((cmpS .neq x0.Name x1.Name) || (cmpI .neq x0.Rows x1.Rows)) || (cmpI .neq x0.Cols x1.Cols)), [], [(52, some 18)], []⟩,
          ⟨Fact.when ((!(((cmpS .neq x0.Name x1.Name) || (cmpI .neq x0.Rows x1.Rows)) || (cmpI .neq x0.Cols x1.Cols))) = true) (fRef r_i64 x0.Built), [], [(53, some 19), (3, none)], []⟩,
          ⟨Fact.when ((!(((cmpS .neq x0.Name x1.Name) || (cmpI .neq x0.Rows x1.Rows)) || (cmpI .neq x0.Cols x1.Cols))) = true) (fV r_i64 x0.Built), [], [(53, some 19), (54, some 20)], []⟩,
          ⟨Fact.when ((!(((cmpS .neq x0.Name x1.Name) || (cmpI .neq x0.Rows x1.Rows)) || (cmpI .neq x0.Cols x1.Cols))) = true) (fRef r_i64 x1.Built), [], [(53, some 19), (4, none)], []⟩,
          ⟨Fact.when ((!(((cmpS .neq x0.Name x1.Name) || (cmpI .neq x0.Rows x1.Rows)) || (cmpI .neq x0.Cols x1.Cols))) = true) (fV r_i64 x1.Built), [], [(53, some 19), (56, some 22)], []⟩,
          ⟨Fact.when ((!(((cmpS .neq x0.Name x1.Name) || (cmpI .neq x0.Rows x1.Rows)) || (cmpI .neq x0.Cols x1.Cols))) = true) (fV Rep.bool (cmpI .neq x0.Built x1.Built)), [], [(53, some 19), (55, some 21), (57, some 23)], []⟩,
          ⟨fV Rep.bool ((((cmpS .neq x0.Name x1.Name) || (cmpI .neq x0.Rows x1.Rows)) || (cmpI .neq x0.Cols x1.Cols)) || (cmpI .neq x0.Built x1.Built)), [], [(53, some 19), (58, some 24)], []⟩] [3, 4, 5, 59] [6] hAt
          ⟨ok_field GPanel.l0 fo24_0 rfl opd0,
          ok_load ty9 rfl opd0,
          ok_field GPanel.l0 fo24_0 rfl opd0,
          ok_load ty9 rfl opd0,
          ok_cmpS (op := .neq) (by simp) rfl rfl opd0 opd1,
          ok_move rfl opd0,
          obl_tf rfl rfl rfl rfl rfl rfl rfl (fun hg => ok_field GPanel.l1 fo24_1 rfl opd1),
          obl_tf rfl rfl rfl rfl rfl rfl rfl (fun hg => ok_load ty3 rfl (opd1.on hg)),
          obl_tf rfl rfl rfl rfl rfl rfl rfl (fun hg => ok_field GPanel.l1 fo24_1 rfl opd1),
          obl_tf rfl rfl rfl rfl rfl rfl rfl (fun hg => ok_load ty3 rfl (opd1.on hg)),
          obl_tf rfl rfl rfl rfl rfl rfl rfl (fun hg => ok_cmp (op := .neq) (by simp) rfl rfl (opd1.on hg) (opd2.on hg)),
          ok_or rfl opd0 (fun e => (opd1.on (notT e))),
          ok_move rfl opd0,
          obl_tf rfl rfl rfl rfl rfl rfl rfl (fun hg => ok_field GPanel.l2 fo24_2 rfl opd1),
          obl_tf rfl rfl rfl rfl rfl rfl rfl (fun hg => ok_load ty3 rfl (opd1.on hg)),
          obl_tf rfl rfl rfl rfl rfl rfl rfl (fun hg => ok_field GPanel.l2 fo24_2 rfl opd1),
          obl_tf rfl rfl rfl rfl rfl rfl rfl (fun hg => ok_load ty3 rfl (opd1.on hg)),
          obl_tf rfl rfl rfl rfl rfl rfl rfl (fun hg => ok_cmp (op := .neq) (by simp) rfl rfl (opd1.on hg) (opd2.on hg)),
          ok_or rfl opd0 (fun e => (opd1.on (notT e))),
          ok_move rfl opd0,
          obl_tf rfl rfl rfl rfl rfl rfl rfl (fun hg => ok_field GPanel.l3 fo24_3 rfl opd1),
          obl_tf rfl rfl rfl rfl rfl rfl rfl (fun hg => ok_load ty3 rfl (opd1.on hg)),
          obl_tf rfl rfl rfl rfl rfl rfl rfl (fun hg => ok_field GPanel.l3 fo24_3 rfl opd1),
          obl_tf rfl rfl rfl rfl rfl rfl rfl (fun hg => ok_load ty3 rfl (opd1.on hg)),
          obl_tf rfl rfl rfl rfl rfl rfl rfl (fun hg => ok_cmp (op := .neq) (by simp) rfl rfl (opd1.on hg) (opd2.on hg)),
          ok_or rfl opd0 (fun e => (opd1.on (notT e))), trivial⟩ (by kernel_rfl) ?_
      clear hAt
      intro a w hAt
      replace hAt : At B h0 (mkG [(3, fRef GPanel.rep x0), (4, fRef GPanel.rep x1), (5, fRef GRule.rep x2), (59, fV Rep.bool ((((cmpS .neq x0.Name x1.Name) || (cmpI .neq x0.Rows x1.Rows)) || (cmpI .neq x0.Cols x1.Cols)) || (cmpI .neq x0.Built x1.Built)))]) (mkO [(6, boxE 49 GRat.rep l8)]) F 121 a w := hAt
      refine then_n ?_
      refine wp_if hAt (by rfl) ?_ ?_
      · intro hb24
        have H := iteT hb24 H
        refine wp_seq ?_
        refine reg [⟨fV GRat.rep (⟨(⟨false, []⟩ : GInt), (⟨false, []⟩ : GInt)⟩ : GRat), [], [], []⟩,
            ⟨Fact.triv, [(6, some (boxE 49 GRat.rep (⟨(⟨false, []⟩ : GInt), (⟨false, []⟩ : GInt)⟩ : GRat)))], [(60, some 0)], [(6, none)]⟩,
            ⟨fV Rep.bool false, [], [], []⟩,
            ⟨fV r_i64 11, [], [], []⟩] [7, 8] [6] hAt
            ⟨ok_build ty49 rfl pl49 rfl fillN,
            ok_storeBox ty49 rfl rfl opd0,
            ok_assign rfl opdB,
            ok_assign rfl opdI, trivial⟩ (by kernel_rfl) ?_
        clear hAt
        intro a w hAt
        replace hAt : At B h0 (mkG [(7, fV Rep.bool false), (8, fV r_i64 11)]) (mkO [(6, boxE 49 GRat.rep (⟨(⟨false, []⟩ : GInt), (⟨false, []⟩ : GInt)⟩ : GRat))]) F 121 a w := hAt
        refine then_n ?_
        refine wp_ret ?_
        refine then_r ?_
        cases H
        exact ret3 rfl (rv_cell ty49 rfl) (rv_tmp rfl rfl) (rv_tmp rfl rfl) hAt
      · intro hb24
        have H := iteF hb24 H
        refine wp_skip ?_
        refine then_n ?_
        refine wp_seq ?_
        refine wp_seq ?_
        obtain ⟨v10, hv10, H⟩ := bindE H
        refine reg [⟨fV GRule.rep x2, [], [(5, none)], []⟩,
            ⟨fV r_i64 v10, [], [(61, some 0)], []⟩,
            ⟨fV r_i64 v10, [], [(62, some 1)], []⟩] [3, 4, 5, 12] [6] hAt
            ⟨ok_load ty26 rfl opd0,
            ok_call (ok_f_survey_checkRule N x2 _ hv10) Try.func66 (by kernel_rfl) (by kernel_rfl) rfl ⟨opd0, trivial⟩,
            ok_assign rfl opd0, trivial⟩ (by kernel_rfl) ?_
        clear hAt
        intro a w hAt
        replace hAt : At B h0 (mkG [(3, fRef GPanel.rep x0), (4, fRef GPanel.rep x1), (5, fRef GRule.rep x2), (12, fV r_i64 v10)]) (mkO [(6, boxE 49 GRat.rep l8)]) F 121 a w := hAt
        refine then_n ?_
        refine wp_seq ?_
        refine reg [⟨fV r_i64 v10, [], [(12, none)], []⟩,
            ⟨fV Rep.bool (cmpI .neq v10 0), [], [(63, some 0)], []⟩] [3, 4, 5, 12, 64] [6] hAt
            ⟨ok_move rfl opd0,
            ok_cmp (op := .neq) (by simp) rfl rfl opd0 opdI, trivial⟩ (by kernel_rfl) ?_
        clear hAt
        intro a w hAt
        replace hAt : At B h0 (mkG [(3, fRef GPanel.rep x0), (4, fRef GPanel.rep x1), (5, fRef GRule.rep x2), (12, fV r_i64 v10), (64, fV Rep.bool (cmpI .neq v10 0))]) (mkO [(6, boxE 49 GRat.rep l8)]) F 121 a w := hAt
        refine then_n ?_
        refine wp_if hAt (by rfl) ?_ ?_
        · intro hb23
          have H := iteT hb23 H
          refine wp_seq ?_
          refine reg [⟨fV GRat.rep (⟨(⟨false, []⟩ : GInt), (⟨false, []⟩ : GInt)⟩ : GRat), [], [], []⟩,
              ⟨fV r_i64 v10, [], [(12, none)], []⟩,
              ⟨Fact.triv, [(6, some (boxE 49 GRat.rep (⟨(⟨false, []⟩ : GInt), (⟨false, []⟩ : GInt)⟩ : GRat)))], [(65, some 0)], [(6, none)]⟩,
              ⟨fV Rep.bool false, [], [], []⟩,
              ⟨fV r_i64 v10, [], [(66, some 1)], []⟩] [7, 8] [6] hAt
              ⟨ok_build ty49 rfl pl49 rfl fillN,
              ok_move rfl opd0,
              ok_storeBox ty49 rfl rfl opd0,
              ok_assign rfl opdB,
              ok_assign rfl opd0, trivial⟩ (by kernel_rfl) ?_
          clear hAt
          intro a w hAt
          replace hAt : At B h0 (mkG [(7, fV Rep.bool false), (8, fV r_i64 v10)]) (mkO [(6, boxE 49 GRat.rep (⟨(⟨false, []⟩ : GInt), (⟨false, []⟩ : GInt)⟩ : GRat))]) F 121 a w := hAt
          refine then_n ?_
          refine wp_ret ?_
          refine then_r ?_
          cases H
          exact ret3 rfl (rv_cell ty49 rfl) (rv_tmp rfl rfl) (rv_tmp rfl rfl) hAt
        · intro hb23
          have H := iteF hb23 H
          refine wp_skip ?_
          refine then_n ?_
          refine wp_seq ?_
          refine reg [⟨Fact.triv, [(13, some (boxE 49 GRat.rep (⟨(⟨false, []⟩ : GInt), (⟨false, []⟩ : GInt)⟩ : GRat)))], [], []⟩] [3, 4, 5] [6, 13] hAt
              ⟨ok_alloc ty49 rfl rfl, trivial⟩ (by kernel_rfl) ?_
          clear hAt
          intro a w hAt
          replace hAt : At B h0 (mkG [(3, fRef GPanel.rep x0), (4, fRef GPanel.rep x1), (5, fRef GRule.rep x2)]) (mkO [(6, boxE 49 GRat.rep l8), (13, boxE 49 GRat.rep (⟨(⟨false, []⟩ : GInt), (⟨false, []⟩ : GInt)⟩ : GRat))]) F 121 a w := hAt
          refine then_n ?_
          refine wp_seq ?_
          refine reg [⟨fV Rep.bool false, [], [], []⟩] [3, 4, 5, 14] [6, 13] hAt
              ⟨ok_assign rfl opdB, trivial⟩ (by kernel_rfl) ?_
          clear hAt
          intro a w hAt
          replace hAt : At B h0 (mkG [(3, fRef GPanel.rep x0), (4, fRef GPanel.rep x1), (5, fRef GRule.rep x2), (14, fV Rep.bool false)]) (mkO [(6, boxE 49 GRat.rep l8), (13, boxE 49 GRat.rep (⟨(⟨false, []⟩ : GInt), (⟨false, []⟩ : GInt)⟩ : GRat))]) F 121 a w := hAt
          refine then_n ?_
          refine wp_seq ?_
          refine wp_seq ?_
          refine reg [⟨fRef (Rep.slice r_i64) x1.Readings, [], [(4, none)], []⟩,
              ⟨fV (Rep.slice r_i64) x1.Readings, [], [(67, some 0)], []⟩,
              ⟨fV r_i64 (List.length x1.Readings : Int), [], [(68, some 1)], []⟩,
              ⟨fV r_i64 0, [], [], []⟩] [3, 4, 5, 14, 68, 69, 70] [6, 13] hAt
              ⟨ok_field GPanel.l4 fo24_4 rfl opd0,
              ok_load ty22 rfl opd0,
              ok_len un22 rfl opd0,
              ok_move rfl opdI, trivial⟩ (by kernel_rfl) ?_
          clear hAt
          intro a w hAt
          replace hAt : At B h0 (mkG [(3, fRef GPanel.rep x0), (4, fRef GPanel.rep x1), (5, fRef GRule.rep x2), (14, fV Rep.bool false), (68, fV (Rep.slice r_i64) x1.Readings), (69, fV r_i64 (List.length x1.Readings : Int)), (70, fV r_i64 0)]) (mkO [(6, boxE 49 GRat.rep l8), (13, boxE 49 GRat.rep (⟨(⟨false, []⟩ : GInt), (⟨false, []⟩ : GInt)⟩ : GRat))]) F 121 a w := hAt
          refine then_n ?_
          refine wp_block ?_
          obtain ⟨o20, hl21, H⟩ := bindE H
          refine wp_mono (wp_loopN (f := f_survey_Remaining_L1 N x0 x1 x2) (fun (s11 : (GRat × Bool × Int)) a w => At B h0 (mkG [(3, fRef GPanel.rep x0), (4, fRef GPanel.rep x1), (5, fRef GRule.rep x2), (14, fV Rep.bool s11.2.1), (68, fV (Rep.slice r_i64) x1.Readings), (69, fV r_i64 (List.length x1.Readings : Int)), (70, fV r_i64 s11.2.2)]) (mkO [(6, boxE 49 GRat.rep l8), (13, boxE 49 GRat.rep s11.1)]) F 121 a w) (fun o e a w => (fun v => e = .exit 2 ∧ At B h0 (mkG [(14, fV Rep.bool v.2)]) (mkO [(6, boxE 49 GRat.rep l8), (13, boxE 49 GRat.rep v.1)]) F 121 a w) o) ?_ N ((⟨(⟨false, []⟩ : GInt), (⟨false, []⟩ : GInt)⟩ : GRat), false, 0) o20 _ _ hl21 ?_) ?_
          · clear H hAt hl21
            intro s11 r22 a w H hAt
            unfold f_survey_Remaining_L1 at H
            refine wp_seq ?_
            refine reg [⟨fV Rep.bool (cmpI .lss s11.2.2 (List.length x1.Readings : Int)), [], [(70, none), (69, none)], []⟩] [3, 4, 5, 14, 68, 69, 70, 71] [6, 13] hAt
                ⟨ok_cmp (op := .lss) (by simp) rfl rfl opd0 opd1, trivial⟩ (by kernel_rfl) ?_
            clear hAt
            intro a w hAt
            replace hAt : At B h0 (mkG [(3, fRef GPanel.rep x0), (4, fRef GPanel.rep x1), (5, fRef GRule.rep x2), (14, fV Rep.bool s11.2.1), (68, fV (Rep.slice r_i64) x1.Readings), (69, fV r_i64 (List.length x1.Readings : Int)), (70, fV r_i64 s11.2.2), (71, fV Rep.bool (cmpI .lss s11.2.2 (List.length x1.Readings : Int)))]) (mkO [(6, boxE 49 GRat.rep l8), (13, boxE 49 GRat.rep s11.1)]) F 121 a w := hAt
            refine then_n ?_
            refine wp_seq ?_
            refine wp_if hAt (by rfl) ?_ ?_
            · intro hb19
              have H := iteT hb19 H
              refine wp_skip ?_
              refine then_n ?_
              refine wp_seq ?_
              refine wp_block ?_
              refine wp_seq ?_
              obtain ⟨v12, hv12, H⟩ := bindE H
              refine reg [⟨fV r_i64 s11.2.2, [], [(70, none)], []⟩,
                  ⟨fRef r_i64 v12, [], [(68, none), (70, none)], []⟩,
                  ⟨fV r_i64 v12, [], [(73, some 1)], []⟩,
                  ⟨fV r_i64 s11.2.2, [], [(72, some 0)], []⟩,
                  ⟨fV r_i64 v12, [], [(74, some 2)], []⟩] [3, 4, 5, 14, 15, 16, 68, 69, 70] [6, 13] hAt
                  ⟨ok_move rfl opd0,
                  ok_index ty3 un22 hv12 rfl opd0 opd1,
                  ok_load ty3 rfl opd0,
                  ok_assign rfl opd0,
                  ok_assign rfl opd0, trivial⟩ (by kernel_rfl) ?_
              clear hAt
              intro a w hAt
              replace hAt : At B h0 (mkG [(3, fRef GPanel.rep x0), (4, fRef GPanel.rep x1), (5, fRef GRule.rep x2), (14, fV Rep.bool s11.2.1), (15, fV r_i64 s11.2.2), (16, fV r_i64 v12), (68, fV (Rep.slice r_i64) x1.Readings), (69, fV r_i64 (List.length x1.Readings : Int)), (70, fV r_i64 s11.2.2)]) (mkO [(6, boxE 49 GRat.rep l8), (13, boxE 49 GRat.rep s11.1)]) F 121 a w := hAt
              refine then_n ?_
              refine wp_seq ?_
              obtain ⟨v13, hv13, H⟩ := bindE H
              refine reg [⟨fRef (Rep.slice r_i64) x0.Readings, [], [(3, none)], []⟩,
                  ⟨fV (Rep.slice r_i64) x0.Readings, [], [(75, some 0)], []⟩,
                  ⟨fV r_i64 s11.2.2, [], [(15, none)], []⟩,
                  ⟨fRef r_i64 v13, [], [(76, some 1), (77, some 2)], []⟩,
                  ⟨fV r_i64 v13, [], [(78, some 3)], []⟩,
                  ⟨fV r_i64 v12, [], [(16, none)], []⟩,
                  ⟨fV r_i64 (IntKind.i64.wrap (v13 - v12)), [], [(79, some 4), (80, some 5)], []⟩,
                  ⟨fV r_i64 (IntKind.i64.wrap (v13 - v12)), [], [(81, some 6)], []⟩] [3, 4, 5, 14, 15, 16, 17, 68, 69, 70] [6, 13] hAt
                  ⟨ok_field GPanel.l4 fo24_4 rfl opd0,
                  ok_load ty22 rfl opd0,
                  ok_move rfl opd0,
                  ok_index ty3 un22 hv13 rfl opd0 opd1,
                  ok_load ty3 rfl opd0,
                  ok_move rfl opd0,
                  ok_sub rfl opd0 opd1,
                  ok_assign rfl opd0, trivial⟩ (by kernel_rfl) ?_
              clear hAt
              intro a w hAt
              replace hAt : At B h0 (mkG [(3, fRef GPanel.rep x0), (4, fRef GPanel.rep x1), (5, fRef GRule.rep x2), (14, fV Rep.bool s11.2.1), (15, fV r_i64 s11.2.2), (16, fV r_i64 v12), (17, fV r_i64 (IntKind.i64.wrap (v13 - v12))), (68, fV (Rep.slice r_i64) x1.Readings), (69, fV r_i64 (List.length x1.Readings : Int)), (70, fV r_i64 s11.2.2)]) (mkO [(6, boxE 49 GRat.rep l8), (13, boxE 49 GRat.rep s11.1)]) F 121 a w := hAt
              refine then_n ?_
              refine wp_seq ?_
              refine wp_seq ?_
              obtain ⟨v14, hv14, H⟩ := bindE H
              refine reg [⟨fV r_i64 v12, [], [(16, none)], []⟩,
                  ⟨fV Rep.bool (cmpI .eql v12 0), [], [(82, some 0)], []⟩,
                  ⟨fV Rep.bool (cmpI .eql v12 0), [], [(83, some 1)], []⟩,
                  ⟨Fact.when ((!(cmpI .eql v12 0)) = true) (fRef (Rep.slice r_i64) x0.Readings), [], [(84, some 2), (3, none)], []⟩,
                  ⟨Fact.when ((!(cmpI .eql v12 0)) = true) (fV (Rep.slice r_i64) x0.Readings), [], [(84, some 2), (85, some 3)], []⟩,
                  ⟨Fact.when ((!(cmpI .eql v12 0)) = true) (fV r_i64 s11.2.2), [], [(84, some 2), (15, none)], []⟩,
                  ⟨Fact.when ((!(cmpI .eql v12 0)) = true) (fRef r_i64 v14), [], [(84, some 2), (86, some 4), (87, some 5)], []⟩,
                  ⟨Fact.when ((!(cmpI .eql v12 0)) = true) (fV r_i64 v14), [], [(84, some 2), (88, some 6)], []⟩,
                  ⟨Fact.when ((!(cmpI .eql v12 0)) = true) (fV Rep.bool (cmpI .eql v14 0)), [], [(84, some 2), (89, some 7)], []⟩,
                  ⟨fV Rep.bool ((cmpI .eql v12 0) || (cmpI .eql v14 0)), [], [(84, some 2), (90, some 8)], []⟩,
                  ⟨fV Rep.bool ((cmpI .eql v12 0) || (cmpI .eql v14 0)), [], [(91, some 9)], []⟩,
                  ⟨Fact.when ((!((cmpI .eql v12 0) || (cmpI .eql v14 0))) = true) (fV r_i64 (IntKind.i64.wrap (v13 - v12))), [], [(92, some 10), (17, none)], []⟩,
                  ⟨Fact.when ((!((cmpI .eql v12 0) || (cmpI .eql v14 0))) = true) (fV Rep.bool (cmpI .leq (IntKind.i64.wrap (v13 - v12)) 0)), [], [(92, some 10), (93, some 11)], []⟩,
                  ⟨fV Rep.bool (((cmpI .eql v12 0) || (cmpI .eql v14 0)) || (cmpI .leq (IntKind.i64.wrap (v13 - v12)) 0)), [], [(92, some 10), (94, some 12)], []⟩] [3, 4, 5, 14, 16, 17, 68, 69, 70, 95] [6, 13] hAt
                  ⟨ok_move rfl opd0,
                  ok_cmp (op := .eql) (by simp) rfl rfl opd0 opdI,
                  ok_move rfl opd0,
                  obl_tf rfl rfl rfl rfl rfl rfl rfl (fun hg => ok_field GPanel.l4 fo24_4 rfl opd1),
                  obl_tf rfl rfl rfl rfl rfl rfl rfl (fun hg => ok_load ty22 rfl (opd1.on hg)),
                  obl_tf rfl rfl rfl rfl rfl rfl rfl (fun hg => ok_move rfl opd1),
                  obl_tf rfl rfl rfl rfl rfl rfl rfl (fun hg => ok_index ty3 un22 (iteT hg hv14) rfl (opd1.on hg) (opd2.on hg)),
                  obl_tf rfl rfl rfl rfl rfl rfl rfl (fun hg => ok_load ty3 rfl (opd1.on hg)),
                  obl_tf rfl rfl rfl rfl rfl rfl rfl (fun hg => ok_cmp (op := .eql) (by simp) rfl rfl (opd1.on hg) opdI),
                  ok_or rfl opd0 (fun e => (opd1.on (notT e))),
                  ok_move rfl opd0,
                  obl_tf rfl rfl rfl rfl rfl rfl rfl (fun hg => ok_move rfl opd1),
                  obl_tf rfl rfl rfl rfl rfl rfl rfl (fun hg => ok_cmp (op := .leq) (by simp) rfl rfl (opd1.on hg) opdI),
                  ok_or rfl opd0 (fun e => (opd1.on (notT e))), trivial⟩ (by kernel_rfl) ?_
              clear hAt
              intro a w hAt
              replace hAt : At B h0 (mkG [(3, fRef GPanel.rep x0), (4, fRef GPanel.rep x1), (5, fRef GRule.rep x2), (14, fV Rep.bool s11.2.1), (16, fV r_i64 v12), (17, fV r_i64 (IntKind.i64.wrap (v13 - v12))), (68, fV (Rep.slice r_i64) x1.Readings), (69, fV r_i64 (List.length x1.Readings : Int)), (70, fV r_i64 s11.2.2), (95, fV Rep.bool (((cmpI .eql v12 0) || (cmpI .eql v14 0)) || (cmpI .leq (IntKind.i64.wrap (v13 - v12)) 0)))]) (mkO [(6, boxE 49 GRat.rep l8), (13, boxE 49 GRat.rep s11.1)]) F 121 a w := hAt
              refine then_n ?_
              refine wp_if hAt (by rfl) ?_ ?_
              · intro hb18
                have H := iteT hb18 H
                refine wp_exit ?_
                refine then_x ?_
                refine blk_eq ?_
                refine then_n ?_
                refine reg [⟨fV r_i64 (IntKind.i64.wrap (s11.2.2 + 1)), [], [(70, none)], []⟩,
                    ⟨fV r_i64 (IntKind.i64.wrap (s11.2.2 + 1)), [], [(118, some 0)], []⟩] [3, 4, 5, 14, 68, 69, 70] [6, 13] hAt
                    ⟨ok_add rfl opd0 opdI,
                    ok_move rfl opd0, trivial⟩ (by kernel_rfl) ?_
                clear hAt
                intro a w hAt
                replace hAt : At B h0 (mkG [(3, fRef GPanel.rep x0), (4, fRef GPanel.rep x1), (5, fRef GRule.rep x2), (14, fV Rep.bool s11.2.1), (68, fV (Rep.slice r_i64) x1.Readings), (69, fV r_i64 (List.length x1.Readings : Int)), (70, fV r_i64 (IntKind.i64.wrap (s11.2.2 + 1)))]) (mkO [(6, boxE 49 GRat.rep l8), (13, boxE 49 GRat.rep s11.1)]) F 121 a w := hAt
                cases H
                exact ⟨rfl, hAt.pick [3, 4, 5, 14, 68, 69, 70] [6, 13]⟩
              · intro hb18
                have H := iteF hb18 H
                refine wp_skip ?_
                refine then_n ?_
                refine wp_seq ?_
                obtain ⟨v15, hv15, H⟩ := bindE H
                refine reg [⟨fV r_i64 v12, [], [(16, none)], []⟩,
                    ⟨fV r_i64 (IntKind.i64.wrap (1000 * v12)), [], [(96, some 0)], []⟩,
                    ⟨fRef r_i64 x2.Renew, [], [(5, none)], []⟩,
                    ⟨fV r_i64 x2.Renew, [], [(98, some 2)], []⟩,
                    ⟨fV r_i64 (IntKind.i64.wrap (1000 - x2.Renew)), [], [(99, some 3)], []⟩,
                    ⟨fRef r_i64 x1.Built, [], [(4, none)], []⟩,
                    ⟨fV r_i64 x1.Built, [], [(101, some 5)], []⟩,
                    ⟨fV r_i64 (IntKind.i64.wrap ((IntKind.i64.wrap (1000 - x2.Renew)) * x1.Built)), [], [(100, some 4), (102, some 6)], []⟩,
                    ⟨fV r_i64 (IntKind.i64.wrap ((IntKind.i64.wrap (1000 * v12)) - (IntKind.i64.wrap ((IntKind.i64.wrap (1000 - x2.Renew)) * x1.Built)))), [], [(97, some 1), (103, some 7)], []⟩,
                    ⟨fV r_i64 (max (IntKind.i64.wrap ((IntKind.i64.wrap (1000 * v12)) - (IntKind.i64.wrap ((IntKind.i64.wrap (1000 - x2.Renew)) * x1.Built)))) 0), [], [(104, some 8)], []⟩,
                    ⟨fV r_i64 (IntKind.i64.wrap (v13 - v12)), [], [(17, none)], []⟩,
                    ⟨fV r_i64 (IntKind.i64.wrap (1000 * (IntKind.i64.wrap (v13 - v12)))), [], [(106, some 10)], []⟩,
                    ⟨fV GRat.rep v15, [], [(105, some 9), (107, some 11)], []⟩,
                    ⟨Fact.triv, [(18, some (boxE 49 GRat.rep (⟨(⟨false, []⟩ : GInt), (⟨false, []⟩ : GInt)⟩ : GRat)))], [], []⟩,
                    ⟨Fact.triv, [(18, some (boxE 49 GRat.rep v15))], [(108, some 12)], [(18, some 13)]⟩] [3, 4, 5, 14, 68, 69, 70] [6, 13, 18] hAt
                    ⟨ok_move rfl opd0,
                    ok_mul rfl opdI opd0,
                    ok_field GRule.l1 fo26_1 rfl opd0,
                    ok_load ty3 rfl opd0,
                    ok_sub rfl opdI opd0,
                    ok_field GPanel.l3 fo24_3 rfl opd0,
                    ok_load ty3 rfl opd0,
                    ok_mul rfl opd0 opd1,
                    ok_sub rfl opd0 opd1,
                    ok_max rfl opd0 opdI,
                    ok_move rfl opd0,
                    ok_mul rfl opdI opd0,
                    ok_call (ok_f_survey_ratio N (max (IntKind.i64.wrap ((IntKind.i64.wrap (1000 * v12)) - (IntKind.i64.wrap ((IntKind.i64.wrap (1000 - x2.Renew)) * x1.Built)))) 0) (IntKind.i64.wrap (1000 * (IntKind.i64.wrap (v13 - v12)))) _ hv15) Try.func64 (by kernel_rfl) (by kernel_rfl) rfl ⟨opd0, ⟨opd1, trivial⟩⟩,
                    ok_alloc ty49 rfl rfl,
                    ok_storeBox ty49 rfl rfl opd0, trivial⟩ (by kernel_rfl) ?_
                clear hAt
                intro a w hAt
                replace hAt : At B h0 (mkG [(3, fRef GPanel.rep x0), (4, fRef GPanel.rep x1), (5, fRef GRule.rep x2), (14, fV Rep.bool s11.2.1), (68, fV (Rep.slice r_i64) x1.Readings), (69, fV r_i64 (List.length x1.Readings : Int)), (70, fV r_i64 s11.2.2)]) (mkO [(6, boxE 49 GRat.rep l8), (13, boxE 49 GRat.rep s11.1), (18, boxE 49 GRat.rep v15)]) F 121 a w := hAt
                refine then_n ?_
                refine wp_seq ?_
                obtain ⟨v16, hv16, H⟩ := bindE H
                refine reg [⟨fV Rep.bool s11.2.1, [], [(14, none)], []⟩,
                    ⟨fV Rep.bool (!s11.2.1), [], [(109, some 0)], []⟩,
                    ⟨fV Rep.bool (!s11.2.1), [], [(110, some 1)], []⟩,
                    ⟨Fact.when ((!(!s11.2.1)) = true) (fV GRat.rep v15), [], [(111, some 2)], [(18, none)]⟩,
                    ⟨Fact.when ((!(!s11.2.1)) = true) (fV GRat.rep s11.1), [], [(111, some 2)], [(13, none)]⟩,
                    ⟨Fact.when ((!(!s11.2.1)) = true) (fV r_i64 v16), [], [(111, some 2), (112, some 3), (113, some 4)], []⟩,
                    ⟨Fact.when ((!(!s11.2.1)) = true) (fV Rep.bool (cmpI .lss v16 0)), [], [(111, some 2), (114, some 5)], []⟩,
                    ⟨fV Rep.bool ((!s11.2.1) || (cmpI .lss v16 0)), [], [(111, some 2), (115, some 6)], []⟩] [3, 4, 5, 14, 68, 69, 70, 116] [6, 13, 18] hAt
                    ⟨ok_move rfl opd0,
                    ok_not rfl opd0,
                    ok_move rfl opd0,
                    obl_tf rfl rfl rfl rfl rfl rfl rfl (fun hg => ok_loadBox ty49 rfl),
                    obl_tf rfl rfl rfl rfl rfl rfl rfl (fun hg => ok_loadBox ty49 rfl),
                    obl_tf rfl rfl rfl rfl rfl rfl rfl (fun hg => ok_call (ok_f_exact_CmpRat N v15 s11.1 _ (iteT hg hv16)) Try.func81 (by kernel_rfl) (by kernel_rfl) rfl ⟨(opd1.on hg), ⟨(opd2.on hg), trivial⟩⟩),
                    obl_tf rfl rfl rfl rfl rfl rfl rfl (fun hg => ok_cmp (op := .lss) (by simp) rfl rfl (opd1.on hg) opdI),
                    ok_or rfl opd0 (fun e => (opd1.on (notT e))), trivial⟩ (by kernel_rfl) ?_
                clear hAt
                intro a w hAt
                replace hAt : At B h0 (mkG [(3, fRef GPanel.rep x0), (4, fRef GPanel.rep x1), (5, fRef GRule.rep x2), (14, fV Rep.bool s11.2.1), (68, fV (Rep.slice r_i64) x1.Readings), (69, fV r_i64 (List.length x1.Readings : Int)), (70, fV r_i64 s11.2.2), (116, fV Rep.bool ((!s11.2.1) || (cmpI .lss v16 0)))]) (mkO [(6, boxE 49 GRat.rep l8), (13, boxE 49 GRat.rep s11.1), (18, boxE 49 GRat.rep v15)]) F 121 a w := hAt
                refine then_n ?_
                refine wp_if hAt (by rfl) ?_ ?_
                · intro hb17
                  have H := iteT hb17 H
                  refine reg [⟨fV GRat.rep v15, [], [], [(18, none)]⟩,
                      ⟨Fact.triv, [(13, some (boxE 49 GRat.rep v15))], [(117, some 0)], [(13, none)]⟩,
                      ⟨fV Rep.bool true, [], [], []⟩] [3, 4, 5, 14, 68, 69, 70] [6, 13] hAt
                      ⟨ok_loadBox ty49 rfl,
                      ok_storeBox ty49 rfl rfl opd0,
                      ok_assign rfl opdB, trivial⟩ (by kernel_rfl) ?_
                  clear hAt
                  intro a w hAt
                  replace hAt : At B h0 (mkG [(3, fRef GPanel.rep x0), (4, fRef GPanel.rep x1), (5, fRef GRule.rep x2), (14, fV Rep.bool true), (68, fV (Rep.slice r_i64) x1.Readings), (69, fV r_i64 (List.length x1.Readings : Int)), (70, fV r_i64 s11.2.2)]) (mkO [(6, boxE 49 GRat.rep l8), (13, boxE 49 GRat.rep v15)]) F 121 a w := hAt
                  refine blk_n ?_
                  refine then_n ?_
                  refine reg [⟨fV r_i64 (IntKind.i64.wrap (s11.2.2 + 1)), [], [(70, none)], []⟩,
                      ⟨fV r_i64 (IntKind.i64.wrap (s11.2.2 + 1)), [], [(118, some 0)], []⟩] [3, 4, 5, 14, 68, 69, 70] [6, 13] hAt
                      ⟨ok_add rfl opd0 opdI,
                      ok_move rfl opd0, trivial⟩ (by kernel_rfl) ?_
                  clear hAt
                  intro a w hAt
                  replace hAt : At B h0 (mkG [(3, fRef GPanel.rep x0), (4, fRef GPanel.rep x1), (5, fRef GRule.rep x2), (14, fV Rep.bool true), (68, fV (Rep.slice r_i64) x1.Readings), (69, fV r_i64 (List.length x1.Readings : Int)), (70, fV r_i64 (IntKind.i64.wrap (s11.2.2 + 1)))]) (mkO [(6, boxE 49 GRat.rep l8), (13, boxE 49 GRat.rep v15)]) F 121 a w := hAt
                  cases H
                  exact ⟨rfl, hAt.pick [3, 4, 5, 14, 68, 69, 70] [6, 13]⟩
                · intro hb17
                  have H := iteF hb17 H
                  refine wp_skip ?_
                  refine blk_n ?_
                  refine then_n ?_
                  refine reg [⟨fV r_i64 (IntKind.i64.wrap (s11.2.2 + 1)), [], [(70, none)], []⟩,
                      ⟨fV r_i64 (IntKind.i64.wrap (s11.2.2 + 1)), [], [(118, some 0)], []⟩] [3, 4, 5, 14, 68, 69, 70] [6, 13] hAt
                      ⟨ok_add rfl opd0 opdI,
                      ok_move rfl opd0, trivial⟩ (by kernel_rfl) ?_
                  clear hAt
                  intro a w hAt
                  replace hAt : At B h0 (mkG [(3, fRef GPanel.rep x0), (4, fRef GPanel.rep x1), (5, fRef GRule.rep x2), (14, fV Rep.bool s11.2.1), (68, fV (Rep.slice r_i64) x1.Readings), (69, fV r_i64 (List.length x1.Readings : Int)), (70, fV r_i64 (IntKind.i64.wrap (s11.2.2 + 1)))]) (mkO [(6, boxE 49 GRat.rep l8), (13, boxE 49 GRat.rep s11.1)]) F 121 a w := hAt
                  cases H
                  exact ⟨rfl, hAt.pick [3, 4, 5, 14, 68, 69, 70] [6, 13]⟩
            · intro hb19
              have H := iteF hb19 H
              refine wp_exit ?_
              refine then_x ?_
              cases H
              exact ⟨ex_ne, rfl, hAt.pick [14] [6, 13]⟩
          · exact hAt.pick [3, 4, 5, 14, 68, 69, 70] [6, 13]
          · clear hAt
            intro e a w hp
            obtain ⟨rfl, hAt⟩ := hp
            refine blk_eq ?_
            refine then_n ?_
            refine wp_seq ?_
            refine reg [⟨fV GRat.rep o20.1, [], [], [(13, none)]⟩,
                ⟨fV Rep.bool o20.2, [], [(14, none)], []⟩,
                ⟨Fact.triv, [(6, some (boxE 49 GRat.rep o20.1))], [(119, some 0)], [(6, none)]⟩,
                ⟨fV Rep.bool o20.2, [], [(120, some 1)], []⟩,
                ⟨fV r_i64 0, [], [], []⟩] [7, 8] [6] hAt
                ⟨ok_loadBox ty49 rfl,
                ok_move rfl opd0,
                ok_storeBox ty49 rfl rfl opd0,
                ok_assign rfl opd0,
                ok_assign rfl opdI, trivial⟩ (by kernel_rfl) ?_
            clear hAt
            intro a w hAt
            replace hAt : At B h0 (mkG [(7, fV Rep.bool o20.2), (8, fV r_i64 0)]) (mkO [(6, boxE 49 GRat.rep o20.1)]) F 121 a w := hAt
            refine then_n ?_
            refine wp_ret ?_
            cases H
            exact ret3 rfl (rv_cell ty49 rfl) (rv_tmp rfl rfl) (rv_tmp rfl rfl) hAt
    | inr r9 =>
      rw [Sum.elim_inr] at H
      replace hp := hp
      obtain ⟨rfl, hAt⟩ := hp
      refine blk_r ?_
      refine then_r ?_
      cases H
      exact ret3 rfl (rv_cell ty49 rfl) (rv_tmp rfl rfl) (rv_tmp rfl rfl) hAt
theorem ok_f_base_IsName (N : Nat) (x0 : Str) (r : Bool) (H : f_base_IsName N x0 = some r) : FnOk Try.prog 68 [fV Rep.str x0] (fV Rep.bool r) := by
  unfold f_base_IsName at H
  refine fn_enter Try.func68 rfl rfl (by kernel_rfl) ?_
  intro κ B h0 F a w hAt
  refine wp_seq ?_
  refine reg [⟨fV Rep.bool false, [], [], []⟩] [0] [] hAt
      ⟨ok_assign rfl opdB, trivial⟩ (by kernel_rfl) ?_
  clear hAt
  intro a w hAt
  replace hAt : At B h0 (mkG [(0, fV Rep.str x0)]) (mkO []) F 55 a w := hAt
  refine then_n ?_
  refine wp_seq ?_
  refine wp_seq ?_
  refine reg [⟨fV Rep.str x0, [], [(0, none)], []⟩,
      ⟨fV r_i64 (List.length x0 : Int), [], [(6, some 0)], []⟩,
      ⟨fV Rep.bool (cmpI .lss (List.length x0 : Int) 1), [], [(7, some 1)], []⟩,
      ⟨fV Rep.bool (cmpI .lss (List.length x0 : Int) 1), [], [(8, some 2)], []⟩,
      ⟨Fact.when ((!(cmpI .lss (List.length x0 : Int) 1)) = true) (fV Rep.str x0), [], [(9, some 3), (0, none)], []⟩,
      ⟨Fact.when ((!(cmpI .lss (List.length x0 : Int) 1)) = true) (fV r_i64 (List.length x0 : Int)), [], [(9, some 3), (10, some 4)], []⟩,
      ⟨Fact.when ((!(cmpI .lss (List.length x0 : Int) 1)) = true) (fV Rep.bool (cmpI .gtr (List.length x0 : Int) 12)), [], [(9, some 3), (11, some 5)], []⟩,
      ⟨fV Rep.bool ((cmpI .lss (List.length x0 : Int) 1) || (cmpI .gtr (List.length x0 : Int) 12)), [], [(9, some 3), (12, some 6)], []⟩] [0, 13] [] hAt
      ⟨ok_move rfl opd0,
      ok_lenS un9 rfl opd0,
      ok_cmp (op := .lss) (by simp) rfl rfl opd0 opdI,
      ok_move rfl opd0,
      obl_tf rfl rfl rfl rfl rfl rfl rfl (fun hg => ok_move rfl opd1),
      obl_tf rfl rfl rfl rfl rfl rfl rfl (fun hg => ok_lenS un9 rfl (opd1.on hg)),
      obl_tf rfl rfl rfl rfl rfl rfl rfl (fun hg => ok_cmp (op := .gtr) (by simp) rfl rfl (opd1.on hg) opdI),
      ok_or rfl opd0 (fun e => (opd1.on (notT e))), trivial⟩ (by kernel_rfl) ?_
  clear hAt
  intro a w hAt
  replace hAt : At B h0 (mkG [(0, fV Rep.str x0), (13, fV Rep.bool ((cmpI .lss (List.length x0 : Int) 1) || (cmpI .gtr (List.length x0 : Int) 12)))]) (mkO []) F 55 a w := hAt
  refine then_n ?_
  refine wp_if hAt (by rfl) ?_ ?_
  · intro hb10
    have H := iteT hb10 H
    refine wp_seq ?_
    refine reg [⟨fV Rep.bool false, [], [], []⟩] [2] [] hAt
        ⟨ok_assign rfl opdB, trivial⟩ (by kernel_rfl) ?_
    clear hAt
    intro a w hAt
    replace hAt : At B h0 (mkG [(2, fV Rep.bool false)]) (mkO []) F 55 a w := hAt
    refine then_n ?_
    refine wp_ret ?_
    refine then_r ?_
    cases H
    exact ret1 rfl (rv_tmp rfl rfl) hAt
  · intro hb10
    have H := iteF hb10 H
    refine wp_skip ?_
    refine then_n ?_
    refine wp_seq ?_
    refine wp_seq ?_
    refine reg [⟨fV r_i64 0, [], [], []⟩] [0, 3] [] hAt
        ⟨ok_assign rfl opdI, trivial⟩ (by kernel_rfl) ?_
    clear hAt
    intro a w hAt
    replace hAt : At B h0 (mkG [(0, fV Rep.str x0), (3, fV r_i64 0)]) (mkO []) F 55 a w := hAt
    refine then_n ?_
    refine wp_block ?_
    obtain ⟨o5, hl6, H⟩ := bindE H
    refine wp_mono (wp_loopN (f := f_base_IsName_L1 N x0) (fun (s1 : Int) a w => At B h0 (mkG [(0, fV Rep.str x0), (3, fV r_i64 s1)]) (mkO []) F 55 a w) (fun o e a w => (Sum.elim (fun v => e = .exit 0 ∧ At B h0 (mkG []) (mkO []) F 55 a w) (fun v => e = .ret ∧ At B h0 (mkG [(2, fV Rep.bool v)]) (mkO []) F 55 a w)) o) ?_ N 0 o5 _ _ hl6 ?_) ?_
    · clear H hAt hl6
      intro s1 r9 a w H hAt
      unfold f_base_IsName_L1 at H
      refine wp_seq ?_
      refine wp_seq ?_
      refine reg [⟨fV r_i64 s1, [], [(3, none)], []⟩,
          ⟨fV Rep.str x0, [], [(0, none)], []⟩,
          ⟨fV r_i64 (List.length x0 : Int), [], [(15, some 1)], []⟩,
          ⟨fV Rep.bool (cmpI .lss s1 (List.length x0 : Int)), [], [(14, some 0), (16, some 2)], []⟩] [0, 3, 17] [] hAt
          ⟨ok_move rfl opd0,
          ok_move rfl opd0,
          ok_lenS un9 rfl opd0,
          ok_cmp (op := .lss) (by simp) rfl rfl opd0 opd1, trivial⟩ (by kernel_rfl) ?_
      clear hAt
      intro a w hAt
      replace hAt : At B h0 (mkG [(0, fV Rep.str x0), (3, fV r_i64 s1), (17, fV Rep.bool (cmpI .lss s1 (List.length x0 : Int)))]) (mkO []) F 55 a w := hAt
      refine then_n ?_
      refine wp_if hAt (by rfl) ?_ ?_
      · intro hb4
        have H := iteT hb4 H
        refine wp_skip ?_
        refine then_n ?_
        refine wp_seq ?_
        refine wp_block ?_
        refine wp_seq ?_
        obtain ⟨v2, hv2, H⟩ := bindE H
        refine reg [⟨fV Rep.str x0, [], [(0, none)], []⟩,
            ⟨fV r_i64 s1, [], [(3, none)], []⟩,
            ⟨fV r_u8 ((UInt8.toNat v2 : Nat) : Int), [], [(20, some 0), (21, some 1)], []⟩,
            ⟨fV r_u8 ((UInt8.toNat v2 : Nat) : Int), [], [(22, some 2)], []⟩] [0, 3, 4] [] hAt
            ⟨ok_move rfl opd0,
            ok_move rfl opd0,
            ok_indexS hv2 un9 rfl opd0 opd1,
            ok_assign rfl opd0, trivial⟩ (by kernel_rfl) ?_
        clear hAt
        intro a w hAt
        replace hAt : At B h0 (mkG [(0, fV Rep.str x0), (3, fV r_i64 s1), (4, fV r_u8 ((UInt8.toNat v2 : Nat) : Int))]) (mkO []) F 55 a w := hAt
        refine then_n ?_
        refine wp_seq ?_
        refine reg [⟨fV r_u8 ((UInt8.toNat v2 : Nat) : Int), [], [(4, none)], []⟩,
            ⟨fV Rep.bool (cmpI .geq ((UInt8.toNat v2 : Nat) : Int) 97), [], [(23, some 0)], []⟩,
            ⟨fV Rep.bool (cmpI .geq ((UInt8.toNat v2 : Nat) : Int) 97), [], [(24, some 1)], []⟩,
            ⟨Fact.when ((cmpI .geq ((UInt8.toNat v2 : Nat) : Int) 97) = true) (fV r_u8 ((UInt8.toNat v2 : Nat) : Int)), [], [(25, some 2), (4, none)], []⟩,
            ⟨Fact.when ((cmpI .geq ((UInt8.toNat v2 : Nat) : Int) 97) = true) (fV Rep.bool (cmpI .leq ((UInt8.toNat v2 : Nat) : Int) 122)), [], [(25, some 2), (26, some 3)], []⟩,
            ⟨fV Rep.bool ((cmpI .geq ((UInt8.toNat v2 : Nat) : Int) 97) && (cmpI .leq ((UInt8.toNat v2 : Nat) : Int) 122)), [], [(25, some 2), (27, some 4)], []⟩,
            ⟨fV Rep.bool ((cmpI .geq ((UInt8.toNat v2 : Nat) : Int) 97) && (cmpI .leq ((UInt8.toNat v2 : Nat) : Int) 122)), [], [(28, some 5)], []⟩,
            ⟨Fact.when ((!((cmpI .geq ((UInt8.toNat v2 : Nat) : Int) 97) && (cmpI .leq ((UInt8.toNat v2 : Nat) : Int) 122))) = true) (fV r_u8 ((UInt8.toNat v2 : Nat) : Int)), [], [(29, some 6), (4, none)], []⟩,
            ⟨Fact.when ((!((cmpI .geq ((UInt8.toNat v2 : Nat) : Int) 97) && (cmpI .leq ((UInt8.toNat v2 : Nat) : Int) 122))) = true) (fV Rep.bool (cmpI .geq ((UInt8.toNat v2 : Nat) : Int) 65)), [], [(29, some 6), (30, some 7)], []⟩,
            ⟨Fact.when ((!((cmpI .geq ((UInt8.toNat v2 : Nat) : Int) 97) && (cmpI .leq ((UInt8.toNat v2 : Nat) : Int) 122))) = true) (fV Rep.bool (cmpI .geq ((UInt8.toNat v2 : Nat) : Int) 65)), [], [(29, some 6), (31, some 8)], []⟩,
            ⟨Fact.when (((!((cmpI .geq ((UInt8.toNat v2 : Nat) : Int) 97) && (cmpI .leq ((UInt8.toNat v2 : Nat) : Int) 122))) && (cmpI .geq ((UInt8.toNat v2 : Nat) : Int) 65)) = true) (fV r_u8 ((UInt8.toNat v2 : Nat) : Int)), [], [(32, some 9), (4, none)], []⟩,
            ⟨Fact.when (((!((cmpI .geq ((UInt8.toNat v2 : Nat) : Int) 97) && (cmpI .leq ((UInt8.toNat v2 : Nat) : Int) 122))) && (cmpI .geq ((UInt8.toNat v2 : Nat) : Int) 65)) = true) (fV Rep.bool (cmpI .leq ((UInt8.toNat v2 : Nat) : Int) 90)), [], [(32, some 9), (33, some 10)], []⟩,
            ⟨Fact.when ((!((cmpI .geq ((UInt8.toNat v2 : Nat) : Int) 97) && (cmpI .leq ((UInt8.toNat v2 : Nat) : Int) 122))) = true) (fV Rep.bool ((cmpI .geq ((UInt8.toNat v2 : Nat) : Int) 65) && (cmpI .leq ((UInt8.toNat v2 : Nat) : Int) 90))), [], [(29, some 6), (32, some 9), (34, some 11)], []⟩,
            ⟨fV Rep.bool (((cmpI .geq ((UInt8.toNat v2 : Nat) : Int) 97) && (cmpI .leq ((UInt8.toNat v2 : Nat) : Int) 122)) || ((cmpI .geq ((UInt8.toNat v2 : Nat) : Int) 65) && (cmpI .leq ((UInt8.toNat v2 : Nat) : Int) 90))), [], [(29, some 6), (35, some 12)], []⟩,
            ⟨fV Rep.bool (((cmpI .geq ((UInt8.toNat v2 : Nat) : Int) 97) && (cmpI .leq ((UInt8.toNat v2 : Nat) : Int) 122)) || ((cmpI .geq ((UInt8.toNat v2 : Nat) : Int) 65) && (cmpI .leq ((UInt8.toNat v2 : Nat) : Int) 90))), [], [(36, some 13)], []⟩] [0, 3, 4, 5] [] hAt
            ⟨ok_move rfl opd0,
            ok_cmp (op := .geq) (by simp) rfl rfl opd0 opdI,
            ok_move rfl opd0,
            obl_tt rfl rfl rfl rfl rfl rfl rfl (fun hg => ok_move rfl opd1),
            obl_tt rfl rfl rfl rfl rfl rfl rfl (fun hg => ok_cmp (op := .leq) (by simp) rfl rfl (opd1.on hg) opdI),
            ok_and rfl opd0 (fun e => (opd1.on e)),
            ok_move rfl opd0,
            obl_tf rfl rfl rfl rfl rfl rfl rfl (fun hg => ok_move rfl opd1),
            obl_tf rfl rfl rfl rfl rfl rfl rfl (fun hg => ok_cmp (op := .geq) (by simp) rfl rfl (opd1.on hg) opdI),
            obl_tf rfl rfl rfl rfl rfl rfl rfl (fun hg => ok_move rfl (opd1.on hg)),
            obl_wt rfl rfl rfl rfl rfl rfl rfl (fun hg => ok_move rfl opd1),
            obl_wt rfl rfl rfl rfl rfl rfl rfl (fun hg => ok_cmp (op := .leq) (by simp) rfl rfl (opd1.on hg) opdI),
            obl_tf rfl rfl rfl rfl rfl rfl rfl (fun hg => ok_and rfl (opd1.on hg) (fun e => (opd2.on (andT hg e)))),
            ok_or rfl opd0 (fun e => (opd1.on (notT e))),
            ok_assign rfl opd0, trivial⟩ (by kernel_rfl) ?_
        clear hAt
        intro a w hAt
        replace hAt : At B h0 (mkG [(0, fV Rep.str x0), (3, fV r_i64 s1), (4, fV r_u8 ((UInt8.toNat v2 : Nat) : Int)), (5, fV Rep.bool (((cmpI .geq ((UInt8.toNat v2 : Nat) : Int) 97) && (cmpI .leq ((UInt8.toNat v2 : Nat) : Int) 122)) || ((cmpI .geq ((UInt8.toNat v2 : Nat) : Int) 65) && (cmpI .leq ((UInt8.toNat v2 : Nat) : Int) 90))))]) (mkO []) F 55 a w := hAt
        refine then_n ?_
        refine wp_seq ?_
        refine reg [⟨fV Rep.bool (((cmpI .geq ((UInt8.toNat v2 : Nat) : Int) 97) && (cmpI .leq ((UInt8.toNat v2 : Nat) : Int) 122)) || ((cmpI .geq ((UInt8.toNat v2 : Nat) : Int) 65) && (cmpI .leq ((UInt8.toNat v2 : Nat) : Int) 90))), [], [(5, none)], []⟩,
            ⟨fV Rep.bool (!(((cmpI .geq ((UInt8.toNat v2 : Nat) : Int) 97) && (cmpI .leq ((UInt8.toNat v2 : Nat) : Int) 122)) || ((cmpI .geq ((UInt8.toNat v2 : Nat) : Int) 65) && (cmpI .leq ((UInt8.toNat v2 : Nat) : Int) 90)))), [], [(37, some 0)], []⟩,
            ⟨fV Rep.bool (!(((cmpI .geq ((UInt8.toNat v2 : Nat) : Int) 97) && (cmpI .leq ((UInt8.toNat v2 : Nat) : Int) 122)) || ((cmpI .geq ((UInt8.toNat v2 : Nat) : Int) 65) && (cmpI .leq ((UInt8.toNat v2 : Nat) : Int) 90)))), [], [(38, some 1)], []⟩,
            ⟨Fact.when ((!(((cmpI .geq ((UInt8.toNat v2 : Nat) : Int) 97) && (cmpI .leq ((UInt8.toNat v2 : Nat) : Int) 122)) || ((cmpI .geq ((UInt8.toNat v2 : Nat) : Int) 65) && (cmpI .leq ((UInt8.toNat v2 : Nat) : Int) 90)))) = true) (fV r_i64 s1), [], [(39, some 2), (3, none)], []⟩,
            ⟨Fact.when ((!(((cmpI .geq ((UInt8.toNat v2 : Nat) : Int) 97) && (cmpI .leq ((UInt8.toNat v2 : Nat) : Int) 122)) || ((cmpI .geq ((UInt8.toNat v2 : Nat) : Int) 65) && (cmpI .leq ((UInt8.toNat v2 : Nat) : Int) 90)))) = true) (fV Rep.bool (cmpI .eql s1 0)), [], [(39, some 2), (40, some 3)], []⟩,
            ⟨Fact.when ((!(((cmpI .geq ((UInt8.toNat v2 : Nat) : Int) 97) && (cmpI .leq ((UInt8.toNat v2 : Nat) : Int) 122)) || ((cmpI .geq ((UInt8.toNat v2 : Nat) : Int) 65) && (cmpI .leq ((UInt8.toNat v2 : Nat) : Int) 90)))) = true) (fV Rep.bool (cmpI .eql s1 0)), [], [(39, some 2), (41, some 4)], []⟩,
            ⟨Fact.when (((!(((cmpI .geq ((UInt8.toNat v2 : Nat) : Int) 97) && (cmpI .leq ((UInt8.toNat v2 : Nat) : Int) 122)) || ((cmpI .geq ((UInt8.toNat v2 : Nat) : Int) 65) && (cmpI .leq ((UInt8.toNat v2 : Nat) : Int) 90)))) && (!(cmpI .eql s1 0))) = true) (fV r_u8 ((UInt8.toNat v2 : Nat) : Int)), [], [(42, some 5), (4, none)], []⟩,
            ⟨Fact.when (((!(((cmpI .geq ((UInt8.toNat v2 : Nat) : Int) 97) && (cmpI .leq ((UInt8.toNat v2 : Nat) : Int) 122)) || ((cmpI .geq ((UInt8.toNat v2 : Nat) : Int) 65) && (cmpI .leq ((UInt8.toNat v2 : Nat) : Int) 90)))) && (!(cmpI .eql s1 0))) = true) (fV Rep.bool (cmpI .neq ((UInt8.toNat v2 : Nat) : Int) 45)), [], [(42, some 5), (43, some 6)], []⟩,
            ⟨Fact.when (((!(((cmpI .geq ((UInt8.toNat v2 : Nat) : Int) 97) && (cmpI .leq ((UInt8.toNat v2 : Nat) : Int) 122)) || ((cmpI .geq ((UInt8.toNat v2 : Nat) : Int) 65) && (cmpI .leq ((UInt8.toNat v2 : Nat) : Int) 90)))) && (!(cmpI .eql s1 0))) = true) (fV Rep.bool (cmpI .neq ((UInt8.toNat v2 : Nat) : Int) 45)), [], [(42, some 5), (44, some 7)], []⟩,
            ⟨Fact.when ((((!(((cmpI .geq ((UInt8.toNat v2 : Nat) : Int) 97) && (cmpI .leq ((UInt8.toNat v2 : Nat) : Int) 122)) || ((cmpI .geq ((UInt8.toNat v2 : Nat) : Int) 65) && (cmpI .leq ((UInt8.toNat v2 : Nat) : Int) 90)))) && (!(cmpI .eql s1 0))) && (cmpI .neq ((UInt8.toNat v2 : Nat) : Int) 45)) = true) (fV r_u8 ((UInt8.toNat v2 : Nat) : Int)), [], [(45, some 8), (4, none)], []⟩,
            ⟨Fact.when ((((!(((cmpI .geq ((UInt8.toNat v2 : Nat) : Int) 97) && (cmpI .leq ((UInt8.toNat v2 : Nat) : Int) 122)) || ((cmpI .geq ((UInt8.toNat v2 : Nat) : Int) 65) && (cmpI .leq ((UInt8.toNat v2 : Nat) : Int) 90)))) && (!(cmpI .eql s1 0))) && (cmpI .neq ((UInt8.toNat v2 : Nat) : Int) 45)) = true) (fV Rep.bool (cmpI .lss ((UInt8.toNat v2 : Nat) : Int) 48)), [], [(45, some 8), (46, some 9)], []⟩,
            ⟨Fact.when ((((!(((cmpI .geq ((UInt8.toNat v2 : Nat) : Int) 97) && (cmpI .leq ((UInt8.toNat v2 : Nat) : Int) 122)) || ((cmpI .geq ((UInt8.toNat v2 : Nat) : Int) 65) && (cmpI .leq ((UInt8.toNat v2 : Nat) : Int) 90)))) && (!(cmpI .eql s1 0))) && (cmpI .neq ((UInt8.toNat v2 : Nat) : Int) 45)) = true) (fV Rep.bool (cmpI .lss ((UInt8.toNat v2 : Nat) : Int) 48)), [], [(45, some 8), (47, some 10)], []⟩,
            ⟨Fact.when (((((!(((cmpI .geq ((UInt8.toNat v2 : Nat) : Int) 97) && (cmpI .leq ((UInt8.toNat v2 : Nat) : Int) 122)) || ((cmpI .geq ((UInt8.toNat v2 : Nat) : Int) 65) && (cmpI .leq ((UInt8.toNat v2 : Nat) : Int) 90)))) && (!(cmpI .eql s1 0))) && (cmpI .neq ((UInt8.toNat v2 : Nat) : Int) 45)) && (!(cmpI .lss ((UInt8.toNat v2 : Nat) : Int) 48))) = true) (fV r_u8 ((UInt8.toNat v2 : Nat) : Int)), [], [(48, some 11), (4, none)], []⟩,
            ⟨Fact.when (((((!(((cmpI .geq ((UInt8.toNat v2 : Nat) : Int) 97) && (cmpI .leq ((UInt8.toNat v2 : Nat) : Int) 122)) || ((cmpI .geq ((UInt8.toNat v2 : Nat) : Int) 65) && (cmpI .leq ((UInt8.toNat v2 : Nat) : Int) 90)))) && (!(cmpI .eql s1 0))) && (cmpI .neq ((UInt8.toNat v2 : Nat) : Int) 45)) && (!(cmpI .lss ((UInt8.toNat v2 : Nat) : Int) 48))) = true) (fV Rep.bool (cmpI .gtr ((UInt8.toNat v2 : Nat) : Int) 57)), [], [(48, some 11), (49, some 12)], []⟩,
            ⟨Fact.when ((((!(((cmpI .geq ((UInt8.toNat v2 : Nat) : Int) 97) && (cmpI .leq ((UInt8.toNat v2 : Nat) : Int) 122)) || ((cmpI .geq ((UInt8.toNat v2 : Nat) : Int) 65) && (cmpI .leq ((UInt8.toNat v2 : Nat) : Int) 90)))) && (!(cmpI .eql s1 0))) && (cmpI .neq ((UInt8.toNat v2 : Nat) : Int) 45)) = true) (fV Rep.bool ((cmpI .lss ((UInt8.toNat v2 : Nat) : Int) 48) || (cmpI .gtr ((UInt8.toNat v2 : Nat) : Int) 57))), [], [(45, some 8), (48, some 11), (50, some 13)], []⟩,
            ⟨Fact.when (((!(((cmpI .geq ((UInt8.toNat v2 : Nat) : Int) 97) && (cmpI .leq ((UInt8.toNat v2 : Nat) : Int) 122)) || ((cmpI .geq ((UInt8.toNat v2 : Nat) : Int) 65) && (cmpI .leq ((UInt8.toNat v2 : Nat) : Int) 90)))) && (!(cmpI .eql s1 0))) = true) (fV Rep.bool ((cmpI .neq ((UInt8.toNat v2 : Nat) : Int) 45) && ((cmpI .lss ((UInt8.toNat v2 : Nat) : Int) 48) || (cmpI .gtr ((UInt8.toNat v2 : Nat) : Int) 57)))), [], [(42, some 5), (45, some 8), (51, some 14)], []⟩,
            ⟨Fact.when ((!(((cmpI .geq ((UInt8.toNat v2 : Nat) : Int) 97) && (cmpI .leq ((UInt8.toNat v2 : Nat) : Int) 122)) || ((cmpI .geq ((UInt8.toNat v2 : Nat) : Int) 65) && (cmpI .leq ((UInt8.toNat v2 : Nat) : Int) 90)))) = true) (fV Rep.bool ((cmpI .eql s1 0) || ((cmpI .neq ((UInt8.toNat v2 : Nat) : Int) 45) && ((cmpI .lss ((UInt8.toNat v2 : Nat) : Int) 48) || (cmpI .gtr ((UInt8.toNat v2 : Nat) : Int) 57))))), [], [(39, some 2), (42, some 5), (52, some 15)], []⟩,
            ⟨fV Rep.bool ((!(((cmpI .geq ((UInt8.toNat v2 : Nat) : Int) 97) && (cmpI .leq ((UInt8.toNat v2 : Nat) : Int) 122)) || ((cmpI .geq ((UInt8.toNat v2 : Nat) : Int) 65) && (cmpI .leq ((UInt8.toNat v2 : Nat) : Int) 90)))) && ((cmpI .eql s1 0) || ((cmpI .neq ((UInt8.toNat v2 : Nat) : Int) 45) && ((cmpI .lss ((UInt8.toNat v2 : Nat) : Int) 48) || (cmpI .gtr ((UInt8.toNat v2 : Nat) : Int) 57))))), [], [(39, some 2), (53, some 16)], []⟩] [0, 3, 54] [] hAt
            ⟨ok_move rfl opd0,
            ok_not rfl opd0,
            ok_move rfl opd0,
            obl_tt rfl rfl rfl rfl rfl rfl rfl (fun hg => ok_move rfl opd1),
            obl_tt rfl rfl rfl rfl rfl rfl rfl (fun hg => ok_cmp (op := .eql) (by simp) rfl rfl (opd1.on hg) opdI),
            obl_tt rfl rfl rfl rfl rfl rfl rfl (fun hg => ok_move rfl (opd1.on hg)),
            obl_wf rfl rfl rfl rfl rfl rfl rfl (fun hg => ok_move rfl opd1),
            obl_wf rfl rfl rfl rfl rfl rfl rfl (fun hg => ok_cmp (op := .neq) (by simp) rfl rfl (opd1.on hg) opdI),
            obl_wf rfl rfl rfl rfl rfl rfl rfl (fun hg => ok_move rfl (opd1.on hg)),
            obl_wt rfl rfl rfl rfl rfl rfl rfl (fun hg => ok_move rfl opd1),
            obl_wt rfl rfl rfl rfl rfl rfl rfl (fun hg => ok_cmp (op := .lss) (by simp) rfl rfl (opd1.on hg) opdI),
            obl_wt rfl rfl rfl rfl rfl rfl rfl (fun hg => ok_move rfl (opd1.on hg)),
            obl_wf rfl rfl rfl rfl rfl rfl rfl (fun hg => ok_move rfl opd1),
            obl_wf rfl rfl rfl rfl rfl rfl rfl (fun hg => ok_cmp (op := .gtr) (by simp) rfl rfl (opd1.on hg) opdI),
            obl_wt rfl rfl rfl rfl rfl rfl rfl (fun hg => ok_or rfl (opd1.on hg) (fun e => (opd2.on (andT hg (notT e))))),
            obl_wf rfl rfl rfl rfl rfl rfl rfl (fun hg => ok_and rfl (opd1.on hg) (fun e => (opd2.on (andT hg e)))),
            obl_tt rfl rfl rfl rfl rfl rfl rfl (fun hg => ok_or rfl (opd1.on hg) (fun e => (opd2.on (andT hg (notT e))))),
            ok_and rfl opd0 (fun e => (opd1.on e)), trivial⟩ (by kernel_rfl) ?_
        clear hAt
        intro a w hAt
        replace hAt : At B h0 (mkG [(0, fV Rep.str x0), (3, fV r_i64 s1), (54, fV Rep.bool ((!(((cmpI .geq ((UInt8.toNat v2 : Nat) : Int) 97) && (cmpI .leq ((UInt8.toNat v2 : Nat) : Int) 122)) || ((cmpI .geq ((UInt8.toNat v2 : Nat) : Int) 65) && (cmpI .leq ((UInt8.toNat v2 : Nat) : Int) 90)))) && ((cmpI .eql s1 0) || ((cmpI .neq ((UInt8.toNat v2 : Nat) : Int) 45) && ((cmpI .lss ((UInt8.toNat v2 : Nat) : Int) 48) || (cmpI .gtr ((UInt8.toNat v2 : Nat) : Int) 57))))))]) (mkO []) F 55 a w := hAt
        refine then_n ?_
        refine wp_if hAt (by rfl) ?_ ?_
        · intro hb3
          have H := iteT hb3 H
          refine wp_seq ?_
          refine reg [⟨fV Rep.bool false, [], [], []⟩] [2] [] hAt
              ⟨ok_assign rfl opdB, trivial⟩ (by kernel_rfl) ?_
          clear hAt
          intro a w hAt
          replace hAt : At B h0 (mkG [(2, fV Rep.bool false)]) (mkO []) F 55 a w := hAt
          refine then_n ?_
          refine wp_ret ?_
          refine blk_r ?_
          refine then_r ?_
          cases H
          exact ⟨ret_ne, rfl, hAt.pick [2] []⟩
        · intro hb3
          have H := iteF hb3 H
          refine wp_skip ?_
          refine blk_n ?_
          refine then_n ?_
          refine reg [⟨fV r_i64 s1, [], [(3, none)], []⟩,
              ⟨fV r_i64 (IntKind.i64.wrap (s1 + 1)), [], [(18, some 0)], []⟩,
              ⟨fV r_i64 (IntKind.i64.wrap (s1 + 1)), [], [(19, some 1)], []⟩] [0, 3] [] hAt
              ⟨ok_move rfl opd0,
              ok_add rfl opd0 opdI,
              ok_assign rfl opd0, trivial⟩ (by kernel_rfl) ?_
          clear hAt
          intro a w hAt
          replace hAt : At B h0 (mkG [(0, fV Rep.str x0), (3, fV r_i64 (IntKind.i64.wrap (s1 + 1)))]) (mkO []) F 55 a w := hAt
          cases H
          exact ⟨rfl, hAt.pick [0, 3] []⟩
      · intro hb4
        have H := iteF hb4 H
        refine wp_exit ?_
        refine then_x ?_
        cases H
        exact ⟨ex_ne, rfl, hAt.pick [] []⟩
    · exact hAt.pick [0, 3] []
    · clear hAt
      intro e a w hp
      cases o5 with
      | inl l7 =>
        rw [Sum.elim_inl] at H
        obtain ⟨rfl, hAt⟩ := hp
        refine blk_eq ?_
        refine then_n ?_
        refine wp_seq ?_
        refine reg [⟨fV Rep.bool true, [], [], []⟩] [2] [] hAt
            ⟨ok_assign rfl opdB, trivial⟩ (by kernel_rfl) ?_
        clear hAt
        intro a w hAt
        replace hAt : At B h0 (mkG [(2, fV Rep.bool true)]) (mkO []) F 55 a w := hAt
        refine then_n ?_
        refine wp_ret ?_
        cases H
        exact ret1 rfl (rv_tmp rfl rfl) hAt
      | inr r8 =>
        rw [Sum.elim_inr] at H
        replace hp := hp
        obtain ⟨rfl, hAt⟩ := hp
        refine blk_r ?_
        refine then_r ?_
        cases H
        exact ret1 rfl (rv_tmp rfl rfl) hAt
theorem ok_f_ref09_within (N : Nat) (x0 : Int) (x1 : Int) (x2 : Int) (r : Bool) (H : f_ref09_within N x0 x1 x2 = some r) : FnOk Try.prog 69 [fV r_i64 x0, fV r_i64 x1, fV r_i64 x2] (fV Rep.bool r) := by
  unfold f_ref09_within at H
  refine fn_enter Try.func69 rfl rfl (by kernel_rfl) ?_
  intro κ B h0 F a w hAt
  refine wp_seq ?_
  refine reg [⟨fV Rep.bool false, [], [], []⟩] [0, 1, 2] [] hAt
      ⟨ok_assign rfl opdB, trivial⟩ (by kernel_rfl) ?_
  clear hAt
  intro a w hAt
  replace hAt : At B h0 (mkG [(0, fV r_i64 x0), (1, fV r_i64 x1), (2, fV r_i64 x2)]) (mkO []) F 15 a w := hAt
  refine then_n ?_
  refine wp_seq ?_
  refine reg [⟨fV r_i64 x0, [], [(0, none)], []⟩,
      ⟨fV r_i64 x1, [], [(1, none)], []⟩,
      ⟨fV Rep.bool (cmpI .geq x0 x1), [], [(7, some 0), (8, some 1)], []⟩,
      ⟨fV Rep.bool (cmpI .geq x0 x1), [], [(9, some 2)], []⟩,
      ⟨Fact.when ((cmpI .geq x0 x1) = true) (fV r_i64 x0), [], [(10, some 3), (0, none)], []⟩,
      ⟨Fact.when ((cmpI .geq x0 x1) = true) (fV r_i64 x2), [], [(10, some 3), (2, none)], []⟩,
      ⟨Fact.when ((cmpI .geq x0 x1) = true) (fV Rep.bool (cmpI .leq x0 x2)), [], [(10, some 3), (11, some 4), (12, some 5)], []⟩,
      ⟨fV Rep.bool ((cmpI .geq x0 x1) && (cmpI .leq x0 x2)), [], [(10, some 3), (13, some 6)], []⟩,
      ⟨fV Rep.bool ((cmpI .geq x0 x1) && (cmpI .leq x0 x2)), [], [(14, some 7)], []⟩] [6] [] hAt
      ⟨ok_move rfl opd0,
      ok_move rfl opd0,
      ok_cmp (op := .geq) (by simp) rfl rfl opd0 opd1,
      ok_move rfl opd0,
      obl_tt rfl rfl rfl rfl rfl rfl rfl (fun hg => ok_move rfl opd1),
      obl_tt rfl rfl rfl rfl rfl rfl rfl (fun hg => ok_move rfl opd1),
      obl_tt rfl rfl rfl rfl rfl rfl rfl (fun hg => ok_cmp (op := .leq) (by simp) rfl rfl (opd1.on hg) (opd2.on hg)),
      ok_and rfl opd0 (fun e => (opd1.on e)),
      ok_assign rfl opd0, trivial⟩ (by kernel_rfl) ?_
  clear hAt
  intro a w hAt
  replace hAt : At B h0 (mkG [(6, fV Rep.bool ((cmpI .geq x0 x1) && (cmpI .leq x0 x2)))]) (mkO []) F 15 a w := hAt
  refine then_n ?_
  refine wp_ret ?_
  cases H
  exact ret1 rfl (rv_tmp rfl rfl) hAt
theorem ok_f_ref09_CheckPanel (N : Nat) (x0 : GPanel) (r : Int) (H : f_ref09_CheckPanel N x0 = some r) : FnOk Try.prog 18 [fV GPanel.rep x0] (fV r_i64 r) := by
  unfold f_ref09_CheckPanel at H
  refine fn_enter Try.func18 rfl rfl (by kernel_rfl) ?_
  intro κ B h0 F a w hAt
  refine wp_seq ?_
  refine reg [⟨fRef GPanel.rep x0, [], [(0, none)], []⟩,
      ⟨fV r_i64 0, [], [], []⟩] [1] [] hAt
      ⟨ok_box rfl opd0,
      ok_assign rfl opdI, trivial⟩ (by kernel_rfl) ?_
  clear hAt
  intro a w hAt
  replace hAt : At B h0 (mkG [(1, fRef GPanel.rep x0)]) (mkO []) F 61 a w := hAt
  refine then_n ?_
  refine wp_seq ?_
  refine wp_seq ?_
  obtain ⟨v1, hv1, H⟩ := bindE H
  refine reg [⟨fRef Rep.str x0.Name, [], [(1, none)], []⟩,
      ⟨fV Rep.str x0.Name, [], [(4, some 0)], []⟩,
      ⟨fV Rep.bool v1, [], [(5, some 1)], []⟩,
      ⟨fV Rep.bool (!v1), [], [(6, some 2)], []⟩] [1, 7] [] hAt
      ⟨ok_field GPanel.l0 fo24_0 rfl opd0,
      ok_load ty9 rfl opd0,
      ok_call (ok_f_base_IsName N x0.Name _ hv1) Try.func68 (by kernel_rfl) (by kernel_rfl) rfl ⟨opd0, trivial⟩,
      ok_not rfl opd0, trivial⟩ (by kernel_rfl) ?_
  clear hAt
  intro a w hAt
  replace hAt : At B h0 (mkG [(1, fRef GPanel.rep x0), (7, fV Rep.bool (!v1))]) (mkO []) F 61 a w := hAt
  refine then_n ?_
  refine wp_if hAt (by rfl) ?_ ?_
  · intro hb16
    have H := iteT hb16 H
    refine wp_seq ?_
    refine reg [⟨fV r_i64 4, [], [], []⟩] [2] [] hAt
        ⟨ok_assign rfl opdI, trivial⟩ (by kernel_rfl) ?_
    clear hAt
    intro a w hAt
    replace hAt : At B h0 (mkG [(2, fV r_i64 4)]) (mkO []) F 61 a w := hAt
    refine then_n ?_
    refine wp_ret ?_
    refine then_r ?_
    cases H
    exact ret1 rfl (rv_tmp rfl rfl) hAt
  · intro hb16
    have H := iteF hb16 H
    refine wp_skip ?_
    refine then_n ?_
    refine wp_seq ?_
    refine wp_seq ?_
    obtain ⟨v2, hv2, H⟩ := bindE H
    refine reg [⟨fRef r_i64 x0.Rows, [], [(1, none)], []⟩,
        ⟨fV r_i64 x0.Rows, [], [(8, some 0)], []⟩,
        ⟨fV Rep.bool (cmpI .lss x0.Rows 1), [], [(9, some 1)], []⟩,
        ⟨fV Rep.bool (cmpI .lss x0.Rows 1), [], [(10, some 2)], []⟩,
        ⟨Fact.when ((!(cmpI .lss x0.Rows 1)) = true) (fRef r_i64 x0.Cols), [], [(11, some 3), (1, none)], []⟩,
        ⟨Fact.when ((!(cmpI .lss x0.Rows 1)) = true) (fV r_i64 x0.Cols), [], [(11, some 3), (12, some 4)], []⟩,
        ⟨Fact.when ((!(cmpI .lss x0.Rows 1)) = true) (fV Rep.bool (cmpI .lss x0.Cols 1)), [], [(11, some 3), (13, some 5)], []⟩,
        ⟨fV Rep.bool ((cmpI .lss x0.Rows 1) || (cmpI .lss x0.Cols 1)), [], [(11, some 3), (14, some 6)], []⟩,
        ⟨fV Rep.bool ((cmpI .lss x0.Rows 1) || (cmpI .lss x0.Cols 1)), [], [(15, some 7)], []⟩,
        ⟨Fact.when ((!((cmpI .lss x0.Rows 1) || (cmpI .lss x0.Cols 1))) = true) (fRef r_i64 x0.Built), [], [(16, some 8), (1, none)], []⟩,
        ⟨Fact.when ((!((cmpI .lss x0.Rows 1) || (cmpI .lss x0.Cols 1))) = true) (fV r_i64 x0.Built), [], [(16, some 8), (17, some 9)], []⟩,
        ⟨Fact.when ((!((cmpI .lss x0.Rows 1) || (cmpI .lss x0.Cols 1))) = true) (fV Rep.bool v2), [], [(16, some 8), (18, some 10)], []⟩,
        ⟨Fact.when ((!((cmpI .lss x0.Rows 1) || (cmpI .lss x0.Cols 1))) = true) (fV Rep.bool (!v2)), [], [(16, some 8), (19, some 11)], []⟩,
        ⟨fV Rep.bool (((cmpI .lss x0.Rows 1) || (cmpI .lss x0.Cols 1)) || (!v2)), [], [(16, some 8), (20, some 12)], []⟩] [1, 21] [] hAt
        ⟨ok_field GPanel.l1 fo24_1 rfl opd0,
        ok_load ty3 rfl opd0,
        ok_cmp (op := .lss) (by simp) rfl rfl opd0 opdI,
        ok_move rfl opd0,
        obl_tf rfl rfl rfl rfl rfl rfl rfl (fun hg => ok_field GPanel.l2 fo24_2 rfl opd1),
        obl_tf rfl rfl rfl rfl rfl rfl rfl (fun hg => ok_load ty3 rfl (opd1.on hg)),
        obl_tf rfl rfl rfl rfl rfl rfl rfl (fun hg => ok_cmp (op := .lss) (by simp) rfl rfl (opd1.on hg) opdI),
        ok_or rfl opd0 (fun e => (opd1.on (notT e))),
        ok_move rfl opd0,
        obl_tf rfl rfl rfl rfl rfl rfl rfl (fun hg => ok_field GPanel.l3 fo24_3 rfl opd1),
        obl_tf rfl rfl rfl rfl rfl rfl rfl (fun hg => ok_load ty3 rfl (opd1.on hg)),
        obl_tf rfl rfl rfl rfl rfl rfl rfl (fun hg => ok_call (ok_f_ref09_within N x0.Built 100 20000 _ (iteT hg hv2)) Try.func69 (by kernel_rfl) (by kernel_rfl) rfl ⟨(opd1.on hg), ⟨opdI, ⟨opdI, trivial⟩⟩⟩),
        obl_tf rfl rfl rfl rfl rfl rfl rfl (fun hg => ok_not rfl (opd1.on hg)),
        ok_or rfl opd0 (fun e => (opd1.on (notT e))), trivial⟩ (by kernel_rfl) ?_
    clear hAt
    intro a w hAt
    replace hAt : At B h0 (mkG [(1, fRef GPanel.rep x0), (21, fV Rep.bool (((cmpI .lss x0.Rows 1) || (cmpI .lss x0.Cols 1)) || (!v2)))]) (mkO []) F 61 a w := hAt
    refine then_n ?_
    refine wp_if hAt (by rfl) ?_ ?_
    · intro hb15
      have H := iteT hb15 H
      refine wp_seq ?_
      refine reg [⟨fV r_i64 2, [], [], []⟩] [2] [] hAt
          ⟨ok_assign rfl opdI, trivial⟩ (by kernel_rfl) ?_
      clear hAt
      intro a w hAt
      replace hAt : At B h0 (mkG [(2, fV r_i64 2)]) (mkO []) F 61 a w := hAt
      refine then_n ?_
      refine wp_ret ?_
      refine then_r ?_
      cases H
      exact ret1 rfl (rv_tmp rfl rfl) hAt
    · intro hb15
      have H := iteF hb15 H
      refine wp_skip ?_
      refine then_n ?_
      refine wp_seq ?_
      refine wp_seq ?_
      refine reg [⟨fRef r_i64 x0.Rows, [], [(1, none)], []⟩,
          ⟨fV r_i64 x0.Rows, [], [(22, some 0)], []⟩,
          ⟨fV Rep.bool (cmpI .gtr x0.Rows 400), [], [(23, some 1)], []⟩,
          ⟨fV Rep.bool (cmpI .gtr x0.Rows 400), [], [(24, some 2)], []⟩,
          ⟨Fact.when ((!(cmpI .gtr x0.Rows 400)) = true) (fRef r_i64 x0.Cols), [], [(25, some 3), (1, none)], []⟩,
          ⟨Fact.when ((!(cmpI .gtr x0.Rows 400)) = true) (fV r_i64 x0.Cols), [], [(25, some 3), (26, some 4)], []⟩,
          ⟨Fact.when ((!(cmpI .gtr x0.Rows 400)) = true) (fV Rep.bool (cmpI .gtr x0.Cols 400)), [], [(25, some 3), (27, some 5)], []⟩,
          ⟨fV Rep.bool ((cmpI .gtr x0.Rows 400) || (cmpI .gtr x0.Cols 400)), [], [(25, some 3), (28, some 6)], []⟩,
          ⟨fV Rep.bool ((cmpI .gtr x0.Rows 400) || (cmpI .gtr x0.Cols 400)), [], [(29, some 7)], []⟩,
          ⟨Fact.when ((!((cmpI .gtr x0.Rows 400) || (cmpI .gtr x0.Cols 400))) = true) (fRef r_i64 x0.Rows), [], [(30, some 8), (1, none)], []⟩,
          ⟨Fact.when ((!((cmpI .gtr x0.Rows 400) || (cmpI .gtr x0.Cols 400))) = true) (fV r_i64 x0.Rows), [], [(30, some 8), (31, some 9)], []⟩,
          ⟨Fact.when ((!((cmpI .gtr x0.Rows 400) || (cmpI .gtr x0.Cols 400))) = true) (fRef r_i64 x0.Cols), [], [(30, some 8), (1, none)], []⟩,
          ⟨Fact.when ((!((cmpI .gtr x0.Rows 400) || (cmpI .gtr x0.Cols 400))) = true) (fV r_i64 x0.Cols), [], [(30, some 8), (33, some 11)], []⟩,
          ⟨Fact.when ((!((cmpI .gtr x0.Rows 400) || (cmpI .gtr x0.Cols 400))) = true) (fV r_i64 (IntKind.i64.wrap (x0.Rows * x0.Cols))), [], [(30, some 8), (32, some 10), (34, some 12)], []⟩,
          ⟨Fact.when ((!((cmpI .gtr x0.Rows 400) || (cmpI .gtr x0.Cols 400))) = true) (fV Rep.bool (cmpI .gtr (IntKind.i64.wrap (x0.Rows * x0.Cols)) 400)), [], [(30, some 8), (35, some 13)], []⟩,
          ⟨fV Rep.bool (((cmpI .gtr x0.Rows 400) || (cmpI .gtr x0.Cols 400)) || (cmpI .gtr (IntKind.i64.wrap (x0.Rows * x0.Cols)) 400)), [], [(30, some 8), (36, some 14)], []⟩] [1, 37] [] hAt
          ⟨ok_field GPanel.l1 fo24_1 rfl opd0,
          ok_load ty3 rfl opd0,
          ok_cmp (op := .gtr) (by simp) rfl rfl opd0 opdI,
          ok_move rfl opd0,
          obl_tf rfl rfl rfl rfl rfl rfl rfl (fun hg => ok_field GPanel.l2 fo24_2 rfl opd1),
          obl_tf rfl rfl rfl rfl rfl rfl rfl (fun hg => ok_load ty3 rfl (opd1.on hg)),
          obl_tf rfl rfl rfl rfl rfl rfl rfl (fun hg => ok_cmp (op := .gtr) (by simp) rfl rfl (opd1.on hg) opdI),
          ok_or rfl opd0 (fun e => (opd1.on (notT e))),
          ok_move rfl opd0,
          obl_tf rfl rfl rfl rfl rfl rfl rfl (fun hg => ok_field GPanel.l1 fo24_1 rfl opd1),
          obl_tf rfl rfl rfl rfl rfl rfl rfl (fun hg => ok_load ty3 rfl (opd1.on hg)),
          obl_tf rfl rfl rfl rfl rfl rfl rfl (fun hg => ok_field GPanel.l2 fo24_2 rfl opd1),
          obl_tf rfl rfl rfl rfl rfl rfl rfl (fun hg => ok_load ty3 rfl (opd1.on hg)),
          obl_tf rfl rfl rfl rfl rfl rfl rfl (fun hg => ok_mul rfl (opd1.on hg) (opd2.on hg)),
          obl_tf rfl rfl rfl rfl rfl rfl rfl (fun hg => ok_cmp (op := .gtr) (by simp) rfl rfl (opd1.on hg) opdI),
          ok_or rfl opd0 (fun e => (opd1.on (notT e))), trivial⟩ (by kernel_rfl) ?_
      clear hAt
      intro a w hAt
      replace hAt : At B h0 (mkG [(1, fRef GPanel.rep x0), (37, fV Rep.bool (((cmpI .gtr x0.Rows 400) || (cmpI .gtr x0.Cols 400)) || (cmpI .gtr (IntKind.i64.wrap (x0.Rows * x0.Cols)) 400)))]) (mkO []) F 61 a w := hAt
      refine then_n ?_
      refine wp_if hAt (by rfl) ?_ ?_
      · intro hb14
        have H := iteT hb14 H
        refine wp_seq ?_
        refine reg [⟨fV r_i64 8, [], [], []⟩] [2] [] hAt
            ⟨ok_assign rfl opdI, trivial⟩ (by kernel_rfl) ?_
        clear hAt
        intro a w hAt
        replace hAt : At B h0 (mkG [(2, fV r_i64 8)]) (mkO []) F 61 a w := hAt
        refine then_n ?_
        refine wp_ret ?_
        refine then_r ?_
        cases H
        exact ret1 rfl (rv_tmp rfl rfl) hAt
      · intro hb14
        have H := iteF hb14 H
        refine wp_skip ?_
        refine then_n ?_
        refine wp_seq ?_
        refine wp_seq ?_
        refine reg [⟨fRef (Rep.slice r_i64) x0.Readings, [], [(1, none)], []⟩,
            ⟨fV (Rep.slice r_i64) x0.Readings, [], [(38, some 0)], []⟩,
            ⟨fV r_i64 (List.length x0.Readings : Int), [], [(39, some 1)], []⟩,
            ⟨fRef r_i64 x0.Rows, [], [(1, none)], []⟩,
            ⟨fV r_i64 x0.Rows, [], [(41, some 3)], []⟩,
            ⟨fRef r_i64 x0.Cols, [], [(1, none)], []⟩,
            ⟨fV r_i64 x0.Cols, [], [(43, some 5)], []⟩,
            ⟨fV r_i64 (IntKind.i64.wrap (x0.Rows * x0.Cols)), [], [(42, some 4), (44, some 6)], []⟩,
            ⟨fV Rep.bool (cmpI .neq (List.length x0.Readings : Int) (IntKind.i64.wrap (x0.Rows * x0.Cols))), [], [(40, some 2), (45, some 7)], []⟩] [1, 46] [] hAt
            ⟨ok_field GPanel.l4 fo24_4 rfl opd0,
            ok_load ty22 rfl opd0,
            ok_len un22 rfl opd0,
            ok_field GPanel.l1 fo24_1 rfl opd0,
            ok_load ty3 rfl opd0,
            ok_field GPanel.l2 fo24_2 rfl opd0,
            ok_load ty3 rfl opd0,
            ok_mul rfl opd0 opd1,
            ok_cmp (op := .neq) (by simp) rfl rfl opd0 opd1, trivial⟩ (by kernel_rfl) ?_
        clear hAt
        intro a w hAt
        replace hAt : At B h0 (mkG [(1, fRef GPanel.rep x0), (46, fV Rep.bool (cmpI .neq (List.length x0.Readings : Int) (IntKind.i64.wrap (x0.Rows * x0.Cols))))]) (mkO []) F 61 a w := hAt
        refine then_n ?_
        refine wp_if hAt (by rfl) ?_ ?_
        · intro hb13
          have H := iteT hb13 H
          refine wp_seq ?_
          refine reg [⟨fV r_i64 11, [], [], []⟩] [2] [] hAt
              ⟨ok_assign rfl opdI, trivial⟩ (by kernel_rfl) ?_
          clear hAt
          intro a w hAt
          replace hAt : At B h0 (mkG [(2, fV r_i64 11)]) (mkO []) F 61 a w := hAt
          refine then_n ?_
          refine wp_ret ?_
          refine then_r ?_
          cases H
          exact ret1 rfl (rv_tmp rfl rfl) hAt
        · intro hb13
          have H := iteF hb13 H
          refine wp_skip ?_
          refine then_n ?_
          refine wp_seq ?_
          refine wp_seq ?_
          refine reg [⟨fV r_i64 0, [], [], []⟩] [1, 3] [] hAt
              ⟨ok_assign rfl opdI, trivial⟩ (by kernel_rfl) ?_
          clear hAt
          intro a w hAt
          replace hAt : At B h0 (mkG [(1, fRef GPanel.rep x0), (3, fV r_i64 0)]) (mkO []) F 61 a w := hAt
          refine then_n ?_
          refine wp_block ?_
          obtain ⟨o8, hl9, H⟩ := bindE H
          refine wp_mono (wp_loopN (f := f_ref09_CheckPanel_L1 N x0) (fun (s3 : Int) a w => At B h0 (mkG [(1, fRef GPanel.rep x0), (3, fV r_i64 s3)]) (mkO []) F 61 a w) (fun o e a w => (Sum.elim (fun v => e = .exit 0 ∧ At B h0 (mkG []) (mkO []) F 61 a w) (fun v => e = .ret ∧ At B h0 (mkG [(2, fV r_i64 v)]) (mkO []) F 61 a w)) o) ?_ N 0 o8 _ _ hl9 ?_) ?_
          · clear H hAt hl9
            intro s3 r12 a w H hAt
            unfold f_ref09_CheckPanel_L1 at H
            refine wp_seq ?_
            refine wp_seq ?_
            refine reg [⟨fV r_i64 s3, [], [(3, none)], []⟩,
                ⟨fRef (Rep.slice r_i64) x0.Readings, [], [(1, none)], []⟩,
                ⟨fV (Rep.slice r_i64) x0.Readings, [], [(48, some 1)], []⟩,
                ⟨fV r_i64 (List.length x0.Readings : Int), [], [(49, some 2)], []⟩,
                ⟨fV Rep.bool (cmpI .lss s3 (List.length x0.Readings : Int)), [], [(47, some 0), (50, some 3)], []⟩] [1, 3, 51] [] hAt
                ⟨ok_move rfl opd0,
                ok_field GPanel.l4 fo24_4 rfl opd0,
                ok_load ty22 rfl opd0,
                ok_len un22 rfl opd0,
                ok_cmp (op := .lss) (by simp) rfl rfl opd0 opd1, trivial⟩ (by kernel_rfl) ?_
            clear hAt
            intro a w hAt
            replace hAt : At B h0 (mkG [(1, fRef GPanel.rep x0), (3, fV r_i64 s3), (51, fV Rep.bool (cmpI .lss s3 (List.length x0.Readings : Int)))]) (mkO []) F 61 a w := hAt
            refine then_n ?_
            refine wp_if hAt (by rfl) ?_ ?_
            · intro hb7
              have H := iteT hb7 H
              refine wp_skip ?_
              refine then_n ?_
              refine wp_seq ?_
              refine wp_block ?_
              refine wp_seq ?_
              obtain ⟨v4, hv4, H⟩ := bindE H
              obtain ⟨v5, hv5, H⟩ := bindE H
              refine reg [⟨fRef (Rep.slice r_i64) x0.Readings, [], [(1, none)], []⟩,
                  ⟨fV (Rep.slice r_i64) x0.Readings, [], [(54, some 0)], []⟩,
                  ⟨fV r_i64 s3, [], [(3, none)], []⟩,
                  ⟨fRef r_i64 v4, [], [(55, some 1), (56, some 2)], []⟩,
                  ⟨fV r_i64 v4, [], [(57, some 3)], []⟩,
                  ⟨fV Rep.bool v5, [], [(58, some 4)], []⟩,
                  ⟨fV Rep.bool (!v5), [], [(59, some 5)], []⟩] [1, 3, 60] [] hAt
                  ⟨ok_field GPanel.l4 fo24_4 rfl opd0,
                  ok_load ty22 rfl opd0,
                  ok_move rfl opd0,
                  ok_index ty3 un22 hv4 rfl opd0 opd1,
                  ok_load ty3 rfl opd0,
                  ok_call (ok_f_ref09_within N v4 0 20000 _ hv5) Try.func69 (by kernel_rfl) (by kernel_rfl) rfl ⟨opd0, ⟨opdI, ⟨opdI, trivial⟩⟩⟩,
                  ok_not rfl opd0, trivial⟩ (by kernel_rfl) ?_
              clear hAt
              intro a w hAt
              replace hAt : At B h0 (mkG [(1, fRef GPanel.rep x0), (3, fV r_i64 s3), (60, fV Rep.bool (!v5))]) (mkO []) F 61 a w := hAt
              refine then_n ?_
              refine wp_if hAt (by rfl) ?_ ?_
              · intro hb6
                have H := iteT hb6 H
                refine wp_seq ?_
                refine reg [⟨fV r_i64 2, [], [], []⟩] [2] [] hAt
                    ⟨ok_assign rfl opdI, trivial⟩ (by kernel_rfl) ?_
                clear hAt
                intro a w hAt
                replace hAt : At B h0 (mkG [(2, fV r_i64 2)]) (mkO []) F 61 a w := hAt
                refine then_n ?_
                refine wp_ret ?_
                refine blk_r ?_
                refine then_r ?_
                cases H
                exact ⟨ret_ne, rfl, hAt.pick [2] []⟩
              · intro hb6
                have H := iteF hb6 H
                refine wp_skip ?_
                refine blk_n ?_
                refine then_n ?_
                refine reg [⟨fV r_i64 s3, [], [(3, none)], []⟩,
                    ⟨fV r_i64 (IntKind.i64.wrap (s3 + 1)), [], [(52, some 0)], []⟩,
                    ⟨fV r_i64 (IntKind.i64.wrap (s3 + 1)), [], [(53, some 1)], []⟩] [1, 3] [] hAt
                    ⟨ok_move rfl opd0,
                    ok_add rfl opd0 opdI,
                    ok_assign rfl opd0, trivial⟩ (by kernel_rfl) ?_
                clear hAt
                intro a w hAt
                replace hAt : At B h0 (mkG [(1, fRef GPanel.rep x0), (3, fV r_i64 (IntKind.i64.wrap (s3 + 1)))]) (mkO []) F 61 a w := hAt
                cases H
                exact ⟨rfl, hAt.pick [1, 3] []⟩
            · intro hb7
              have H := iteF hb7 H
              refine wp_exit ?_
              refine then_x ?_
              cases H
              exact ⟨ex_ne, rfl, hAt.pick [] []⟩
          · exact hAt.pick [1, 3] []
          · clear hAt
            intro e a w hp
            cases o8 with
            | inl l10 =>
              rw [Sum.elim_inl] at H
              obtain ⟨rfl, hAt⟩ := hp
              refine blk_eq ?_
              refine then_n ?_
              refine wp_seq ?_
              refine reg [⟨fV r_i64 0, [], [], []⟩] [2] [] hAt
                  ⟨ok_assign rfl opdI, trivial⟩ (by kernel_rfl) ?_
              clear hAt
              intro a w hAt
              replace hAt : At B h0 (mkG [(2, fV r_i64 0)]) (mkO []) F 61 a w := hAt
              refine then_n ?_
              refine wp_ret ?_
              cases H
              exact ret1 rfl (rv_tmp rfl rfl) hAt
            | inr r11 =>
              rw [Sum.elim_inr] at H
              replace hp := hp
              obtain ⟨rfl, hAt⟩ := hp
              refine blk_r ?_
              refine then_r ?_
              cases H
              exact ret1 rfl (rv_tmp rfl rfl) hAt
theorem ok_f_ref09_CheckRule (N : Nat) (x0 : GRule) (r : Int) (H : f_ref09_CheckRule N x0 = some r) : FnOk Try.prog 39 [fV GRule.rep x0] (fV r_i64 r) := by
  unfold f_ref09_CheckRule at H
  refine fn_enter Try.func39 rfl rfl (by kernel_rfl) ?_
  intro κ B h0 F a w hAt
  refine wp_seq ?_
  refine reg [⟨fRef GRule.rep x0, [], [(0, none)], []⟩,
      ⟨fV r_i64 0, [], [], []⟩] [1] [] hAt
      ⟨ok_box rfl opd0,
      ok_assign rfl opdI, trivial⟩ (by kernel_rfl) ?_
  clear hAt
  intro a w hAt
  replace hAt : At B h0 (mkG [(1, fRef GRule.rep x0)]) (mkO []) F 18 a w := hAt
  refine then_n ?_
  refine wp_seq ?_
  refine wp_seq ?_
  refine reg [⟨fRef r_i64 x0.Substantial, [], [(1, none)], []⟩,
      ⟨fV r_i64 x0.Substantial, [], [(3, some 0)], []⟩,
      ⟨fV Rep.bool (cmpI .lss x0.Substantial 0), [], [(4, some 1)], []⟩,
      ⟨fV Rep.bool (cmpI .lss x0.Substantial 0), [], [(5, some 2)], []⟩,
      ⟨Fact.when ((!(cmpI .lss x0.Substantial 0)) = true) (fRef r_i64 x0.Substantial), [], [(6, some 3), (1, none)], []⟩,
      ⟨Fact.when ((!(cmpI .lss x0.Substantial 0)) = true) (fV r_i64 x0.Substantial), [], [(6, some 3), (7, some 4)], []⟩,
      ⟨Fact.when ((!(cmpI .lss x0.Substantial 0)) = true) (fRef r_i64 x0.Renew), [], [(6, some 3), (1, none)], []⟩,
      ⟨Fact.when ((!(cmpI .lss x0.Substantial 0)) = true) (fV r_i64 x0.Renew), [], [(6, some 3), (9, some 6)], []⟩,
      ⟨Fact.when ((!(cmpI .lss x0.Substantial 0)) = true) (fV Rep.bool (cmpI .gtr x0.Substantial x0.Renew)), [], [(6, some 3), (8, some 5), (10, some 7)], []⟩,
      ⟨fV Rep.bool ((cmpI .lss x0.Substantial 0) || (cmpI .gtr x0.Substantial x0.Renew)), [], [(6, some 3), (11, some 8)], []⟩,
      ⟨fV Rep.bool ((cmpI .lss x0.Substantial 0) || (cmpI .gtr x0.Substantial x0.Renew)), [], [(12, some 9)], []⟩,
      ⟨Fact.when ((!((cmpI .lss x0.Substantial 0) || (cmpI .gtr x0.Substantial x0.Renew))) = true) (fRef r_i64 x0.Renew), [], [(13, some 10), (1, none)], []⟩,
      ⟨Fact.when ((!((cmpI .lss x0.Substantial 0) || (cmpI .gtr x0.Substantial x0.Renew))) = true) (fV r_i64 x0.Renew), [], [(13, some 10), (14, some 11)], []⟩,
      ⟨Fact.when ((!((cmpI .lss x0.Substantial 0) || (cmpI .gtr x0.Substantial x0.Renew))) = true) (fV Rep.bool (cmpI .gtr x0.Renew 1000)), [], [(13, some 10), (15, some 12)], []⟩,
      ⟨fV Rep.bool (((cmpI .lss x0.Substantial 0) || (cmpI .gtr x0.Substantial x0.Renew)) || (cmpI .gtr x0.Renew 1000)), [], [(13, some 10), (16, some 13)], []⟩] [17] [] hAt
      ⟨ok_field GRule.l0 fo26_0 rfl opd0,
      ok_load ty3 rfl opd0,
      ok_cmp (op := .lss) (by simp) rfl rfl opd0 opdI,
      ok_move rfl opd0,
      obl_tf rfl rfl rfl rfl rfl rfl rfl (fun hg => ok_field GRule.l0 fo26_0 rfl opd1),
      obl_tf rfl rfl rfl rfl rfl rfl rfl (fun hg => ok_load ty3 rfl (opd1.on hg)),
      obl_tf rfl rfl rfl rfl rfl rfl rfl (fun hg => ok_field GRule.l1 fo26_1 rfl opd1),
      obl_tf rfl rfl rfl rfl rfl rfl rfl (fun hg => ok_load ty3 rfl (opd1.on hg)),
      obl_tf rfl rfl rfl rfl rfl rfl rfl (fun hg => ok_cmp (op := .gtr) (by simp) rfl rfl (opd1.on hg) (opd2.on hg)),
      ok_or rfl opd0 (fun e => (opd1.on (notT e))),
      ok_move rfl opd0,
      obl_tf rfl rfl rfl rfl rfl rfl rfl (fun hg => ok_field GRule.l1 fo26_1 rfl opd1),
      obl_tf rfl rfl rfl rfl rfl rfl rfl (fun hg => ok_load ty3 rfl (opd1.on hg)),
      obl_tf rfl rfl rfl rfl rfl rfl rfl (fun hg => ok_cmp (op := .gtr) (by simp) rfl rfl (opd1.on hg) opdI),
      ok_or rfl opd0 (fun e => (opd1.on (notT e))), trivial⟩ (by kernel_rfl) ?_
  clear hAt
  intro a w hAt
  replace hAt : At B h0 (mkG [(17, fV Rep.bool (((cmpI .lss x0.Substantial 0) || (cmpI .gtr x0.Substantial x0.Renew)) || (cmpI .gtr x0.Renew 1000)))]) (mkO []) F 18 a w := hAt
  refine then_n ?_
  refine wp_if hAt (by rfl) ?_ ?_
  · intro hb1
    have H := iteT hb1 H
    refine wp_seq ?_
    refine reg [⟨fV r_i64 2, [], [], []⟩] [2] [] hAt
        ⟨ok_assign rfl opdI, trivial⟩ (by kernel_rfl) ?_
    clear hAt
    intro a w hAt
    replace hAt : At B h0 (mkG [(2, fV r_i64 2)]) (mkO []) F 18 a w := hAt
    refine then_n ?_
    refine wp_ret ?_
    refine then_r ?_
    cases H
    exact ret1 rfl (rv_tmp rfl rfl) hAt
  · intro hb1
    have H := iteF hb1 H
    refine wp_skip ?_
    refine then_n ?_
    refine wp_seq ?_
    refine reg [⟨fV r_i64 0, [], [], []⟩] [2] [] hAt
        ⟨ok_assign rfl opdI, trivial⟩ (by kernel_rfl) ?_
    clear hAt
    intro a w hAt
    replace hAt : At B h0 (mkG [(2, fV r_i64 0)]) (mkO []) F 18 a w := hAt
    refine then_n ?_
    refine wp_ret ?_
    cases H
    exact ret1 rfl (rv_tmp rfl rfl) hAt
theorem ok_f_base_Q (N : Nat) (x0 : Int) (x1 : Int) (r : GRat) (H : f_base_Q N x0 x1 = some r) : FnOk Try.prog 72 [fV r_i64 x0, fV r_i64 x1] (fV GRat.rep r) := by
  unfold f_base_Q at H
  refine fn_enter Try.func72 rfl rfl (by kernel_rfl) ?_
  intro κ B h0 F a w hAt
  refine wp_seq ?_
  refine reg [⟨Fact.triv, [(4, some (boxE 49 GRat.rep (⟨(⟨false, []⟩ : GInt), (⟨false, []⟩ : GInt)⟩ : GRat)))], [], []⟩] [0, 1] [4] hAt
      ⟨ok_alloc ty49 rfl rfl, trivial⟩ (by kernel_rfl) ?_
  clear hAt
  intro a w hAt
  replace hAt : At B h0 (mkG [(0, fV r_i64 x0), (1, fV r_i64 x1)]) (mkO [(4, boxE 49 GRat.rep (⟨(⟨false, []⟩ : GInt), (⟨false, []⟩ : GInt)⟩ : GRat))]) F 34 a w := hAt
  refine then_n ?_
  refine wp_seq ?_
  obtain ⟨o2, hl3, H⟩ := bindE H
  refine wp_mono (Q := (fun o e a w => (fun v => e = .normal ∧ At B h0 (mkG [(0, fV r_i64 v.1), (1, fV r_i64 v.2)]) (mkO [(4, boxE 49 GRat.rep (⟨(⟨false, []⟩ : GInt), (⟨false, []⟩ : GInt)⟩ : GRat))]) F 34 a w) o) o2) ?_ ?_
  · clear H
    have H := hl3
    clear hl3
    refine wp_seq ?_
    refine reg [⟨fV r_i64 x1, [], [(1, none)], []⟩,
        ⟨fV Rep.bool (cmpI .lss x1 0), [], [(7, some 0)], []⟩] [0, 1, 8] [4] hAt
        ⟨ok_move rfl opd0,
        ok_cmp (op := .lss) (by simp) rfl rfl opd0 opdI, trivial⟩ (by kernel_rfl) ?_
    clear hAt
    intro a w hAt
    replace hAt : At B h0 (mkG [(0, fV r_i64 x0), (1, fV r_i64 x1), (8, fV Rep.bool (cmpI .lss x1 0))]) (mkO [(4, boxE 49 GRat.rep (⟨(⟨false, []⟩ : GInt), (⟨false, []⟩ : GInt)⟩ : GRat))]) F 34 a w := hAt
    refine then_n ?_
    refine wp_if hAt (by rfl) ?_ ?_
    · intro hb1
      have H := iteT hb1 H
      refine reg [⟨fV r_i64 x0, [], [(0, none)], []⟩,
          ⟨fV r_i64 (IntKind.i64.wrap (0 - x0)), [], [(9, some 0)], []⟩,
          ⟨fV r_i64 x1, [], [(1, none)], []⟩,
          ⟨fV r_i64 (IntKind.i64.wrap (0 - x1)), [], [(11, some 2)], []⟩,
          ⟨fV r_i64 (IntKind.i64.wrap (0 - x0)), [], [(10, some 1)], []⟩,
          ⟨fV r_i64 (IntKind.i64.wrap (0 - x1)), [], [(12, some 3)], []⟩] [0, 1] [4] hAt
          ⟨ok_move rfl opd0,
          ok_neg rfl opd0,
          ok_move rfl opd0,
          ok_neg rfl opd0,
          ok_assign rfl opd0,
          ok_assign rfl opd0, trivial⟩ (by kernel_rfl) ?_
      clear hAt
      intro a w hAt
      replace hAt : At B h0 (mkG [(0, fV r_i64 (IntKind.i64.wrap (0 - x0))), (1, fV r_i64 (IntKind.i64.wrap (0 - x1)))]) (mkO [(4, boxE 49 GRat.rep (⟨(⟨false, []⟩ : GInt), (⟨false, []⟩ : GInt)⟩ : GRat))]) F 34 a w := hAt
      cases H
      exact ⟨rfl, hAt.pick [0, 1] [4]⟩
    · intro hb1
      have H := iteF hb1 H
      refine wp_skip ?_
      cases H
      exact ⟨rfl, hAt.pick [0, 1] [4]⟩
  · clear hAt
    intro e a w hp
    obtain ⟨rfl, hAt⟩ := hp
    refine then_n ?_
    refine wp_seq ?_
    refine reg [⟨fV r_i64 o2.1, [], [(0, none)], []⟩,
        ⟨fV r_i64 o2.2, [], [(1, none)], []⟩,
        ⟨fV r_i64 o2.1, [], [(13, some 0)], []⟩,
        ⟨fV r_i64 o2.2, [], [(14, some 1)], []⟩] [0, 1, 5, 6] [4] hAt
        ⟨ok_move rfl opd0,
        ok_move rfl opd0,
        ok_assign rfl opd0,
        ok_assign rfl opd0, trivial⟩ (by kernel_rfl) ?_
    clear hAt
    intro a w hAt
    replace hAt : At B h0 (mkG [(0, fV r_i64 o2.1), (1, fV r_i64 o2.2), (5, fV r_i64 o2.1), (6, fV r_i64 o2.2)]) (mkO [(4, boxE 49 GRat.rep (⟨(⟨false, []⟩ : GInt), (⟨false, []⟩ : GInt)⟩ : GRat))]) F 34 a w := hAt
    refine then_n ?_
    refine wp_seq ?_
    obtain ⟨o5, hl6, H⟩ := bindE H
    refine wp_mono (Q := (fun o e a w => (fun v => e = .normal ∧ At B h0 (mkG [(0, fV r_i64 o2.1), (1, fV r_i64 o2.2), (5, fV r_i64 v), (6, fV r_i64 o2.2)]) (mkO [(4, boxE 49 GRat.rep (⟨(⟨false, []⟩ : GInt), (⟨false, []⟩ : GInt)⟩ : GRat))]) F 34 a w) o) o5) ?_ ?_
    · clear H
      have H := hl6
      clear hl6
      refine wp_seq ?_
      refine reg [⟨fV r_i64 o2.1, [], [(5, none)], []⟩,
          ⟨fV Rep.bool (cmpI .lss o2.1 0), [], [(15, some 0)], []⟩] [0, 1, 5, 6, 16] [4] hAt
          ⟨ok_move rfl opd0,
          ok_cmp (op := .lss) (by simp) rfl rfl opd0 opdI, trivial⟩ (by kernel_rfl) ?_
      clear hAt
      intro a w hAt
      replace hAt : At B h0 (mkG [(0, fV r_i64 o2.1), (1, fV r_i64 o2.2), (5, fV r_i64 o2.1), (6, fV r_i64 o2.2), (16, fV Rep.bool (cmpI .lss o2.1 0))]) (mkO [(4, boxE 49 GRat.rep (⟨(⟨false, []⟩ : GInt), (⟨false, []⟩ : GInt)⟩ : GRat))]) F 34 a w := hAt
      refine then_n ?_
      refine wp_if hAt (by rfl) ?_ ?_
      · intro hb4
        have H := iteT hb4 H
        refine reg [⟨fV r_i64 o2.1, [], [(5, none)], []⟩,
            ⟨fV r_i64 (IntKind.i64.wrap (0 - o2.1)), [], [(17, some 0)], []⟩,
            ⟨fV r_i64 (IntKind.i64.wrap (0 - o2.1)), [], [(18, some 1)], []⟩] [0, 1, 5, 6] [4] hAt
            ⟨ok_move rfl opd0,
            ok_neg rfl opd0,
            ok_assign rfl opd0, trivial⟩ (by kernel_rfl) ?_
        clear hAt
        intro a w hAt
        replace hAt : At B h0 (mkG [(0, fV r_i64 o2.1), (1, fV r_i64 o2.2), (5, fV r_i64 (IntKind.i64.wrap (0 - o2.1))), (6, fV r_i64 o2.2)]) (mkO [(4, boxE 49 GRat.rep (⟨(⟨false, []⟩ : GInt), (⟨false, []⟩ : GInt)⟩ : GRat))]) F 34 a w := hAt
        cases H
        exact ⟨rfl, hAt.pick [0, 1, 5, 6] [4]⟩
      · intro hb4
        have H := iteF hb4 H
        refine wp_skip ?_
        cases H
        exact ⟨rfl, hAt.pick [0, 1, 5, 6] [4]⟩
    · clear hAt
      intro e a w hp
      obtain ⟨rfl, hAt⟩ := hp
      refine then_n ?_
      refine wp_seq ?_
      refine wp_block ?_
      obtain ⟨o10, hl11, H⟩ := bindE H
      refine wp_mono (wp_loopN (f := f_base_Q_L1 N) (fun (s7 : (Int × Int)) a w => At B h0 (mkG [(0, fV r_i64 o2.1), (1, fV r_i64 o2.2), (5, fV r_i64 s7.1), (6, fV r_i64 s7.2)]) (mkO [(4, boxE 49 GRat.rep (⟨(⟨false, []⟩ : GInt), (⟨false, []⟩ : GInt)⟩ : GRat))]) F 34 a w) (fun o e a w => (fun v => e = .exit 0 ∧ At B h0 (mkG [(0, fV r_i64 o2.1), (1, fV r_i64 o2.2), (5, fV r_i64 v)]) (mkO [(4, boxE 49 GRat.rep (⟨(⟨false, []⟩ : GInt), (⟨false, []⟩ : GInt)⟩ : GRat))]) F 34 a w) o) ?_ N (o5, o2.2) o10 _ _ hl11 ?_) ?_
      · clear H hAt hl11
        intro s7 r16 a w H hAt
        unfold f_base_Q_L1 at H
        refine wp_seq ?_
        refine wp_seq ?_
        refine reg [⟨fV r_i64 s7.2, [], [(6, none)], []⟩,
            ⟨fV Rep.bool (cmpI .gtr s7.2 0), [], [(19, some 0)], []⟩] [0, 1, 5, 6, 20] [4] hAt
            ⟨ok_move rfl opd0,
            ok_cmp (op := .gtr) (by simp) rfl rfl opd0 opdI, trivial⟩ (by kernel_rfl) ?_
        clear hAt
        intro a w hAt
        replace hAt : At B h0 (mkG [(0, fV r_i64 o2.1), (1, fV r_i64 o2.2), (5, fV r_i64 s7.1), (6, fV r_i64 s7.2), (20, fV Rep.bool (cmpI .gtr s7.2 0))]) (mkO [(4, boxE 49 GRat.rep (⟨(⟨false, []⟩ : GInt), (⟨false, []⟩ : GInt)⟩ : GRat))]) F 34 a w := hAt
        refine then_n ?_
        refine wp_if hAt (by rfl) ?_ ?_
        · intro hb9
          have H := iteT hb9 H
          refine wp_skip ?_
          refine then_n ?_
          refine wp_block ?_
          obtain ⟨v8, hv8, H⟩ := bindE H
          refine regd [⟨fV r_i64 s7.2, [], [(6, none)], []⟩,
              ⟨fV r_i64 s7.1, [], [(5, none)], []⟩,
              ⟨fV r_i64 s7.2, [], [(6, none)], []⟩,
              ⟨fV r_i64 v8, [], [(22, some 1), (23, some 2)], []⟩,
              ⟨fV r_i64 s7.2, [], [(21, some 0)], []⟩,
              ⟨fV r_i64 v8, [], [(24, some 3)], []⟩] [0, 1, 2, 3, 4, 5] [0, 1, 2, 3, 4, 5] [0, 1, 5, 6] [4] hAt
              ⟨ok_move rfl opd0,
              ok_move rfl opd0,
              ok_move rfl opd0,
              ok_rem hv8 rfl opd0 opd1,
              ok_assign rfl opd0,
              ok_assign rfl opd0, trivial⟩ (by kernel_rfl) ?_
          clear hAt
          intro a w hAt
          replace hAt : At B h0 (mkG [(0, fV r_i64 o2.1), (1, fV r_i64 o2.2), (5, fV r_i64 s7.2), (6, fV r_i64 v8)]) (mkO [(4, boxE 49 GRat.rep (⟨(⟨false, []⟩ : GInt), (⟨false, []⟩ : GInt)⟩ : GRat))]) F 34 a w := hAt
          refine blk_n ?_
          cases H
          exact ⟨rfl, hAt.pick [0, 1, 5, 6] [4]⟩
        · intro hb9
          have H := iteF hb9 H
          refine wp_exit ?_
          refine then_x ?_
          cases H
          exact ⟨ex_ne, rfl, hAt.pick [0, 1, 5] [4]⟩
      · exact hAt.pick [0, 1, 5, 6] [4]
      · clear hAt
        intro e a w hp
        obtain ⟨rfl, hAt⟩ := hp
        refine blk_eq ?_
        refine then_n ?_
        refine wp_seq ?_
        obtain ⟨v12, hv12, H⟩ := bindE H
        obtain ⟨v13, hv13, H⟩ := bindE H
        obtain ⟨v14, hv14, H⟩ := bindE H
        obtain ⟨v15, hv15, H⟩ := bindE H
        refine regd [⟨fV r_i64 o2.1, [], [(0, none)], []⟩,
            ⟨fV r_i64 o10, [], [(5, none)], []⟩,
            ⟨fV r_i64 v12, [], [(25, some 0), (26, some 1)], []⟩,
            ⟨fV GInt.rep v13, [], [(27, some 2)], []⟩,
            ⟨fV r_i64 o2.2, [], [(1, none)], []⟩,
            ⟨fV r_i64 o10, [], [(5, none)], []⟩,
            ⟨fV r_i64 v14, [], [(29, some 4), (30, some 5)], []⟩,
            ⟨fV GInt.rep v15, [], [(31, some 6)], []⟩,
            ⟨fV GRat.rep (⟨v13, v15⟩ : GRat), [], [(28, some 3), (32, some 7)], []⟩,
            ⟨Fact.triv, [(4, some (boxE 49 GRat.rep (⟨v13, v15⟩ : GRat)))], [(33, some 8)], [(4, none)]⟩] [0, 1, 2, 3, 4, 5, 6, 7, 8, 9] [0, 1, 2, 3, 4, 5, 6, 7, 8, 9] [] [4] hAt
            ⟨ok_move rfl opd0,
            ok_move rfl opd0,
            ok_quo hv12 rfl opd0 opd1,
            ok_call (ok_f_base_Z N v12 _ hv13) Try.func80 (by kernel_rfl) (by kernel_rfl) rfl ⟨opd0, trivial⟩,
            ok_move rfl opd0,
            ok_move rfl opd0,
            ok_quo hv14 rfl opd0 opd1,
            ok_call (ok_f_base_Z N v14 _ hv15) Try.func80 (by kernel_rfl) (by kernel_rfl) rfl ⟨opd0, trivial⟩,
            ok_build ty49 rfl pl49 rfl (fillC GRat.l0 rfl opd0 (fillC GRat.l1 rfl opd1 fillN)),
            ok_storeBox ty49 rfl rfl opd0, trivial⟩ (by kernel_rfl) ?_
        clear hAt
        intro a w hAt
        replace hAt : At B h0 (mkG []) (mkO [(4, boxE 49 GRat.rep (⟨v13, v15⟩ : GRat))]) F 34 a w := hAt
        refine then_n ?_
        refine wp_ret ?_
        cases H
        exact ret1 rfl (rv_cell ty49 rfl) hAt
theorem ok_f_ref09_Remaining (N : Nat) (x0 : GPanel) (x1 : GPanel) (x2 : GRule) (r : GRat × Bool) (H : f_ref09_Remaining N x0 x1 x2 = some r) : FnOk Try.prog 40 [fV GPanel.rep x0, fV GPanel.rep x1, fV GRule.rep x2] (fT2 (fV GRat.rep (r.1)) (fV Rep.bool (r.2))) := by
  unfold f_ref09_Remaining at H
  refine fn_enter Try.func40 rfl rfl (by kernel_rfl) ?_
  intro κ B h0 F a w hAt
  refine wp_seq ?_
  refine reg [⟨fRef GPanel.rep x0, [], [(0, none)], []⟩,
      ⟨fRef GPanel.rep x1, [], [(1, none)], []⟩,
      ⟨fRef GRule.rep x2, [], [(2, none)], []⟩,
      ⟨Fact.triv, [(6, some (boxE 49 GRat.rep (⟨(⟨false, []⟩ : GInt), (⟨false, []⟩ : GInt)⟩ : GRat)))], [], []⟩,
      ⟨fV Rep.bool false, [], [], []⟩] [3, 4, 5] [6] hAt
      ⟨ok_box rfl opd0,
      ok_box rfl opd0,
      ok_box rfl opd0,
      ok_alloc ty49 rfl rfl,
      ok_assign rfl opdB, trivial⟩ (by kernel_rfl) ?_
  clear hAt
  intro a w hAt
  replace hAt : At B h0 (mkG [(3, fRef GPanel.rep x0), (4, fRef GPanel.rep x1), (5, fRef GRule.rep x2)]) (mkO [(6, boxE 49 GRat.rep (⟨(⟨false, []⟩ : GInt), (⟨false, []⟩ : GInt)⟩ : GRat))]) F 71 a w := hAt
  refine then_n ?_
  refine wp_seq ?_
  refine reg [⟨fV GRat.rep (⟨(⟨false, []⟩ : GInt), (⟨false, []⟩ : GInt)⟩ : GRat), [], [], []⟩,
      ⟨Fact.triv, [(8, some (boxE 49 GRat.rep (⟨(⟨false, []⟩ : GInt), (⟨false, []⟩ : GInt)⟩ : GRat)))], [], []⟩,
      ⟨Fact.triv, [(8, some (boxE 49 GRat.rep (⟨(⟨false, []⟩ : GInt), (⟨false, []⟩ : GInt)⟩ : GRat)))], [(15, some 0)], [(8, some 1)]⟩,
      ⟨fV Rep.bool false, [], [], []⟩] [3, 4, 5, 9] [6, 8] hAt
      ⟨ok_build ty49 rfl pl49 rfl fillN,
      ok_alloc ty49 rfl rfl,
      ok_storeBox ty49 rfl rfl opd0,
      ok_assign rfl opdB, trivial⟩ (by kernel_rfl) ?_
  clear hAt
  intro a w hAt
  replace hAt : At B h0 (mkG [(3, fRef GPanel.rep x0), (4, fRef GPanel.rep x1), (5, fRef GRule.rep x2), (9, fV Rep.bool false)]) (mkO [(6, boxE 49 GRat.rep (⟨(⟨false, []⟩ : GInt), (⟨false, []⟩ : GInt)⟩ : GRat)), (8, boxE 49 GRat.rep (⟨(⟨false, []⟩ : GInt), (⟨false, []⟩ : GInt)⟩ : GRat))]) F 71 a w := hAt
  refine then_n ?_
  refine wp_seq ?_
  refine wp_seq ?_
  refine reg [⟨fV r_i64 0, [], [], []⟩] [3, 4, 5, 9, 10] [6, 8] hAt
      ⟨ok_assign rfl opdI, trivial⟩ (by kernel_rfl) ?_
  clear hAt
  intro a w hAt
  replace hAt : At B h0 (mkG [(3, fRef GPanel.rep x0), (4, fRef GPanel.rep x1), (5, fRef GRule.rep x2), (9, fV Rep.bool false), (10, fV r_i64 0)]) (mkO [(6, boxE 49 GRat.rep (⟨(⟨false, []⟩ : GInt), (⟨false, []⟩ : GInt)⟩ : GRat)), (8, boxE 49 GRat.rep (⟨(⟨false, []⟩ : GInt), (⟨false, []⟩ : GInt)⟩ : GRat))]) F 71 a w := hAt
  refine then_n ?_
  refine wp_block ?_
  obtain ⟨o9, hl10, H⟩ := bindE H
  refine wp_mono (wp_loopN (f := f_ref09_Remaining_L1 N x0 x1 x2) (fun (s1 : (GRat × Bool × Int)) a w => At B h0 (mkG [(3, fRef GPanel.rep x0), (4, fRef GPanel.rep x1), (5, fRef GRule.rep x2), (9, fV Rep.bool s1.2.1), (10, fV r_i64 s1.2.2)]) (mkO [(6, boxE 49 GRat.rep (⟨(⟨false, []⟩ : GInt), (⟨false, []⟩ : GInt)⟩ : GRat)), (8, boxE 49 GRat.rep s1.1)]) F 71 a w) (fun o e a w => (fun v => e = .exit 0 ∧ At B h0 (mkG [(9, fV Rep.bool v.2)]) (mkO [(6, boxE 49 GRat.rep (⟨(⟨false, []⟩ : GInt), (⟨false, []⟩ : GInt)⟩ : GRat)), (8, boxE 49 GRat.rep v.1)]) F 71 a w) o) ?_ N ((⟨(⟨false, []⟩ : GInt), (⟨false, []⟩ : GInt)⟩ : GRat), false, 0) o9 _ _ hl10 ?_) ?_
  · clear H hAt hl10
    intro s1 r11 a w H hAt
    unfold f_ref09_Remaining_L1 at H
    refine wp_seq ?_
    refine wp_seq ?_
    refine reg [⟨fV r_i64 s1.2.2, [], [(10, none)], []⟩,
        ⟨fRef (Rep.slice r_i64) x1.Readings, [], [(4, none)], []⟩,
        ⟨fV (Rep.slice r_i64) x1.Readings, [], [(17, some 1)], []⟩,
        ⟨fV r_i64 (List.length x1.Readings : Int), [], [(18, some 2)], []⟩,
        ⟨fV Rep.bool (cmpI .lss s1.2.2 (List.length x1.Readings : Int)), [], [(16, some 0), (19, some 3)], []⟩] [3, 4, 5, 9, 10, 20] [6, 8] hAt
        ⟨ok_move rfl opd0,
        ok_field GPanel.l4 fo24_4 rfl opd0,
        ok_load ty22 rfl opd0,
        ok_len un22 rfl opd0,
        ok_cmp (op := .lss) (by simp) rfl rfl opd0 opd1, trivial⟩ (by kernel_rfl) ?_
    clear hAt
    intro a w hAt
    replace hAt : At B h0 (mkG [(3, fRef GPanel.rep x0), (4, fRef GPanel.rep x1), (5, fRef GRule.rep x2), (9, fV Rep.bool s1.2.1), (10, fV r_i64 s1.2.2), (20, fV Rep.bool (cmpI .lss s1.2.2 (List.length x1.Readings : Int)))]) (mkO [(6, boxE 49 GRat.rep (⟨(⟨false, []⟩ : GInt), (⟨false, []⟩ : GInt)⟩ : GRat)), (8, boxE 49 GRat.rep s1.1)]) F 71 a w := hAt
    refine then_n ?_
    refine wp_if hAt (by rfl) ?_ ?_
    · intro hb8
      have H := iteT hb8 H
      refine wp_skip ?_
      refine then_n ?_
      refine wp_seq ?_
      refine wp_block ?_
      refine wp_seq ?_
      obtain ⟨v2, hv2, H⟩ := bindE H
      obtain ⟨v3, hv3, H⟩ := bindE H
      refine regd [⟨fRef (Rep.slice r_i64) x0.Readings, [], [(3, none)], []⟩,
          ⟨fV (Rep.slice r_i64) x0.Readings, [], [(23, some 0)], []⟩,
          ⟨fV r_i64 s1.2.2, [], [(10, none)], []⟩,
          ⟨fRef r_i64 v2, [], [(24, some 1), (25, some 2)], []⟩,
          ⟨fV r_i64 v2, [], [(26, some 3)], []⟩,
          ⟨fRef (Rep.slice r_i64) x1.Readings, [], [(4, none)], []⟩,
          ⟨fV (Rep.slice r_i64) x1.Readings, [], [(28, some 5)], []⟩,
          ⟨fV r_i64 s1.2.2, [], [(10, none)], []⟩,
          ⟨fRef r_i64 v3, [], [(29, some 6), (30, some 7)], []⟩,
          ⟨fV r_i64 v3, [], [(31, some 8)], []⟩,
          ⟨fV r_i64 v2, [], [(27, some 4)], []⟩,
          ⟨fV r_i64 v3, [], [(32, some 9)], []⟩] [0, 1, 2, 3, 4, 5, 6, 7, 8, 9, 10, 11] [0, 1, 2, 3, 4, 10, 5, 6, 7, 8, 9, 11] [3, 4, 5, 9, 10, 11, 12] [6, 8] hAt
          ⟨ok_field GPanel.l4 fo24_4 rfl opd0,
          ok_load ty22 rfl opd0,
          ok_move rfl opd0,
          ok_index ty3 un22 hv2 rfl opd0 opd1,
          ok_load ty3 rfl opd0,
          ok_field GPanel.l4 fo24_4 rfl opd0,
          ok_load ty22 rfl opd0,
          ok_move rfl opd0,
          ok_index ty3 un22 hv3 rfl opd0 opd1,
          ok_load ty3 rfl opd0,
          ok_assign rfl opd0,
          ok_assign rfl opd0, trivial⟩ (by kernel_rfl) ?_
      clear hAt
      intro a w hAt
      replace hAt : At B h0 (mkG [(3, fRef GPanel.rep x0), (4, fRef GPanel.rep x1), (5, fRef GRule.rep x2), (9, fV Rep.bool s1.2.1), (10, fV r_i64 s1.2.2), (11, fV r_i64 v2), (12, fV r_i64 v3)]) (mkO [(6, boxE 49 GRat.rep (⟨(⟨false, []⟩ : GInt), (⟨false, []⟩ : GInt)⟩ : GRat)), (8, boxE 49 GRat.rep s1.1)]) F 71 a w := hAt
      refine then_n ?_
      refine wp_seq ?_
      refine wp_seq ?_
      refine reg [⟨fV r_i64 v2, [], [(11, none)], []⟩,
          ⟨fV Rep.bool (cmpI .eql v2 0), [], [(33, some 0)], []⟩,
          ⟨fV Rep.bool (cmpI .eql v2 0), [], [(34, some 1)], []⟩,
          ⟨Fact.when ((!(cmpI .eql v2 0)) = true) (fV r_i64 v3), [], [(35, some 2), (12, none)], []⟩,
          ⟨Fact.when ((!(cmpI .eql v2 0)) = true) (fV Rep.bool (cmpI .eql v3 0)), [], [(35, some 2), (36, some 3)], []⟩,
          ⟨fV Rep.bool ((cmpI .eql v2 0) || (cmpI .eql v3 0)), [], [(35, some 2), (37, some 4)], []⟩,
          ⟨fV Rep.bool ((cmpI .eql v2 0) || (cmpI .eql v3 0)), [], [(38, some 5)], []⟩,
          ⟨Fact.when ((!((cmpI .eql v2 0) || (cmpI .eql v3 0))) = true) (fV r_i64 v2), [], [(39, some 6), (11, none)], []⟩,
          ⟨Fact.when ((!((cmpI .eql v2 0) || (cmpI .eql v3 0))) = true) (fV r_i64 v3), [], [(39, some 6), (12, none)], []⟩,
          ⟨Fact.when ((!((cmpI .eql v2 0) || (cmpI .eql v3 0))) = true) (fV Rep.bool (cmpI .leq v2 v3)), [], [(39, some 6), (40, some 7), (41, some 8)], []⟩,
          ⟨fV Rep.bool (((cmpI .eql v2 0) || (cmpI .eql v3 0)) || (cmpI .leq v2 v3)), [], [(39, some 6), (42, some 9)], []⟩] [3, 4, 5, 9, 10, 11, 12, 43] [6, 8] hAt
          ⟨ok_move rfl opd0,
          ok_cmp (op := .eql) (by simp) rfl rfl opd0 opdI,
          ok_move rfl opd0,
          obl_tf rfl rfl rfl rfl rfl rfl rfl (fun hg => ok_move rfl opd1),
          obl_tf rfl rfl rfl rfl rfl rfl rfl (fun hg => ok_cmp (op := .eql) (by simp) rfl rfl (opd1.on hg) opdI),
          ok_or rfl opd0 (fun e => (opd1.on (notT e))),
          ok_move rfl opd0,
          obl_tf rfl rfl rfl rfl rfl rfl rfl (fun hg => ok_move rfl opd1),
          obl_tf rfl rfl rfl rfl rfl rfl rfl (fun hg => ok_move rfl opd1),
          obl_tf rfl rfl rfl rfl rfl rfl rfl (fun hg => ok_cmp (op := .leq) (by simp) rfl rfl (opd1.on hg) (opd2.on hg)),
          ok_or rfl opd0 (fun e => (opd1.on (notT e))), trivial⟩ (by kernel_rfl) ?_
      clear hAt
      intro a w hAt
      replace hAt : At B h0 (mkG [(3, fRef GPanel.rep x0), (4, fRef GPanel.rep x1), (5, fRef GRule.rep x2), (9, fV Rep.bool s1.2.1), (10, fV r_i64 s1.2.2), (11, fV r_i64 v2), (12, fV r_i64 v3), (43, fV Rep.bool (((cmpI .eql v2 0) || (cmpI .eql v3 0)) || (cmpI .leq v2 v3)))]) (mkO [(6, boxE 49 GRat.rep (⟨(⟨false, []⟩ : GInt), (⟨false, []⟩ : GInt)⟩ : GRat)), (8, boxE 49 GRat.rep s1.1)]) F 71 a w := hAt
      refine then_n ?_
      refine wp_if hAt (by rfl) ?_ ?_
      · intro hb7
        have H := iteT hb7 H
        refine wp_exit ?_
        refine then_x ?_
        refine blk_eq ?_
        refine then_n ?_
        refine reg [⟨fV r_i64 s1.2.2, [], [(10, none)], []⟩,
            ⟨fV r_i64 (IntKind.i64.wrap (s1.2.2 + 1)), [], [(21, some 0)], []⟩,
            ⟨fV r_i64 (IntKind.i64.wrap (s1.2.2 + 1)), [], [(22, some 1)], []⟩] [3, 4, 5, 9, 10] [6, 8] hAt
            ⟨ok_move rfl opd0,
            ok_add rfl opd0 opdI,
            ok_assign rfl opd0, trivial⟩ (by kernel_rfl) ?_
        clear hAt
        intro a w hAt
        replace hAt : At B h0 (mkG [(3, fRef GPanel.rep x0), (4, fRef GPanel.rep x1), (5, fRef GRule.rep x2), (9, fV Rep.bool s1.2.1), (10, fV r_i64 (IntKind.i64.wrap (s1.2.2 + 1)))]) (mkO [(6, boxE 49 GRat.rep (⟨(⟨false, []⟩ : GInt), (⟨false, []⟩ : GInt)⟩ : GRat)), (8, boxE 49 GRat.rep s1.1)]) F 71 a w := hAt
        cases H
        exact ⟨rfl, hAt.pick [3, 4, 5, 9, 10] [6, 8]⟩
      · intro hb7
        have H := iteF hb7 H
        refine wp_skip ?_
        refine then_n ?_
        refine wp_seq ?_
        refine reg [⟨fV r_i64 v3, [], [(12, none)], []⟩,
            ⟨fV r_i64 (IntKind.i64.wrap (1000 * v3)), [], [(44, some 0)], []⟩,
            ⟨fRef r_i64 x2.Renew, [], [(5, none)], []⟩,
            ⟨fV r_i64 x2.Renew, [], [(46, some 2)], []⟩,
            ⟨fV r_i64 (IntKind.i64.wrap (1000 - x2.Renew)), [], [(47, some 3)], []⟩,
            ⟨fRef r_i64 x1.Built, [], [(4, none)], []⟩,
            ⟨fV r_i64 x1.Built, [], [(49, some 5)], []⟩,
            ⟨fV r_i64 (IntKind.i64.wrap ((IntKind.i64.wrap (1000 - x2.Renew)) * x1.Built)), [], [(48, some 4), (50, some 6)], []⟩,
            ⟨fV r_i64 (IntKind.i64.wrap ((IntKind.i64.wrap (1000 * v3)) - (IntKind.i64.wrap ((IntKind.i64.wrap (1000 - x2.Renew)) * x1.Built)))), [], [(45, some 1), (51, some 7)], []⟩,
            ⟨fV r_i64 (max (IntKind.i64.wrap ((IntKind.i64.wrap (1000 * v3)) - (IntKind.i64.wrap ((IntKind.i64.wrap (1000 - x2.Renew)) * x1.Built)))) 0), [], [(52, some 8)], []⟩,
            ⟨fV r_i64 (max (IntKind.i64.wrap ((IntKind.i64.wrap (1000 * v3)) - (IntKind.i64.wrap ((IntKind.i64.wrap (1000 - x2.Renew)) * x1.Built)))) 0), [], [(53, some 9)], []⟩] [3, 4, 5, 9, 10, 11, 12, 13] [6, 8] hAt
            ⟨ok_move rfl opd0,
            ok_mul rfl opdI opd0,
            ok_field GRule.l1 fo26_1 rfl opd0,
            ok_load ty3 rfl opd0,
            ok_sub rfl opdI opd0,
            ok_field GPanel.l3 fo24_3 rfl opd0,
            ok_load ty3 rfl opd0,
            ok_mul rfl opd0 opd1,
            ok_sub rfl opd0 opd1,
            ok_max rfl opd0 opdI,
            ok_assign rfl opd0, trivial⟩ (by kernel_rfl) ?_
        clear hAt
        intro a w hAt
        replace hAt : At B h0 (mkG [(3, fRef GPanel.rep x0), (4, fRef GPanel.rep x1), (5, fRef GRule.rep x2), (9, fV Rep.bool s1.2.1), (10, fV r_i64 s1.2.2), (11, fV r_i64 v2), (12, fV r_i64 v3), (13, fV r_i64 (max (IntKind.i64.wrap ((IntKind.i64.wrap (1000 * v3)) - (IntKind.i64.wrap ((IntKind.i64.wrap (1000 - x2.Renew)) * x1.Built)))) 0))]) (mkO [(6, boxE 49 GRat.rep (⟨(⟨false, []⟩ : GInt), (⟨false, []⟩ : GInt)⟩ : GRat)), (8, boxE 49 GRat.rep s1.1)]) F 71 a w := hAt
        refine then_n ?_
        refine wp_seq ?_
        obtain ⟨v4, hv4, H⟩ := bindE H
        refine reg [⟨fV r_i64 (max (IntKind.i64.wrap ((IntKind.i64.wrap (1000 * v3)) - (IntKind.i64.wrap ((IntKind.i64.wrap (1000 - x2.Renew)) * x1.Built)))) 0), [], [(13, none)], []⟩,
            ⟨fV r_i64 v2, [], [(11, none)], []⟩,
            ⟨fV r_i64 v3, [], [(12, none)], []⟩,
            ⟨fV r_i64 (IntKind.i64.wrap (v2 - v3)), [], [(55, some 1), (56, some 2)], []⟩,
            ⟨fV r_i64 (IntKind.i64.wrap (1000 * (IntKind.i64.wrap (v2 - v3)))), [], [(57, some 3)], []⟩,
            ⟨fV GRat.rep v4, [], [(54, some 0), (58, some 4)], []⟩,
            ⟨Fact.triv, [(14, some (boxE 49 GRat.rep (⟨(⟨false, []⟩ : GInt), (⟨false, []⟩ : GInt)⟩ : GRat)))], [], []⟩,
            ⟨Fact.triv, [(14, some (boxE 49 GRat.rep v4))], [(59, some 5)], [(14, some 6)]⟩] [3, 4, 5, 9, 10] [6, 8, 14] hAt
            ⟨ok_move rfl opd0,
            ok_move rfl opd0,
            ok_move rfl opd0,
            ok_sub rfl opd0 opd1,
            ok_mul rfl opdI opd0,
            ok_call (ok_f_base_Q N (max (IntKind.i64.wrap ((IntKind.i64.wrap (1000 * v3)) - (IntKind.i64.wrap ((IntKind.i64.wrap (1000 - x2.Renew)) * x1.Built)))) 0) (IntKind.i64.wrap (1000 * (IntKind.i64.wrap (v2 - v3)))) _ hv4) Try.func72 (by kernel_rfl) (by kernel_rfl) rfl ⟨opd0, ⟨opd1, trivial⟩⟩,
            ok_alloc ty49 rfl rfl,
            ok_storeBox ty49 rfl rfl opd0, trivial⟩ (by kernel_rfl) ?_
        clear hAt
        intro a w hAt
        replace hAt : At B h0 (mkG [(3, fRef GPanel.rep x0), (4, fRef GPanel.rep x1), (5, fRef GRule.rep x2), (9, fV Rep.bool s1.2.1), (10, fV r_i64 s1.2.2)]) (mkO [(6, boxE 49 GRat.rep (⟨(⟨false, []⟩ : GInt), (⟨false, []⟩ : GInt)⟩ : GRat)), (8, boxE 49 GRat.rep s1.1), (14, boxE 49 GRat.rep v4)]) F 71 a w := hAt
        refine then_n ?_
        refine wp_seq ?_
        obtain ⟨v5, hv5, H⟩ := bindE H
        refine reg [⟨fV Rep.bool s1.2.1, [], [(9, none)], []⟩,
            ⟨fV Rep.bool (!s1.2.1), [], [(60, some 0)], []⟩,
            ⟨fV Rep.bool (!s1.2.1), [], [(61, some 1)], []⟩,
            ⟨Fact.when ((!(!s1.2.1)) = true) (fV GRat.rep v4), [], [(62, some 2)], [(14, none)]⟩,
            ⟨Fact.when ((!(!s1.2.1)) = true) (fV GRat.rep s1.1), [], [(62, some 2)], [(8, none)]⟩,
            ⟨Fact.when ((!(!s1.2.1)) = true) (fV r_i64 v5), [], [(62, some 2), (63, some 3), (64, some 4)], []⟩,
            ⟨Fact.when ((!(!s1.2.1)) = true) (fV Rep.bool (cmpI .lss v5 0)), [], [(62, some 2), (65, some 5)], []⟩,
            ⟨fV Rep.bool ((!s1.2.1) || (cmpI .lss v5 0)), [], [(62, some 2), (66, some 6)], []⟩] [3, 4, 5, 9, 10, 67] [6, 8, 14] hAt
            ⟨ok_move rfl opd0,
            ok_not rfl opd0,
            ok_move rfl opd0,
            obl_tf rfl rfl rfl rfl rfl rfl rfl (fun hg => ok_loadBox ty49 rfl),
            obl_tf rfl rfl rfl rfl rfl rfl rfl (fun hg => ok_loadBox ty49 rfl),
            obl_tf rfl rfl rfl rfl rfl rfl rfl (fun hg => ok_call (ok_f_ref01_CmpRat N v4 s1.1 _ (iteT hg hv5)) Try.func44 (by kernel_rfl) (by kernel_rfl) rfl ⟨(opd1.on hg), ⟨(opd2.on hg), trivial⟩⟩),
            obl_tf rfl rfl rfl rfl rfl rfl rfl (fun hg => ok_cmp (op := .lss) (by simp) rfl rfl (opd1.on hg) opdI),
            ok_or rfl opd0 (fun e => (opd1.on (notT e))), trivial⟩ (by kernel_rfl) ?_
        clear hAt
        intro a w hAt
        replace hAt : At B h0 (mkG [(3, fRef GPanel.rep x0), (4, fRef GPanel.rep x1), (5, fRef GRule.rep x2), (9, fV Rep.bool s1.2.1), (10, fV r_i64 s1.2.2), (67, fV Rep.bool ((!s1.2.1) || (cmpI .lss v5 0)))]) (mkO [(6, boxE 49 GRat.rep (⟨(⟨false, []⟩ : GInt), (⟨false, []⟩ : GInt)⟩ : GRat)), (8, boxE 49 GRat.rep s1.1), (14, boxE 49 GRat.rep v4)]) F 71 a w := hAt
        refine then_n ?_
        refine wp_if hAt (by rfl) ?_ ?_
        · intro hb6
          have H := iteT hb6 H
          refine reg [⟨fV GRat.rep v4, [], [], [(14, none)]⟩,
              ⟨Fact.triv, [(8, some (boxE 49 GRat.rep v4))], [(68, some 0)], [(8, none)]⟩,
              ⟨fV Rep.bool true, [], [], []⟩] [3, 4, 5, 9, 10] [6, 8] hAt
              ⟨ok_loadBox ty49 rfl,
              ok_storeBox ty49 rfl rfl opd0,
              ok_assign rfl opdB, trivial⟩ (by kernel_rfl) ?_
          clear hAt
          intro a w hAt
          replace hAt : At B h0 (mkG [(3, fRef GPanel.rep x0), (4, fRef GPanel.rep x1), (5, fRef GRule.rep x2), (9, fV Rep.bool true), (10, fV r_i64 s1.2.2)]) (mkO [(6, boxE 49 GRat.rep (⟨(⟨false, []⟩ : GInt), (⟨false, []⟩ : GInt)⟩ : GRat)), (8, boxE 49 GRat.rep v4)]) F 71 a w := hAt
          refine blk_n ?_
          refine then_n ?_
          refine reg [⟨fV r_i64 s1.2.2, [], [(10, none)], []⟩,
              ⟨fV r_i64 (IntKind.i64.wrap (s1.2.2 + 1)), [], [(21, some 0)], []⟩,
              ⟨fV r_i64 (IntKind.i64.wrap (s1.2.2 + 1)), [], [(22, some 1)], []⟩] [3, 4, 5, 9, 10] [6, 8] hAt
              ⟨ok_move rfl opd0,
              ok_add rfl opd0 opdI,
              ok_assign rfl opd0, trivial⟩ (by kernel_rfl) ?_
          clear hAt
          intro a w hAt
          replace hAt : At B h0 (mkG [(3, fRef GPanel.rep x0), (4, fRef GPanel.rep x1), (5, fRef GRule.rep x2), (9, fV Rep.bool true), (10, fV r_i64 (IntKind.i64.wrap (s1.2.2 + 1)))]) (mkO [(6, boxE 49 GRat.rep (⟨(⟨false, []⟩ : GInt), (⟨false, []⟩ : GInt)⟩ : GRat)), (8, boxE 49 GRat.rep v4)]) F 71 a w := hAt
          cases H
          exact ⟨rfl, hAt.pick [3, 4, 5, 9, 10] [6, 8]⟩
        · intro hb6
          have H := iteF hb6 H
          refine wp_skip ?_
          refine blk_n ?_
          refine then_n ?_
          refine reg [⟨fV r_i64 s1.2.2, [], [(10, none)], []⟩,
              ⟨fV r_i64 (IntKind.i64.wrap (s1.2.2 + 1)), [], [(21, some 0)], []⟩,
              ⟨fV r_i64 (IntKind.i64.wrap (s1.2.2 + 1)), [], [(22, some 1)], []⟩] [3, 4, 5, 9, 10] [6, 8] hAt
              ⟨ok_move rfl opd0,
              ok_add rfl opd0 opdI,
              ok_assign rfl opd0, trivial⟩ (by kernel_rfl) ?_
          clear hAt
          intro a w hAt
          replace hAt : At B h0 (mkG [(3, fRef GPanel.rep x0), (4, fRef GPanel.rep x1), (5, fRef GRule.rep x2), (9, fV Rep.bool s1.2.1), (10, fV r_i64 (IntKind.i64.wrap (s1.2.2 + 1)))]) (mkO [(6, boxE 49 GRat.rep (⟨(⟨false, []⟩ : GInt), (⟨false, []⟩ : GInt)⟩ : GRat)), (8, boxE 49 GRat.rep s1.1)]) F 71 a w := hAt
          cases H
          exact ⟨rfl, hAt.pick [3, 4, 5, 9, 10] [6, 8]⟩
    · intro hb8
      have H := iteF hb8 H
      refine wp_exit ?_
      refine then_x ?_
      cases H
      exact ⟨ex_ne, rfl, hAt.pick [9] [6, 8]⟩
  · exact hAt.pick [3, 4, 5, 9, 10] [6, 8]
  · clear hAt
    intro e a w hp
    obtain ⟨rfl, hAt⟩ := hp
    refine blk_eq ?_
    refine then_n ?_
    refine wp_seq ?_
    refine reg [⟨fV GRat.rep o9.1, [], [], [(8, none)]⟩,
        ⟨fV Rep.bool o9.2, [], [(9, none)], []⟩,
        ⟨Fact.triv, [(6, some (boxE 49 GRat.rep o9.1))], [(69, some 0)], [(6, none)]⟩,
        ⟨fV Rep.bool o9.2, [], [(70, some 1)], []⟩] [7] [6] hAt
        ⟨ok_loadBox ty49 rfl,
        ok_move rfl opd0,
        ok_storeBox ty49 rfl rfl opd0,
        ok_assign rfl opd0, trivial⟩ (by kernel_rfl) ?_
    clear hAt
    intro a w hAt
    replace hAt : At B h0 (mkG [(7, fV Rep.bool o9.2)]) (mkO [(6, boxE 49 GRat.rep o9.1)]) F 71 a w := hAt
    refine then_n ?_
    refine wp_ret ?_
    cases H
    exact ret2 rfl (rv_cell ty49 rfl) (rv_tmp rfl rfl) hAt
end Go.KB
