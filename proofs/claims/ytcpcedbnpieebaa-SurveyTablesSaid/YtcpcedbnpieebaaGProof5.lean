/- The Go functions compute what the plain functions compute. Printed by a program. No condition. -/
import Derived.Test.YtcpcedbnpieebaaGProof4
namespace Go.KB
open Go.Proofs
set_option maxRecDepth 100000
set_option linter.unusedVariables false
theorem ok_f_survey_Interpolate (N : Nat) (x0 : (List GPoint)) (x1 : GRat) (r : GRat × Int) (H : f_survey_Interpolate N x0 x1 = some r) : FnOk Try.prog 42 [fV (Rep.slice GPoint.rep) x0, fV GRat.rep x1] (fT2 (fV GRat.rep (r.1)) (fV r_i64 (r.2))) := by
  unfold f_survey_Interpolate at H
  refine fn_enter Try.func42 rfl rfl (by kernel_rfl) ?_
  intro κ B h0 F a w hAt
  refine wp_seq ?_
  refine reg [⟨fRef (Rep.slice GPoint.rep) x0, [], [(0, none)], []⟩,
      ⟨fRef GRat.rep x1, [], [(1, none)], []⟩,
      ⟨Fact.triv, [(4, some (boxE 49 GRat.rep (⟨(⟨false, []⟩ : GInt), (⟨false, []⟩ : GInt)⟩ : GRat)))], [], []⟩,
      ⟨fV r_i64 0, [], [], []⟩] [2, 3] [4] hAt
      ⟨ok_box rfl opd0,
      ok_box rfl opd0,
      ok_alloc ty49 rfl rfl,
      ok_assign rfl opdI, trivial⟩ (by kernel_rfl) ?_
  clear hAt
  intro a w hAt
  replace hAt : At B h0 (mkG [(2, fRef (Rep.slice GPoint.rep) x0), (3, fRef GRat.rep x1)]) (mkO [(4, boxE 49 GRat.rep (⟨(⟨false, []⟩ : GInt), (⟨false, []⟩ : GInt)⟩ : GRat))]) F 119 a w := hAt
  refine then_n ?_
  refine wp_seq ?_
  refine wp_block ?_
  refine wp_seq ?_
  refine reg [⟨fV (Rep.slice GPoint.rep) x0, [], [(2, none)], []⟩,
      ⟨fV r_i64 (List.length x0 : Int), [], [(12, some 0)], []⟩,
      ⟨fV Rep.bool (cmpI .lss (List.length x0 : Int) 2), [], [(13, some 1)], []⟩,
      ⟨fV Rep.bool (cmpI .lss (List.length x0 : Int) 2), [], [(14, some 2)], []⟩] [2, 3, 11] [4] hAt
      ⟨ok_load ty73 rfl opd0,
      ok_len un73 rfl opd0,
      ok_cmp (op := .lss) (by simp) rfl rfl opd0 opdI,
      ok_assign rfl opd0, trivial⟩ (by kernel_rfl) ?_
  clear hAt
  intro a w hAt
  replace hAt : At B h0 (mkG [(2, fRef (Rep.slice GPoint.rep) x0), (3, fRef GRat.rep x1), (11, fV Rep.bool (cmpI .lss (List.length x0 : Int) 2))]) (mkO [(4, boxE 49 GRat.rep (⟨(⟨false, []⟩ : GInt), (⟨false, []⟩ : GInt)⟩ : GRat))]) F 119 a w := hAt
  refine then_n ?_
  refine wp_if hAt (by rfl) ?_ ?_
  · intro hb37
    have H := iteT hb37 H
    refine wp_seq ?_
    refine reg [⟨fV GRat.rep (⟨(⟨false, []⟩ : GInt), (⟨false, []⟩ : GInt)⟩ : GRat), [], [], []⟩,
        ⟨Fact.triv, [(4, some (boxE 49 GRat.rep (⟨(⟨false, []⟩ : GInt), (⟨false, []⟩ : GInt)⟩ : GRat)))], [(15, some 0)], [(4, none)]⟩,
        ⟨fV r_i64 11, [], [], []⟩] [5] [4] hAt
        ⟨ok_build ty49 rfl pl49 rfl fillN,
        ok_storeBox ty49 rfl rfl opd0,
        ok_assign rfl opdI, trivial⟩ (by kernel_rfl) ?_
    clear hAt
    intro a w hAt
    replace hAt : At B h0 (mkG [(5, fV r_i64 11)]) (mkO [(4, boxE 49 GRat.rep (⟨(⟨false, []⟩ : GInt), (⟨false, []⟩ : GInt)⟩ : GRat))]) F 119 a w := hAt
    refine then_n ?_
    refine wp_ret ?_
    refine blk_r ?_
    refine then_r ?_
    cases H
    exact ret2 rfl (rv_cell ty49 rfl) (rv_tmp rfl rfl) hAt
  · intro hb37
    have H := iteF hb37 H
    refine wp_seq ?_
    refine reg [⟨fV (Rep.slice GPoint.rep) x0, [], [(2, none)], []⟩,
        ⟨fV r_i64 (List.length x0 : Int), [], [(17, some 0)], []⟩,
        ⟨fV Rep.bool (cmpI .gtr (List.length x0 : Int) 40), [], [(18, some 1)], []⟩,
        ⟨fV Rep.bool (cmpI .gtr (List.length x0 : Int) 40), [], [(19, some 2)], []⟩] [2, 3, 16] [4] hAt
        ⟨ok_load ty73 rfl opd0,
        ok_len un73 rfl opd0,
        ok_cmp (op := .gtr) (by simp) rfl rfl opd0 opdI,
        ok_assign rfl opd0, trivial⟩ (by kernel_rfl) ?_
    clear hAt
    intro a w hAt
    replace hAt : At B h0 (mkG [(2, fRef (Rep.slice GPoint.rep) x0), (3, fRef GRat.rep x1), (16, fV Rep.bool (cmpI .gtr (List.length x0 : Int) 40))]) (mkO [(4, boxE 49 GRat.rep (⟨(⟨false, []⟩ : GInt), (⟨false, []⟩ : GInt)⟩ : GRat))]) F 119 a w := hAt
    refine then_n ?_
    refine wp_if hAt (by rfl) ?_ ?_
    · intro hb36
      have H := iteT hb36 H
      refine wp_seq ?_
      refine reg [⟨fV GRat.rep (⟨(⟨false, []⟩ : GInt), (⟨false, []⟩ : GInt)⟩ : GRat), [], [], []⟩,
          ⟨Fact.triv, [(4, some (boxE 49 GRat.rep (⟨(⟨false, []⟩ : GInt), (⟨false, []⟩ : GInt)⟩ : GRat)))], [(20, some 0)], [(4, none)]⟩,
          ⟨fV r_i64 8, [], [], []⟩] [5] [4] hAt
          ⟨ok_build ty49 rfl pl49 rfl fillN,
          ok_storeBox ty49 rfl rfl opd0,
          ok_assign rfl opdI, trivial⟩ (by kernel_rfl) ?_
      clear hAt
      intro a w hAt
      replace hAt : At B h0 (mkG [(5, fV r_i64 8)]) (mkO [(4, boxE 49 GRat.rep (⟨(⟨false, []⟩ : GInt), (⟨false, []⟩ : GInt)⟩ : GRat))]) F 119 a w := hAt
      refine then_n ?_
      refine wp_ret ?_
      refine blk_r ?_
      refine then_r ?_
      cases H
      exact ret2 rfl (rv_cell ty49 rfl) (rv_tmp rfl rfl) hAt
    · intro hb36
      have H := iteF hb36 H
      refine wp_skip ?_
      refine blk_n ?_
      refine then_n ?_
      refine wp_seq ?_
      refine wp_seq ?_
      refine reg [⟨fV (Rep.slice GPoint.rep) x0, [], [(2, none)], []⟩,
          ⟨fV r_i64 (List.length x0 : Int), [], [(21, some 0)], []⟩,
          ⟨fV r_i64 0, [], [], []⟩] [2, 3, 21, 22, 23] [4] hAt
          ⟨ok_load ty73 rfl opd0,
          ok_len un73 rfl opd0,
          ok_move rfl opdI, trivial⟩ (by kernel_rfl) ?_
      clear hAt
      intro a w hAt
      replace hAt : At B h0 (mkG [(2, fRef (Rep.slice GPoint.rep) x0), (3, fRef GRat.rep x1), (21, fV (Rep.slice GPoint.rep) x0), (22, fV r_i64 (List.length x0 : Int)), (23, fV r_i64 0)]) (mkO [(4, boxE 49 GRat.rep (⟨(⟨false, []⟩ : GInt), (⟨false, []⟩ : GInt)⟩ : GRat))]) F 119 a w := hAt
      refine then_n ?_
      refine wp_block ?_
      obtain ⟨o8, hl9, H⟩ := bindE H
      refine wp_mono (wp_loopN (f := f_survey_Interpolate_L2 N x0) (fun (s1 : (GRat × Int)) a w => At B h0 (mkG [(2, fRef (Rep.slice GPoint.rep) x0), (3, fRef GRat.rep x1), (21, fV (Rep.slice GPoint.rep) x0), (22, fV r_i64 (List.length x0 : Int)), (23, fV r_i64 s1.2)]) (mkO [(4, boxE 49 GRat.rep s1.1)]) F 119 a w) (fun o e a w => (Sum.elim (fun v => e = .exit 1 ∧ At B h0 (mkG [(2, fRef (Rep.slice GPoint.rep) x0), (3, fRef GRat.rep x1)]) (mkO [(4, boxE 49 GRat.rep v)]) F 119 a w) (fun v => e = .ret ∧ At B h0 (mkG [(5, fV r_i64 v.2)]) (mkO [(4, boxE 49 GRat.rep v.1)]) F 119 a w)) o) ?_ N ((⟨(⟨false, []⟩ : GInt), (⟨false, []⟩ : GInt)⟩ : GRat), 0) o8 _ _ hl9 ?_) ?_
      · clear H hAt hl9
        intro s1 r35 a w H hAt
        unfold f_survey_Interpolate_L2 at H
        refine wp_seq ?_
        refine reg [⟨fV Rep.bool (cmpI .lss s1.2 (List.length x0 : Int)), [], [(23, none), (22, none)], []⟩] [2, 3, 21, 22, 23, 24] [4] hAt
            ⟨ok_cmp (op := .lss) (by simp) rfl rfl opd0 opd1, trivial⟩ (by kernel_rfl) ?_
        clear hAt
        intro a w hAt
        replace hAt : At B h0 (mkG [(2, fRef (Rep.slice GPoint.rep) x0), (3, fRef GRat.rep x1), (21, fV (Rep.slice GPoint.rep) x0), (22, fV r_i64 (List.length x0 : Int)), (23, fV r_i64 s1.2), (24, fV Rep.bool (cmpI .lss s1.2 (List.length x0 : Int)))]) (mkO [(4, boxE 49 GRat.rep s1.1)]) F 119 a w := hAt
        refine then_n ?_
        refine wp_seq ?_
        refine wp_if hAt (by rfl) ?_ ?_
        · intro hb7
          have H := iteT hb7 H
          refine wp_skip ?_
          refine then_n ?_
          refine wp_seq ?_
          refine wp_block ?_
          refine wp_seq ?_
          obtain ⟨v2, hv2, H⟩ := bindE H
          refine reg [⟨fV r_i64 s1.2, [], [(23, none)], []⟩,
              ⟨fRef GPoint.rep v2, [], [(21, none), (23, none)], []⟩,
              ⟨fV GPoint.rep v2, [], [(26, some 1)], []⟩,
              ⟨Fact.triv, [(7, some (boxE 79 GPoint.rep (⟨0, 0⟩ : GPoint)))], [], []⟩,
              ⟨fV r_i64 s1.2, [], [(25, some 0)], []⟩,
              ⟨Fact.triv, [(7, some (boxE 79 GPoint.rep v2))], [(27, some 2)], [(7, some 3)]⟩] [2, 3, 6, 21, 22, 23] [4, 7] hAt
              ⟨ok_move rfl opd0,
              ok_index ty79 un73 hv2 rfl opd0 opd1,
              ok_load ty79 rfl opd0,
              ok_alloc ty79 rfl rfl,
              ok_assign rfl opd0,
              ok_storeBox ty79 rfl rfl opd0, trivial⟩ (by kernel_rfl) ?_
          clear hAt
          intro a w hAt
          replace hAt : At B h0 (mkG [(2, fRef (Rep.slice GPoint.rep) x0), (3, fRef GRat.rep x1), (6, fV r_i64 s1.2), (21, fV (Rep.slice GPoint.rep) x0), (22, fV r_i64 (List.length x0 : Int)), (23, fV r_i64 s1.2)]) (mkO [(4, boxE 49 GRat.rep s1.1), (7, boxE 79 GPoint.rep v2)]) F 119 a w := hAt
          refine then_n ?_
          refine wp_block ?_
          refine wp_seq ?_
          obtain ⟨v3, hv3, H⟩ := bindE H
          refine reg [⟨fOff 7 0, [], [], [(7, none)]⟩,
              ⟨fV r_i64 v2.X, [], [(29, some 0)], [(7, none)]⟩,
              ⟨fOff 7 1, [], [], [(7, none)]⟩,
              ⟨fV r_i64 v2.Y, [], [(31, some 2)], [(7, none)]⟩,
              ⟨fV (Rep.slice r_i64) [v2.X, v2.Y], [], [(30, some 1), (32, some 3)], []⟩,
              ⟨fV Rep.bool v3, [], [(33, some 4)], []⟩,
              ⟨fV Rep.bool (!v3), [], [(34, some 5)], []⟩,
              ⟨fV Rep.bool (!v3), [], [(35, some 6)], []⟩] [2, 3, 6, 21, 22, 23, 28] [4, 7] hAt
              ⟨ok_fieldOwn fo79_0 rfl,
              ok_loadOwn GPoint.l0 ty3 rfl opd0,
              ok_fieldOwn fo79_1 rfl,
              ok_loadOwn GPoint.l1 ty3 rfl opd0,
              ok_buildSlice ty3 un22 rfl rfl (fillC (Lens.arr _ _ 0 (by decide)) rfl opd0 (fillC (Lens.arr _ _ 1 (by decide)) rfl opd1 fillN)),
              ok_call (ok_f_survey_inside N 0 1000000000 [v2.X, v2.Y] _ hv3) Try.func71 (by kernel_rfl) (by kernel_rfl) rfl ⟨opdI, ⟨opdI, ⟨opd0, trivial⟩⟩⟩,
              ok_not rfl opd0,
              ok_assign rfl opd0, trivial⟩ (by kernel_rfl) ?_
          clear hAt
          intro a w hAt
          replace hAt : At B h0 (mkG [(2, fRef (Rep.slice GPoint.rep) x0), (3, fRef GRat.rep x1), (6, fV r_i64 s1.2), (21, fV (Rep.slice GPoint.rep) x0), (22, fV r_i64 (List.length x0 : Int)), (23, fV r_i64 s1.2), (28, fV Rep.bool (!v3))]) (mkO [(4, boxE 49 GRat.rep s1.1), (7, boxE 79 GPoint.rep v2)]) F 119 a w := hAt
          refine then_n ?_
          refine wp_if hAt (by rfl) ?_ ?_
          · intro hb6
            have H := iteT hb6 H
            refine wp_seq ?_
            refine reg [⟨fV GRat.rep (⟨(⟨false, []⟩ : GInt), (⟨false, []⟩ : GInt)⟩ : GRat), [], [], []⟩,
                ⟨Fact.triv, [(4, some (boxE 49 GRat.rep (⟨(⟨false, []⟩ : GInt), (⟨false, []⟩ : GInt)⟩ : GRat)))], [(36, some 0)], [(4, none)]⟩,
                ⟨fV r_i64 2, [], [], []⟩] [5] [4] hAt
                ⟨ok_build ty49 rfl pl49 rfl fillN,
                ok_storeBox ty49 rfl rfl opd0,
                ok_assign rfl opdI, trivial⟩ (by kernel_rfl) ?_
            clear hAt
            intro a w hAt
            replace hAt : At B h0 (mkG [(5, fV r_i64 2)]) (mkO [(4, boxE 49 GRat.rep (⟨(⟨false, []⟩ : GInt), (⟨false, []⟩ : GInt)⟩ : GRat))]) F 119 a w := hAt
            refine then_n ?_
            refine wp_ret ?_
            refine blk_r ?_
            refine blk_r ?_
            refine then_r ?_
            cases H
            exact ⟨ret_ne, rfl, hAt.pick [5] [4]⟩
          · intro hb6
            have H := iteF hb6 H
            refine wp_seq ?_
            obtain ⟨v4, hv4, H⟩ := bindE H
            refine regd [⟨fV r_i64 s1.2, [], [(6, none)], []⟩,
                ⟨fV Rep.bool (cmpI .gtr s1.2 0), [], [(38, some 0)], []⟩,
                ⟨fV Rep.bool (cmpI .gtr s1.2 0), [], [(39, some 1)], []⟩,
                ⟨Fact.when ((cmpI .gtr s1.2 0) = true) (fOff 7 0), [], [(40, some 2)], [(7, none)]⟩,
                ⟨Fact.when ((cmpI .gtr s1.2 0) = true) (fV r_i64 v2.X), [], [(40, some 2), (41, some 3)], [(7, none)]⟩,
                ⟨Fact.when ((cmpI .gtr s1.2 0) = true) (fV (Rep.slice GPoint.rep) x0), [], [(40, some 2), (2, none)], []⟩,
                ⟨Fact.when ((cmpI .gtr s1.2 0) = true) (fV r_i64 s1.2), [], [(40, some 2), (6, none)], []⟩,
                ⟨Fact.when ((cmpI .gtr s1.2 0) = true) (fV r_i64 (IntKind.i64.wrap (s1.2 - 1))), [], [(40, some 2), (44, some 6)], []⟩,
                ⟨Fact.when ((cmpI .gtr s1.2 0) = true) (fRef GPoint.rep v4), [], [(40, some 2), (43, some 5), (45, some 7)], []⟩,
                ⟨Fact.when ((cmpI .gtr s1.2 0) = true) (fRef r_i64 v4.X), [], [(40, some 2), (46, some 8)], []⟩,
                ⟨Fact.when ((cmpI .gtr s1.2 0) = true) (fV r_i64 v4.X), [], [(40, some 2), (47, some 9)], []⟩,
                ⟨Fact.when ((cmpI .gtr s1.2 0) = true) (fV Rep.bool (cmpI .leq v2.X v4.X)), [], [(40, some 2), (42, some 4), (48, some 10)], []⟩,
                ⟨fV Rep.bool ((cmpI .gtr s1.2 0) && (cmpI .leq v2.X v4.X)), [], [(40, some 2), (49, some 11)], []⟩,
                ⟨fV Rep.bool ((cmpI .gtr s1.2 0) && (cmpI .leq v2.X v4.X)), [], [(50, some 12)], []⟩] [0, 1, 2, 3, 4, 5, 6, 7, 8, 9, 10, 11, 12, 13] [0, 1, 2, 3, 4, 5, 6, 7, 8, 9, 10, 11, 12, 13] [2, 3, 21, 22, 23, 37] [4] hAt
                ⟨ok_move rfl opd0,
                ok_cmp (op := .gtr) (by simp) rfl rfl opd0 opdI,
                ok_move rfl opd0,
                obl_tt rfl rfl rfl rfl rfl rfl rfl (fun hg => ok_fieldOwn fo79_0 rfl),
                obl_tt rfl rfl rfl rfl rfl rfl rfl (fun hg => ok_loadOwn GPoint.l0 ty3 rfl (opd1.on hg)),
                obl_tt rfl rfl rfl rfl rfl rfl rfl (fun hg => ok_load ty73 rfl opd1),
                obl_tt rfl rfl rfl rfl rfl rfl rfl (fun hg => ok_move rfl opd1),
                obl_tt rfl rfl rfl rfl rfl rfl rfl (fun hg => ok_sub rfl (opd1.on hg) opdI),
                obl_tt rfl rfl rfl rfl rfl rfl rfl (fun hg => ok_index ty79 un73 (iteT hg hv4) rfl (opd1.on hg) (opd2.on hg)),
                obl_tt rfl rfl rfl rfl rfl rfl rfl (fun hg => ok_field GPoint.l0 fo79_0 rfl (opd1.on hg)),
                obl_tt rfl rfl rfl rfl rfl rfl rfl (fun hg => ok_load ty3 rfl (opd1.on hg)),
                obl_tt rfl rfl rfl rfl rfl rfl rfl (fun hg => ok_cmp (op := .leq) (by simp) rfl rfl (opd1.on hg) (opd2.on hg)),
                ok_and rfl opd0 (fun e => (opd1.on e)),
                ok_assign rfl opd0, trivial⟩ (by kernel_rfl) ?_
            clear hAt
            intro a w hAt
            replace hAt : At B h0 (mkG [(2, fRef (Rep.slice GPoint.rep) x0), (3, fRef GRat.rep x1), (21, fV (Rep.slice GPoint.rep) x0), (22, fV r_i64 (List.length x0 : Int)), (23, fV r_i64 s1.2), (37, fV Rep.bool ((cmpI .gtr s1.2 0) && (cmpI .leq v2.X v4.X)))]) (mkO [(4, boxE 49 GRat.rep s1.1)]) F 119 a w := hAt
            refine then_n ?_
            refine wp_if hAt (by rfl) ?_ ?_
            · intro hb5
              have H := iteT hb5 H
              refine wp_seq ?_
              refine reg [⟨fV GRat.rep (⟨(⟨false, []⟩ : GInt), (⟨false, []⟩ : GInt)⟩ : GRat), [], [], []⟩,
                  ⟨Fact.triv, [(4, some (boxE 49 GRat.rep (⟨(⟨false, []⟩ : GInt), (⟨false, []⟩ : GInt)⟩ : GRat)))], [(51, some 0)], [(4, none)]⟩,
                  ⟨fV r_i64 10, [], [], []⟩] [5] [4] hAt
                  ⟨ok_build ty49 rfl pl49 rfl fillN,
                  ok_storeBox ty49 rfl rfl opd0,
                  ok_assign rfl opdI, trivial⟩ (by kernel_rfl) ?_
              clear hAt
              intro a w hAt
              replace hAt : At B h0 (mkG [(5, fV r_i64 10)]) (mkO [(4, boxE 49 GRat.rep (⟨(⟨false, []⟩ : GInt), (⟨false, []⟩ : GInt)⟩ : GRat))]) F 119 a w := hAt
              refine then_n ?_
              refine wp_ret ?_
              refine blk_r ?_
              refine blk_r ?_
              refine then_r ?_
              cases H
              exact ⟨ret_ne, rfl, hAt.pick [5] [4]⟩
            · intro hb5
              have H := iteF hb5 H
              refine wp_skip ?_
              refine blk_n ?_
              refine blk_n ?_
              refine then_n ?_
              refine reg [⟨fV r_i64 (IntKind.i64.wrap (s1.2 + 1)), [], [(23, none)], []⟩,
                  ⟨fV r_i64 (IntKind.i64.wrap (s1.2 + 1)), [], [(52, some 0)], []⟩] [2, 3, 21, 22, 23] [4] hAt
                  ⟨ok_add rfl opd0 opdI,
                  ok_move rfl opd0, trivial⟩ (by kernel_rfl) ?_
              clear hAt
              intro a w hAt
              replace hAt : At B h0 (mkG [(2, fRef (Rep.slice GPoint.rep) x0), (3, fRef GRat.rep x1), (21, fV (Rep.slice GPoint.rep) x0), (22, fV r_i64 (List.length x0 : Int)), (23, fV r_i64 (IntKind.i64.wrap (s1.2 + 1)))]) (mkO [(4, boxE 49 GRat.rep s1.1)]) F 119 a w := hAt
              cases H
              exact ⟨rfl, hAt.pick [2, 3, 21, 22, 23] [4]⟩
        · intro hb7
          have H := iteF hb7 H
          refine wp_exit ?_
          refine then_x ?_
          cases H
          exact ⟨ex_ne, rfl, hAt.pick [2, 3] [4]⟩
      · exact hAt.pick [2, 3, 21, 22, 23] [4]
      · clear hAt
        intro e a w hp
        cases o8 with
        | inl l10 =>
          rw [Sum.elim_inl] at H
          obtain ⟨rfl, hAt⟩ := hp
          refine blk_eq ?_
          refine then_n ?_
          refine wp_seq ?_
          refine reg [⟨fF1 Try.prog r_i64 GRat.rep (fun y0 => f_survey_Interpolate_1 N y0 x0), [], [(2, none)], []⟩,
              ⟨fF1 Try.prog r_i64 GRat.rep (fun y0 => f_survey_Interpolate_1 N y0 x0), [], [(53, some 0)], []⟩] [2, 3, 8] [4] hAt
              ⟨ok_mkF1 (φ := fun y0 => f_survey_Interpolate_1 N y0 x0) (fun y0 r H => ok_f_survey_Interpolate_1 N y0 x0 r H) Try.func82 (by kernel_rfl) (by kernel_rfl) rfl ⟨opd0, trivial⟩,
              ok_assign rfl opd0, trivial⟩ (by kernel_rfl) ?_
          clear hAt
          intro a w hAt
          replace hAt : At B h0 (mkG [(2, fRef (Rep.slice GPoint.rep) x0), (3, fRef GRat.rep x1), (8, fF1 Try.prog r_i64 GRat.rep (fun y0 => f_survey_Interpolate_1 N y0 x0))]) (mkO [(4, boxE 49 GRat.rep l10)]) F 119 a w := hAt
          refine then_n ?_
          refine wp_seq ?_
          refine wp_seq ?_
          obtain ⟨v12, hv12, H⟩ := bindE H
          obtain ⟨v13, hv13, H⟩ := bindE H
          obtain ⟨v14, hv14, H⟩ := bindE H
          obtain ⟨v15, hv15, H⟩ := bindE H
          refine regd [⟨fV GRat.rep x1, [], [(3, none)], []⟩,
              ⟨fF1 Try.prog r_i64 GRat.rep (fun y0 => f_survey_Interpolate_1 N y0 x0), [], [(8, none)], []⟩,
              ⟨fV GRat.rep v12, [], [(55, some 1)], []⟩,
              ⟨fV r_i64 v13, [], [(54, some 0), (56, some 2)], []⟩,
              ⟨fV Rep.bool (cmpI .lss v13 0), [], [(57, some 3)], []⟩,
              ⟨fV Rep.bool (cmpI .lss v13 0), [], [(58, some 4)], []⟩,
              ⟨Fact.when ((!(cmpI .lss v13 0)) = true) (fV GRat.rep x1), [], [(59, some 5), (3, none)], []⟩,
              ⟨Fact.when ((!(cmpI .lss v13 0)) = true) (fF1 Try.prog r_i64 GRat.rep (fun y0 => f_survey_Interpolate_1 N y0 x0)), [], [(59, some 5), (8, none)], []⟩,
              ⟨Fact.when ((!(cmpI .lss v13 0)) = true) (fV (Rep.slice GPoint.rep) x0), [], [(59, some 5), (2, none)], []⟩,
              ⟨Fact.when ((!(cmpI .lss v13 0)) = true) (fV r_i64 (List.length x0 : Int)), [], [(59, some 5), (62, some 8)], []⟩,
              ⟨Fact.when ((!(cmpI .lss v13 0)) = true) (fV r_i64 (IntKind.i64.wrap ((List.length x0 : Int) - 1))), [], [(59, some 5), (63, some 9)], []⟩,
              ⟨Fact.when ((!(cmpI .lss v13 0)) = true) (fV GRat.rep v14), [], [(59, some 5), (61, some 7), (64, some 10)], []⟩,
              ⟨Fact.when ((!(cmpI .lss v13 0)) = true) (fV r_i64 v15), [], [(59, some 5), (60, some 6), (65, some 11)], []⟩,
              ⟨Fact.when ((!(cmpI .lss v13 0)) = true) (fV Rep.bool (cmpI .gtr v15 0)), [], [(59, some 5), (66, some 12)], []⟩,
              ⟨fV Rep.bool ((cmpI .lss v13 0) || (cmpI .gtr v15 0)), [], [(59, some 5), (67, some 13)], []⟩] [0, 1, 2, 3, 4, 5, 6, 7, 8, 9, 10, 11, 12, 13, 14] [0, 1, 2, 3, 4, 5, 6, 7, 8, 9, 10, 11, 12, 13, 14] [2, 3, 8, 68] [4] hAt
              ⟨ok_load ty49 rfl opd0,
              ok_move rfl opd0,
              ok_callF1 (φ := (fun y0 => f_survey_Interpolate_1 N y0 x0)) hv12 rfl opd0 ⟨opdI, trivial⟩,
              ok_call (ok_f_exact_CmpRat N x1 v12 _ hv13) Try.func81 (by kernel_rfl) (by kernel_rfl) rfl ⟨opd0, ⟨opd1, trivial⟩⟩,
              ok_cmp (op := .lss) (by simp) rfl rfl opd0 opdI,
              ok_move rfl opd0,
              obl_tf rfl rfl rfl rfl rfl rfl rfl (fun hg => ok_load ty49 rfl opd1),
              obl_tf rfl rfl rfl rfl rfl rfl rfl (fun hg => ok_move rfl opd1),
              obl_tf rfl rfl rfl rfl rfl rfl rfl (fun hg => ok_load ty73 rfl opd1),
              obl_tf rfl rfl rfl rfl rfl rfl rfl (fun hg => ok_len un73 rfl (opd1.on hg)),
              obl_tf rfl rfl rfl rfl rfl rfl rfl (fun hg => ok_sub rfl (opd1.on hg) opdI),
              obl_tf rfl rfl rfl rfl rfl rfl rfl (fun hg => ok_callF1 (φ := (fun y0 => f_survey_Interpolate_1 N y0 x0)) (iteT hg hv14) rfl (opd1.on hg) ⟨(opd2.on hg), trivial⟩),
              obl_tf rfl rfl rfl rfl rfl rfl rfl (fun hg => ok_call (ok_f_exact_CmpRat N x1 v14 _ (iteT hg hv15)) Try.func81 (by kernel_rfl) (by kernel_rfl) rfl ⟨(opd1.on hg), ⟨(opd2.on hg), trivial⟩⟩),
              obl_tf rfl rfl rfl rfl rfl rfl rfl (fun hg => ok_cmp (op := .gtr) (by simp) rfl rfl (opd1.on hg) opdI),
              ok_or rfl opd0 (fun e => (opd1.on (notT e))), trivial⟩ (by kernel_rfl) ?_
          clear hAt
          intro a w hAt
          replace hAt : At B h0 (mkG [(2, fRef (Rep.slice GPoint.rep) x0), (3, fRef GRat.rep x1), (8, fF1 Try.prog r_i64 GRat.rep (fun y0 => f_survey_Interpolate_1 N y0 x0)), (68, fV Rep.bool ((cmpI .lss v13 0) || (cmpI .gtr v15 0)))]) (mkO [(4, boxE 49 GRat.rep l10)]) F 119 a w := hAt
          refine then_n ?_
          refine wp_if hAt (by rfl) ?_ ?_
          · intro hb34
            have H := iteT hb34 H
            refine wp_seq ?_
            refine reg [⟨fV GRat.rep (⟨(⟨false, []⟩ : GInt), (⟨false, []⟩ : GInt)⟩ : GRat), [], [], []⟩,
                ⟨Fact.triv, [(4, some (boxE 49 GRat.rep (⟨(⟨false, []⟩ : GInt), (⟨false, []⟩ : GInt)⟩ : GRat)))], [(69, some 0)], [(4, none)]⟩,
                ⟨fV r_i64 6, [], [], []⟩] [5] [4] hAt
                ⟨ok_build ty49 rfl pl49 rfl fillN,
                ok_storeBox ty49 rfl rfl opd0,
                ok_assign rfl opdI, trivial⟩ (by kernel_rfl) ?_
            clear hAt
            intro a w hAt
            replace hAt : At B h0 (mkG [(5, fV r_i64 6)]) (mkO [(4, boxE 49 GRat.rep (⟨(⟨false, []⟩ : GInt), (⟨false, []⟩ : GInt)⟩ : GRat))]) F 119 a w := hAt
            refine then_n ?_
            refine wp_ret ?_
            refine then_r ?_
            cases H
            exact ret2 rfl (rv_cell ty49 rfl) (rv_tmp rfl rfl) hAt
          · intro hb34
            have H := iteF hb34 H
            refine wp_skip ?_
            refine then_n ?_
            refine wp_seq ?_
            refine reg [⟨fV r_i64 1, [], [], []⟩] [2, 3, 8, 9] [4] hAt
                ⟨ok_assign rfl opdI, trivial⟩ (by kernel_rfl) ?_
            clear hAt
            intro a w hAt
            replace hAt : At B h0 (mkG [(2, fRef (Rep.slice GPoint.rep) x0), (3, fRef GRat.rep x1), (8, fF1 Try.prog r_i64 GRat.rep (fun y0 => f_survey_Interpolate_1 N y0 x0)), (9, fV r_i64 1)]) (mkO [(4, boxE 49 GRat.rep l10)]) F 119 a w := hAt
            refine then_n ?_
            refine wp_seq ?_
            refine wp_block ?_
            obtain ⟨o20, hl21, H⟩ := bindE H
            refine wp_mono (wp_loopN (f := f_survey_Interpolate_L1 N x0 x1) (fun (s16 : Int) a w => At B h0 (mkG [(2, fRef (Rep.slice GPoint.rep) x0), (3, fRef GRat.rep x1), (8, fF1 Try.prog r_i64 GRat.rep (fun y0 => f_survey_Interpolate_1 N y0 x0)), (9, fV r_i64 s16)]) (mkO [(4, boxE 49 GRat.rep l10)]) F 119 a w) (fun o e a w => (fun v => e = .exit 4 ∧ At B h0 (mkG [(2, fRef (Rep.slice GPoint.rep) x0), (3, fRef GRat.rep x1), (8, fF1 Try.prog r_i64 GRat.rep (fun y0 => f_survey_Interpolate_1 N y0 x0)), (9, fV r_i64 v)]) (mkO [(4, boxE 49 GRat.rep l10)]) F 119 a w) o) ?_ N 1 o20 _ _ hl21 ?_) ?_
            · clear H hAt hl21
              intro s16 r33 a w H hAt
              unfold f_survey_Interpolate_L1 at H
              refine wp_seq ?_
              refine wp_seq ?_
              obtain ⟨v17, hv17, H⟩ := bindE H
              obtain ⟨v18, hv18, H⟩ := bindE H
              refine regd [⟨fV GRat.rep x1, [], [(3, none)], []⟩,
                  ⟨fF1 Try.prog r_i64 GRat.rep (fun y0 => f_survey_Interpolate_1 N y0 x0), [], [(8, none)], []⟩,
                  ⟨fV r_i64 s16, [], [(9, none)], []⟩,
                  ⟨fV GRat.rep v17, [], [(71, some 1), (72, some 2)], []⟩,
                  ⟨fV r_i64 v18, [], [(70, some 0), (73, some 3)], []⟩,
                  ⟨fV Rep.bool (cmpI .gtr v18 0), [], [(74, some 4)], []⟩] [0, 1, 2, 3, 4, 5] [0, 1, 2, 3, 4, 5] [2, 3, 8, 9, 75] [4] hAt
                  ⟨ok_load ty49 rfl opd0,
                  ok_move rfl opd0,
                  ok_move rfl opd0,
                  ok_callF1 (φ := (fun y0 => f_survey_Interpolate_1 N y0 x0)) hv17 rfl opd0 ⟨opd1, trivial⟩,
                  ok_call (ok_f_exact_CmpRat N x1 v17 _ hv18) Try.func81 (by kernel_rfl) (by kernel_rfl) rfl ⟨opd0, ⟨opd1, trivial⟩⟩,
                  ok_cmp (op := .gtr) (by simp) rfl rfl opd0 opdI, trivial⟩ (by kernel_rfl) ?_
              clear hAt
              intro a w hAt
              replace hAt : At B h0 (mkG [(2, fRef (Rep.slice GPoint.rep) x0), (3, fRef GRat.rep x1), (8, fF1 Try.prog r_i64 GRat.rep (fun y0 => f_survey_Interpolate_1 N y0 x0)), (9, fV r_i64 s16), (75, fV Rep.bool (cmpI .gtr v18 0))]) (mkO [(4, boxE 49 GRat.rep l10)]) F 119 a w := hAt
              refine then_n ?_
              refine wp_if hAt (by rfl) ?_ ?_
              · intro hb19
                have H := iteT hb19 H
                refine wp_skip ?_
                refine then_n ?_
                refine wp_block ?_
                refine reg [⟨fV r_i64 s16, [], [(9, none)], []⟩,
                    ⟨fV r_i64 (IntKind.i64.wrap (s16 + 1)), [], [(76, some 0)], []⟩,
                    ⟨fV r_i64 (IntKind.i64.wrap (s16 + 1)), [], [(77, some 1)], []⟩] [2, 3, 8, 9] [4] hAt
                    ⟨ok_move rfl opd0,
                    ok_add rfl opd0 opdI,
                    ok_assign rfl opd0, trivial⟩ (by kernel_rfl) ?_
                clear hAt
                intro a w hAt
                replace hAt : At B h0 (mkG [(2, fRef (Rep.slice GPoint.rep) x0), (3, fRef GRat.rep x1), (8, fF1 Try.prog r_i64 GRat.rep (fun y0 => f_survey_Interpolate_1 N y0 x0)), (9, fV r_i64 (IntKind.i64.wrap (s16 + 1)))]) (mkO [(4, boxE 49 GRat.rep l10)]) F 119 a w := hAt
                refine blk_n ?_
                cases H
                exact ⟨rfl, hAt.pick [2, 3, 8, 9] [4]⟩
              · intro hb19
                have H := iteF hb19 H
                refine wp_exit ?_
                refine then_x ?_
                cases H
                exact ⟨ex_ne, rfl, hAt.pick [2, 3, 8, 9] [4]⟩
            · exact hAt.pick [2, 3, 8, 9] [4]
            · clear hAt
              intro e a w hp
              obtain ⟨rfl, hAt⟩ := hp
              refine blk_eq ?_
              refine then_n ?_
              refine wp_seq ?_
              obtain ⟨v22, hv22, H⟩ := bindE H
              obtain ⟨v23, hv23, H⟩ := bindE H
              obtain ⟨v24, hv24, H⟩ := bindE H
              obtain ⟨v25, hv25, H⟩ := bindE H
              obtain ⟨v26, hv26, H⟩ := bindE H
              obtain ⟨v27, hv27, H⟩ := bindE H
              obtain ⟨v28, hv28, H⟩ := bindE H
              obtain ⟨v29, hv29, H⟩ := bindE H
              refine regd (⟨fV (Rep.slice GPoint.rep) x0, [], [(2, none)], []⟩ ::
                  ⟨fV r_i64 o20, [], [(9, none)], []⟩ ::
                  ⟨fRef GPoint.rep v22, [], [(78, some 0), (79, some 1)], []⟩ ::
                  ⟨fRef r_i64 v22.Y, [], [(80, some 2)], []⟩ ::
                  ⟨fV r_i64 v22.Y, [], [(81, some 3)], []⟩ ::
                  ⟨fV (Rep.slice GPoint.rep) x0, [], [(2, none)], []⟩ ::
                  ⟨fV r_i64 o20, [], [(9, none)], []⟩ ::
                  ⟨fV r_i64 (IntKind.i64.wrap (o20 - 1)), [], [(84, some 6)], []⟩ ::
                  ⟨fRef GPoint.rep v23, [], [(83, some 5), (85, some 7)], []⟩ ::
                  ⟨fRef r_i64 v23.Y, [], [(86, some 8)], []⟩ ::
                  ⟨fV r_i64 v23.Y, [], [(87, some 9)], []⟩ ::
                  ⟨fV r_i64 (IntKind.i64.wrap (v22.Y - v23.Y)), [], [(82, some 4), (88, some 10)], []⟩ ::
                  ⟨fV (Rep.slice GPoint.rep) x0, [], [(2, none)], []⟩ ::
                  ⟨fV r_i64 o20, [], [(9, none)], []⟩ ::
                  ⟨fRef GPoint.rep v24, [], [(90, some 12), (91, some 13)], []⟩ ::
                  ⟨fRef r_i64 v24.X, [], [(92, some 14)], []⟩ ::
                  ⟨fV r_i64 v24.X, [], [(93, some 15)], []⟩ ::
                  ⟨fV (Rep.slice GPoint.rep) x0, [], [(2, none)], []⟩ ::
                  ⟨fV r_i64 o20, [], [(9, none)], []⟩ ::
                  ⟨fV r_i64 (IntKind.i64.wrap (o20 - 1)), [], [(96, some 18)], []⟩ ::
                  ⟨fRef GPoint.rep v25, [], [(95, some 17), (97, some 19)], []⟩ ::
                  ⟨fRef r_i64 v25.X, [], [(98, some 20)], []⟩ ::
                  ⟨fV r_i64 v25.X, [], [(99, some 21)], []⟩ ::
                  ⟨fV r_i64 (IntKind.i64.wrap (v24.X - v25.X)), [], [(94, some 16), (100, some 22)], []⟩ ::
                  ⟨fV GRat.rep v26, [], [(89, some 11), (101, some 23)], []⟩ ::
                  ⟨fV GRat.rep x1, [], [(3, none)], []⟩ ::
                  ⟨fF1 Try.prog r_i64 GRat.rep (fun y0 => f_survey_Interpolate_1 N y0 x0), [], [(8, none)], []⟩ ::
                  ⟨fV r_i64 o20, [], [(9, none)], []⟩ ::
                  ⟨fV r_i64 (IntKind.i64.wrap (o20 - 1)), [], [(105, some 27)], []⟩ ::
                  ⟨fV GRat.rep v27, [], [(104, some 26), (106, some 28)], []⟩ ::
                  ⟨fV GRat.rep v28, [], [(103, some 25), (107, some 29)], []⟩ ::
                  ⟨fV GRat.rep v29, [], [(102, some 24), (108, some 30)], []⟩ ::
                  ⟨Fact.triv, [(10, some (boxE 49 GRat.rep (⟨(⟨false, []⟩ : GInt), (⟨false, []⟩ : GInt)⟩ : GRat)))], [], []⟩ ::
                  ⟨Fact.triv, [(10, some (boxE 49 GRat.rep v29))], [(109, some 31)], [(10, some 32)]⟩ :: []) (0 :: 1 :: 2 :: 3 :: 4 :: 5 :: 6 :: 7 :: 8 :: 9 :: 10 :: 11 :: 12 :: 13 :: 14 :: 15 :: 16 :: 17 :: 18 :: 19 :: 20 :: 21 :: 22 :: 23 :: 24 :: 25 :: 26 :: 27 :: 28 :: 29 :: 30 :: 31 :: 32 :: 33 :: []) (0 :: 1 :: 2 :: 3 :: 4 :: 5 :: 6 :: 7 :: 8 :: 9 :: 10 :: 11 :: 12 :: 13 :: 14 :: 15 :: 16 :: 17 :: 18 :: 19 :: 20 :: 21 :: 22 :: 23 :: 24 :: 25 :: 26 :: 27 :: 28 :: 29 :: 30 :: 31 :: 32 :: 33 :: []) [2, 9] [4, 10] hAt
                  ⟨ok_load ty73 rfl opd0,
                  ok_move rfl opd0,
                  ok_index ty79 un73 hv22 rfl opd0 opd1,
                  ok_field GPoint.l1 fo79_1 rfl opd0,
                  ok_load ty3 rfl opd0,
                  ok_load ty73 rfl opd0,
                  ok_move rfl opd0,
                  ok_sub rfl opd0 opdI,
                  ok_index ty79 un73 hv23 rfl opd0 opd1,
                  ok_field GPoint.l1 fo79_1 rfl opd0,
                  ok_load ty3 rfl opd0,
                  ok_sub rfl opd0 opd1,
                  ok_load ty73 rfl opd0,
                  ok_move rfl opd0,
                  ok_index ty79 un73 hv24 rfl opd0 opd1,
                  ok_field GPoint.l0 fo79_0 rfl opd0,
                  ok_load ty3 rfl opd0,
                  ok_load ty73 rfl opd0,
                  ok_move rfl opd0,
                  ok_sub rfl opd0 opdI,
                  ok_index ty79 un73 hv25 rfl opd0 opd1,
                  ok_field GPoint.l0 fo79_0 rfl opd0,
                  ok_load ty3 rfl opd0,
                  ok_sub rfl opd0 opd1,
                  ok_call (ok_f_survey_ratio N (IntKind.i64.wrap (v22.Y - v23.Y)) (IntKind.i64.wrap (v24.X - v25.X)) _ hv26) Try.func64 (by kernel_rfl) (by kernel_rfl) rfl ⟨opd0, ⟨opd1, trivial⟩⟩,
                  ok_load ty49 rfl opd0,
                  ok_move rfl opd0,
                  ok_move rfl opd0,
                  ok_sub rfl opd0 opdI,
                  ok_callF1 (φ := (fun y0 => f_survey_Interpolate_1 N y0 x0)) hv27 rfl opd0 ⟨opd1, trivial⟩,
                  ok_call (ok_f_exact_SubRat N x1 v27 _ hv28) Try.func75 (by kernel_rfl) (by kernel_rfl) rfl ⟨opd0, ⟨opd1, trivial⟩⟩,
                  ok_call (ok_f_exact_MulRat N v26 v28 _ hv29) Try.func73 (by kernel_rfl) (by kernel_rfl) rfl ⟨opd0, ⟨opd1, trivial⟩⟩,
                  ok_alloc ty49 rfl rfl,
                  ok_storeBox ty49 rfl rfl opd0, trivial⟩ (by kernel_rfl) ?_
              clear hAt
              intro a w hAt
              replace hAt : At B h0 (mkG [(2, fRef (Rep.slice GPoint.rep) x0), (9, fV r_i64 o20)]) (mkO [(4, boxE 49 GRat.rep l10), (10, boxE 49 GRat.rep v29)]) F 119 a w := hAt
              refine then_n ?_
              refine wp_seq ?_
              obtain ⟨v30, hv30, H⟩ := bindE H
              obtain ⟨v31, hv31, H⟩ := bindE H
              obtain ⟨v32, hv32, H⟩ := bindE H
              refine regd [⟨fV (Rep.slice GPoint.rep) x0, [], [(2, none)], []⟩,
                  ⟨fV r_i64 o20, [], [(9, none)], []⟩,
                  ⟨fV r_i64 (IntKind.i64.wrap (o20 - 1)), [], [(111, some 1)], []⟩,
                  ⟨fRef GPoint.rep v30, [], [(110, some 0), (112, some 2)], []⟩,
                  ⟨fRef r_i64 v30.Y, [], [(113, some 3)], []⟩,
                  ⟨fV r_i64 v30.Y, [], [(114, some 4)], []⟩,
                  ⟨fV GRat.rep v31, [], [(115, some 5)], []⟩,
                  ⟨fV GRat.rep v29, [], [], [(10, none)]⟩,
                  ⟨fV GRat.rep v32, [], [(116, some 6), (117, some 7)], []⟩,
                  ⟨Fact.triv, [(4, some (boxE 49 GRat.rep v32))], [(118, some 8)], [(4, none)]⟩,
                  ⟨fV r_i64 0, [], [], []⟩] [0, 1, 2, 3, 4, 5, 6, 7, 8, 9, 10] [0, 1, 2, 3, 4, 5, 6, 7, 8, 9, 10] [5] [4] hAt
                  ⟨ok_load ty73 rfl opd0,
                  ok_move rfl opd0,
                  ok_sub rfl opd0 opdI,
                  ok_index ty79 un73 hv30 rfl opd0 opd1,
                  ok_field GPoint.l1 fo79_1 rfl opd0,
                  ok_load ty3 rfl opd0,
                  ok_call (ok_f_survey_ratio N v30.Y 1 _ hv31) Try.func64 (by kernel_rfl) (by kernel_rfl) rfl ⟨opd0, ⟨opdI, trivial⟩⟩,
                  ok_loadBox ty49 rfl,
                  ok_call (ok_f_exact_AddRat N v31 v29 _ hv32) Try.func74 (by kernel_rfl) (by kernel_rfl) rfl ⟨opd0, ⟨opd1, trivial⟩⟩,
                  ok_storeBox ty49 rfl rfl opd0,
                  ok_assign rfl opdI, trivial⟩ (by kernel_rfl) ?_
              clear hAt
              intro a w hAt
              replace hAt : At B h0 (mkG [(5, fV r_i64 0)]) (mkO [(4, boxE 49 GRat.rep v32)]) F 119 a w := hAt
              refine then_n ?_
              refine wp_ret ?_
              cases H
              exact ret2 rfl (rv_cell ty49 rfl) (rv_tmp rfl rfl) hAt
        | inr r11 =>
          rw [Sum.elim_inr] at H
          replace hp := hp
          obtain ⟨rfl, hAt⟩ := hp
          refine blk_r ?_
          refine then_r ?_
          cases H
          exact ret2 rfl (rv_cell ty49 rfl) (rv_tmp rfl rfl) hAt
theorem ok_f_ref09_within (N : Nat) (x0 : Int) (x1 : Int) (x2 : Int) (r : Bool) (H : f_ref09_within N x0 x1 x2 = some r) : FnOk Try.prog 69 [fV r_i64 x0, fV r_i64 x1, fV r_i64 x2] (fV Rep.bool r) := by
  unfold f_ref09_within at H
  refine fn_enter Try.func69 rfl rfl (by kernel_rfl) ?_
  intro κ B h0 F a w hAt
  refine wp_seq ?_
  refine reg [⟨fV Rep.bool false, [], [], []⟩] [0, 1, 2] [] hAt
      ⟨ok_assign rfl opdB, trivial⟩ (by kernel_rfl) ?_
  clear hAt
  intro a w hAt
  replace hAt : At B h0 (mkG [(0, fV r_i64 x0), (1, fV r_i64 x1), (2, fV r_i64 x2)]) (mkO []) F 15 a w := hAt
  refine then_n ?_
  refine wp_seq ?_
  refine reg [⟨fV r_i64 x0, [], [(0, none)], []⟩,
      ⟨fV r_i64 x1, [], [(1, none)], []⟩,
      ⟨fV Rep.bool (cmpI .geq x0 x1), [], [(7, some 0), (8, some 1)], []⟩,
      ⟨fV Rep.bool (cmpI .geq x0 x1), [], [(9, some 2)], []⟩,
      ⟨Fact.when ((cmpI .geq x0 x1) = true) (fV r_i64 x0), [], [(10, some 3), (0, none)], []⟩,
      ⟨Fact.when ((cmpI .geq x0 x1) = true) (fV r_i64 x2), [], [(10, some 3), (2, none)], []⟩,
      ⟨Fact.when ((cmpI .geq x0 x1) = true) (fV Rep.bool (cmpI .leq x0 x2)), [], [(10, some 3), (11, some 4), (12, some 5)], []⟩,
      ⟨fV Rep.bool ((cmpI .geq x0 x1) && (cmpI .leq x0 x2)), [], [(10, some 3), (13, some 6)], []⟩,
      ⟨fV Rep.bool ((cmpI .geq x0 x1) && (cmpI .leq x0 x2)), [], [(14, some 7)], []⟩] [6] [] hAt
      ⟨ok_move rfl opd0,
      ok_move rfl opd0,
      ok_cmp (op := .geq) (by simp) rfl rfl opd0 opd1,
      ok_move rfl opd0,
      obl_tt rfl rfl rfl rfl rfl rfl rfl (fun hg => ok_move rfl opd1),
      obl_tt rfl rfl rfl rfl rfl rfl rfl (fun hg => ok_move rfl opd1),
      obl_tt rfl rfl rfl rfl rfl rfl rfl (fun hg => ok_cmp (op := .leq) (by simp) rfl rfl (opd1.on hg) (opd2.on hg)),
      ok_and rfl opd0 (fun e => (opd1.on e)),
      ok_assign rfl opd0, trivial⟩ (by kernel_rfl) ?_
  clear hAt
  intro a w hAt
  replace hAt : At B h0 (mkG [(6, fV Rep.bool ((cmpI .geq x0 x1) && (cmpI .leq x0 x2)))]) (mkO []) F 15 a w := hAt
  refine then_n ?_
  refine wp_ret ?_
  cases H
  exact ret1 rfl (rv_tmp rfl rfl) hAt
theorem ok_f_base_Q (N : Nat) (x0 : Int) (x1 : Int) (r : GRat) (H : f_base_Q N x0 x1 = some r) : FnOk Try.prog 72 [fV r_i64 x0, fV r_i64 x1] (fV GRat.rep r) := by
  unfold f_base_Q at H
  refine fn_enter Try.func72 rfl rfl (by kernel_rfl) ?_
  intro κ B h0 F a w hAt
  refine wp_seq ?_
  refine reg [⟨Fact.triv, [(4, some (boxE 49 GRat.rep (⟨(⟨false, []⟩ : GInt), (⟨false, []⟩ : GInt)⟩ : GRat)))], [], []⟩] [0, 1] [4] hAt
      ⟨ok_alloc ty49 rfl rfl, trivial⟩ (by kernel_rfl) ?_
  clear hAt
  intro a w hAt
  replace hAt : At B h0 (mkG [(0, fV r_i64 x0), (1, fV r_i64 x1)]) (mkO [(4, boxE 49 GRat.rep (⟨(⟨false, []⟩ : GInt), (⟨false, []⟩ : GInt)⟩ : GRat))]) F 34 a w := hAt
  refine then_n ?_
  refine wp_seq ?_
  obtain ⟨o2, hl3, H⟩ := bindE H
  refine wp_mono (Q := (fun o e a w => (fun v => e = .normal ∧ At B h0 (mkG [(0, fV r_i64 v.1), (1, fV r_i64 v.2)]) (mkO [(4, boxE 49 GRat.rep (⟨(⟨false, []⟩ : GInt), (⟨false, []⟩ : GInt)⟩ : GRat))]) F 34 a w) o) o2) ?_ ?_
  · clear H
    have H := hl3
    clear hl3
    refine wp_seq ?_
    refine reg [⟨fV r_i64 x1, [], [(1, none)], []⟩,
        ⟨fV Rep.bool (cmpI .lss x1 0), [], [(7, some 0)], []⟩] [0, 1, 8] [4] hAt
        ⟨ok_move rfl opd0,
        ok_cmp (op := .lss) (by simp) rfl rfl opd0 opdI, trivial⟩ (by kernel_rfl) ?_
    clear hAt
    intro a w hAt
    replace hAt : At B h0 (mkG [(0, fV r_i64 x0), (1, fV r_i64 x1), (8, fV Rep.bool (cmpI .lss x1 0))]) (mkO [(4, boxE 49 GRat.rep (⟨(⟨false, []⟩ : GInt), (⟨false, []⟩ : GInt)⟩ : GRat))]) F 34 a w := hAt
    refine then_n ?_
    refine wp_if hAt (by rfl) ?_ ?_
    · intro hb1
      have H := iteT hb1 H
      refine reg [⟨fV r_i64 x0, [], [(0, none)], []⟩,
          ⟨fV r_i64 (IntKind.i64.wrap (0 - x0)), [], [(9, some 0)], []⟩,
          ⟨fV r_i64 x1, [], [(1, none)], []⟩,
          ⟨fV r_i64 (IntKind.i64.wrap (0 - x1)), [], [(11, some 2)], []⟩,
          ⟨fV r_i64 (IntKind.i64.wrap (0 - x0)), [], [(10, some 1)], []⟩,
          ⟨fV r_i64 (IntKind.i64.wrap (0 - x1)), [], [(12, some 3)], []⟩] [0, 1] [4] hAt
          ⟨ok_move rfl opd0,
          ok_neg rfl opd0,
          ok_move rfl opd0,
          ok_neg rfl opd0,
          ok_assign rfl opd0,
          ok_assign rfl opd0, trivial⟩ (by kernel_rfl) ?_
      clear hAt
      intro a w hAt
      replace hAt : At B h0 (mkG [(0, fV r_i64 (IntKind.i64.wrap (0 - x0))), (1, fV r_i64 (IntKind.i64.wrap (0 - x1)))]) (mkO [(4, boxE 49 GRat.rep (⟨(⟨false, []⟩ : GInt), (⟨false, []⟩ : GInt)⟩ : GRat))]) F 34 a w := hAt
      cases H
      exact ⟨rfl, hAt.pick [0, 1] [4]⟩
    · intro hb1
      have H := iteF hb1 H
      refine wp_skip ?_
      cases H
      exact ⟨rfl, hAt.pick [0, 1] [4]⟩
  · clear hAt
    intro e a w hp
    obtain ⟨rfl, hAt⟩ := hp
    refine then_n ?_
    refine wp_seq ?_
    refine reg [⟨fV r_i64 o2.1, [], [(0, none)], []⟩,
        ⟨fV r_i64 o2.2, [], [(1, none)], []⟩,
        ⟨fV r_i64 o2.1, [], [(13, some 0)], []⟩,
        ⟨fV r_i64 o2.2, [], [(14, some 1)], []⟩] [0, 1, 5, 6] [4] hAt
        ⟨ok_move rfl opd0,
        ok_move rfl opd0,
        ok_assign rfl opd0,
        ok_assign rfl opd0, trivial⟩ (by kernel_rfl) ?_
    clear hAt
    intro a w hAt
    replace hAt : At B h0 (mkG [(0, fV r_i64 o2.1), (1, fV r_i64 o2.2), (5, fV r_i64 o2.1), (6, fV r_i64 o2.2)]) (mkO [(4, boxE 49 GRat.rep (⟨(⟨false, []⟩ : GInt), (⟨false, []⟩ : GInt)⟩ : GRat))]) F 34 a w := hAt
    refine then_n ?_
    refine wp_seq ?_
    obtain ⟨o5, hl6, H⟩ := bindE H
    refine wp_mono (Q := (fun o e a w => (fun v => e = .normal ∧ At B h0 (mkG [(0, fV r_i64 o2.1), (1, fV r_i64 o2.2), (5, fV r_i64 v), (6, fV r_i64 o2.2)]) (mkO [(4, boxE 49 GRat.rep (⟨(⟨false, []⟩ : GInt), (⟨false, []⟩ : GInt)⟩ : GRat))]) F 34 a w) o) o5) ?_ ?_
    · clear H
      have H := hl6
      clear hl6
      refine wp_seq ?_
      refine reg [⟨fV r_i64 o2.1, [], [(5, none)], []⟩,
          ⟨fV Rep.bool (cmpI .lss o2.1 0), [], [(15, some 0)], []⟩] [0, 1, 5, 6, 16] [4] hAt
          ⟨ok_move rfl opd0,
          ok_cmp (op := .lss) (by simp) rfl rfl opd0 opdI, trivial⟩ (by kernel_rfl) ?_
      clear hAt
      intro a w hAt
      replace hAt : At B h0 (mkG [(0, fV r_i64 o2.1), (1, fV r_i64 o2.2), (5, fV r_i64 o2.1), (6, fV r_i64 o2.2), (16, fV Rep.bool (cmpI .lss o2.1 0))]) (mkO [(4, boxE 49 GRat.rep (⟨(⟨false, []⟩ : GInt), (⟨false, []⟩ : GInt)⟩ : GRat))]) F 34 a w := hAt
      refine then_n ?_
      refine wp_if hAt (by rfl) ?_ ?_
      · intro hb4
        have H := iteT hb4 H
        refine reg [⟨fV r_i64 o2.1, [], [(5, none)], []⟩,
            ⟨fV r_i64 (IntKind.i64.wrap (0 - o2.1)), [], [(17, some 0)], []⟩,
            ⟨fV r_i64 (IntKind.i64.wrap (0 - o2.1)), [], [(18, some 1)], []⟩] [0, 1, 5, 6] [4] hAt
            ⟨ok_move rfl opd0,
            ok_neg rfl opd0,
            ok_assign rfl opd0, trivial⟩ (by kernel_rfl) ?_
        clear hAt
        intro a w hAt
        replace hAt : At B h0 (mkG [(0, fV r_i64 o2.1), (1, fV r_i64 o2.2), (5, fV r_i64 (IntKind.i64.wrap (0 - o2.1))), (6, fV r_i64 o2.2)]) (mkO [(4, boxE 49 GRat.rep (⟨(⟨false, []⟩ : GInt), (⟨false, []⟩ : GInt)⟩ : GRat))]) F 34 a w := hAt
        cases H
        exact ⟨rfl, hAt.pick [0, 1, 5, 6] [4]⟩
      · intro hb4
        have H := iteF hb4 H
        refine wp_skip ?_
        cases H
        exact ⟨rfl, hAt.pick [0, 1, 5, 6] [4]⟩
    · clear hAt
      intro e a w hp
      obtain ⟨rfl, hAt⟩ := hp
      refine then_n ?_
      refine wp_seq ?_
      refine wp_block ?_
      obtain ⟨o10, hl11, H⟩ := bindE H
      refine wp_mono (wp_loopN (f := f_base_Q_L1 N) (fun (s7 : (Int × Int)) a w => At B h0 (mkG [(0, fV r_i64 o2.1), (1, fV r_i64 o2.2), (5, fV r_i64 s7.1), (6, fV r_i64 s7.2)]) (mkO [(4, boxE 49 GRat.rep (⟨(⟨false, []⟩ : GInt), (⟨false, []⟩ : GInt)⟩ : GRat))]) F 34 a w) (fun o e a w => (fun v => e = .exit 0 ∧ At B h0 (mkG [(0, fV r_i64 o2.1), (1, fV r_i64 o2.2), (5, fV r_i64 v)]) (mkO [(4, boxE 49 GRat.rep (⟨(⟨false, []⟩ : GInt), (⟨false, []⟩ : GInt)⟩ : GRat))]) F 34 a w) o) ?_ N (o5, o2.2) o10 _ _ hl11 ?_) ?_
      · clear H hAt hl11
        intro s7 r16 a w H hAt
        unfold f_base_Q_L1 at H
        refine wp_seq ?_
        refine wp_seq ?_
        refine reg [⟨fV r_i64 s7.2, [], [(6, none)], []⟩,
            ⟨fV Rep.bool (cmpI .gtr s7.2 0), [], [(19, some 0)], []⟩] [0, 1, 5, 6, 20] [4] hAt
            ⟨ok_move rfl opd0,
            ok_cmp (op := .gtr) (by simp) rfl rfl opd0 opdI, trivial⟩ (by kernel_rfl) ?_
        clear hAt
        intro a w hAt
        replace hAt : At B h0 (mkG [(0, fV r_i64 o2.1), (1, fV r_i64 o2.2), (5, fV r_i64 s7.1), (6, fV r_i64 s7.2), (20, fV Rep.bool (cmpI .gtr s7.2 0))]) (mkO [(4, boxE 49 GRat.rep (⟨(⟨false, []⟩ : GInt), (⟨false, []⟩ : GInt)⟩ : GRat))]) F 34 a w := hAt
        refine then_n ?_
        refine wp_if hAt (by rfl) ?_ ?_
        · intro hb9
          have H := iteT hb9 H
          refine wp_skip ?_
          refine then_n ?_
          refine wp_block ?_
          obtain ⟨v8, hv8, H⟩ := bindE H
          refine regd [⟨fV r_i64 s7.2, [], [(6, none)], []⟩,
              ⟨fV r_i64 s7.1, [], [(5, none)], []⟩,
              ⟨fV r_i64 s7.2, [], [(6, none)], []⟩,
              ⟨fV r_i64 v8, [], [(22, some 1), (23, some 2)], []⟩,
              ⟨fV r_i64 s7.2, [], [(21, some 0)], []⟩,
              ⟨fV r_i64 v8, [], [(24, some 3)], []⟩] [0, 1, 2, 3, 4, 5] [0, 1, 2, 3, 4, 5] [0, 1, 5, 6] [4] hAt
              ⟨ok_move rfl opd0,
              ok_move rfl opd0,
              ok_move rfl opd0,
              ok_rem hv8 rfl opd0 opd1,
              ok_assign rfl opd0,
              ok_assign rfl opd0, trivial⟩ (by kernel_rfl) ?_
          clear hAt
          intro a w hAt
          replace hAt : At B h0 (mkG [(0, fV r_i64 o2.1), (1, fV r_i64 o2.2), (5, fV r_i64 s7.2), (6, fV r_i64 v8)]) (mkO [(4, boxE 49 GRat.rep (⟨(⟨false, []⟩ : GInt), (⟨false, []⟩ : GInt)⟩ : GRat))]) F 34 a w := hAt
          refine blk_n ?_
          cases H
          exact ⟨rfl, hAt.pick [0, 1, 5, 6] [4]⟩
        · intro hb9
          have H := iteF hb9 H
          refine wp_exit ?_
          refine then_x ?_
          cases H
          exact ⟨ex_ne, rfl, hAt.pick [0, 1, 5] [4]⟩
      · exact hAt.pick [0, 1, 5, 6] [4]
      · clear hAt
        intro e a w hp
        obtain ⟨rfl, hAt⟩ := hp
        refine blk_eq ?_
        refine then_n ?_
        refine wp_seq ?_
        obtain ⟨v12, hv12, H⟩ := bindE H
        obtain ⟨v13, hv13, H⟩ := bindE H
        obtain ⟨v14, hv14, H⟩ := bindE H
        obtain ⟨v15, hv15, H⟩ := bindE H
        refine regd [⟨fV r_i64 o2.1, [], [(0, none)], []⟩,
            ⟨fV r_i64 o10, [], [(5, none)], []⟩,
            ⟨fV r_i64 v12, [], [(25, some 0), (26, some 1)], []⟩,
            ⟨fV GInt.rep v13, [], [(27, some 2)], []⟩,
            ⟨fV r_i64 o2.2, [], [(1, none)], []⟩,
            ⟨fV r_i64 o10, [], [(5, none)], []⟩,
            ⟨fV r_i64 v14, [], [(29, some 4), (30, some 5)], []⟩,
            ⟨fV GInt.rep v15, [], [(31, some 6)], []⟩,
            ⟨fV GRat.rep (⟨v13, v15⟩ : GRat), [], [(28, some 3), (32, some 7)], []⟩,
            ⟨Fact.triv, [(4, some (boxE 49 GRat.rep (⟨v13, v15⟩ : GRat)))], [(33, some 8)], [(4, none)]⟩] [0, 1, 2, 3, 4, 5, 6, 7, 8, 9] [0, 1, 2, 3, 4, 5, 6, 7, 8, 9] [] [4] hAt
            ⟨ok_move rfl opd0,
            ok_move rfl opd0,
            ok_quo hv12 rfl opd0 opd1,
            ok_call (ok_f_base_Z N v12 _ hv13) Try.func80 (by kernel_rfl) (by kernel_rfl) rfl ⟨opd0, trivial⟩,
            ok_move rfl opd0,
            ok_move rfl opd0,
            ok_quo hv14 rfl opd0 opd1,
            ok_call (ok_f_base_Z N v14 _ hv15) Try.func80 (by kernel_rfl) (by kernel_rfl) rfl ⟨opd0, trivial⟩,
            ok_build ty49 rfl pl49 rfl (fillC GRat.l0 rfl opd0 (fillC GRat.l1 rfl opd1 fillN)),
            ok_storeBox ty49 rfl rfl opd0, trivial⟩ (by kernel_rfl) ?_
        clear hAt
        intro a w hAt
        replace hAt : At B h0 (mkG []) (mkO [(4, boxE 49 GRat.rep (⟨v13, v15⟩ : GRat))]) F 34 a w := hAt
        refine then_n ?_
        refine wp_ret ?_
        cases H
        exact ret1 rfl (rv_cell ty49 rfl) hAt
theorem ok_f_ref09_Interpolate (N : Nat) (x0 : (List GPoint)) (x1 : GRat) (r : GRat × Int) (H : f_ref09_Interpolate N x0 x1 = some r) : FnOk Try.prog 43 [fV (Rep.slice GPoint.rep) x0, fV GRat.rep x1] (fT2 (fV GRat.rep (r.1)) (fV r_i64 (r.2))) := by
  unfold f_ref09_Interpolate at H
  refine fn_enter Try.func43 rfl rfl (by kernel_rfl) ?_
  intro κ B h0 F a w hAt
  refine wp_seq ?_
  refine reg [⟨fRef GRat.rep x1, [], [(1, none)], []⟩,
      ⟨Fact.triv, [(4, some (boxE 49 GRat.rep (⟨(⟨false, []⟩ : GInt), (⟨false, []⟩ : GInt)⟩ : GRat)))], [], []⟩,
      ⟨fV r_i64 0, [], [], []⟩] [0, 3] [4] hAt
      ⟨ok_box rfl opd0,
      ok_alloc ty49 rfl rfl,
      ok_assign rfl opdI, trivial⟩ (by kernel_rfl) ?_
  clear hAt
  intro a w hAt
  replace hAt : At B h0 (mkG [(0, fV (Rep.slice GPoint.rep) x0), (3, fRef GRat.rep x1)]) (mkO [(4, boxE 49 GRat.rep (⟨(⟨false, []⟩ : GInt), (⟨false, []⟩ : GInt)⟩ : GRat))]) F 127 a w := hAt
  refine then_n ?_
  refine wp_seq ?_
  refine wp_seq ?_
  refine reg [⟨fV (Rep.slice GPoint.rep) x0, [], [(0, none)], []⟩,
      ⟨fV r_i64 (List.length x0 : Int), [], [(11, some 0)], []⟩,
      ⟨fV Rep.bool (cmpI .lss (List.length x0 : Int) 2), [], [(12, some 1)], []⟩] [0, 3, 13] [4] hAt
      ⟨ok_move rfl opd0,
      ok_len un73 rfl opd0,
      ok_cmp (op := .lss) (by simp) rfl rfl opd0 opdI, trivial⟩ (by kernel_rfl) ?_
  clear hAt
  intro a w hAt
  replace hAt : At B h0 (mkG [(0, fV (Rep.slice GPoint.rep) x0), (3, fRef GRat.rep x1), (13, fV Rep.bool (cmpI .lss (List.length x0 : Int) 2))]) (mkO [(4, boxE 49 GRat.rep (⟨(⟨false, []⟩ : GInt), (⟨false, []⟩ : GInt)⟩ : GRat))]) F 127 a w := hAt
  refine then_n ?_
  refine wp_if hAt (by rfl) ?_ ?_
  · intro hb41
    have H := iteT hb41 H
    refine wp_seq ?_
    refine reg [⟨fV GRat.rep (⟨(⟨false, []⟩ : GInt), (⟨false, []⟩ : GInt)⟩ : GRat), [], [], []⟩,
        ⟨Fact.triv, [(4, some (boxE 49 GRat.rep (⟨(⟨false, []⟩ : GInt), (⟨false, []⟩ : GInt)⟩ : GRat)))], [(14, some 0)], [(4, none)]⟩,
        ⟨fV r_i64 11, [], [], []⟩] [5] [4] hAt
        ⟨ok_build ty49 rfl pl49 rfl fillN,
        ok_storeBox ty49 rfl rfl opd0,
        ok_assign rfl opdI, trivial⟩ (by kernel_rfl) ?_
    clear hAt
    intro a w hAt
    replace hAt : At B h0 (mkG [(5, fV r_i64 11)]) (mkO [(4, boxE 49 GRat.rep (⟨(⟨false, []⟩ : GInt), (⟨false, []⟩ : GInt)⟩ : GRat))]) F 127 a w := hAt
    refine then_n ?_
    refine wp_ret ?_
    refine then_r ?_
    cases H
    exact ret2 rfl (rv_cell ty49 rfl) (rv_tmp rfl rfl) hAt
  · intro hb41
    have H := iteF hb41 H
    refine wp_skip ?_
    refine then_n ?_
    refine wp_seq ?_
    refine wp_seq ?_
    refine reg [⟨fV (Rep.slice GPoint.rep) x0, [], [(0, none)], []⟩,
        ⟨fV r_i64 (List.length x0 : Int), [], [(15, some 0)], []⟩,
        ⟨fV Rep.bool (cmpI .gtr (List.length x0 : Int) 40), [], [(16, some 1)], []⟩] [0, 3, 17] [4] hAt
        ⟨ok_move rfl opd0,
        ok_len un73 rfl opd0,
        ok_cmp (op := .gtr) (by simp) rfl rfl opd0 opdI, trivial⟩ (by kernel_rfl) ?_
    clear hAt
    intro a w hAt
    replace hAt : At B h0 (mkG [(0, fV (Rep.slice GPoint.rep) x0), (3, fRef GRat.rep x1), (17, fV Rep.bool (cmpI .gtr (List.length x0 : Int) 40))]) (mkO [(4, boxE 49 GRat.rep (⟨(⟨false, []⟩ : GInt), (⟨false, []⟩ : GInt)⟩ : GRat))]) F 127 a w := hAt
    refine then_n ?_
    refine wp_if hAt (by rfl) ?_ ?_
    · intro hb40
      have H := iteT hb40 H
      refine wp_seq ?_
      refine reg [⟨fV GRat.rep (⟨(⟨false, []⟩ : GInt), (⟨false, []⟩ : GInt)⟩ : GRat), [], [], []⟩,
          ⟨Fact.triv, [(4, some (boxE 49 GRat.rep (⟨(⟨false, []⟩ : GInt), (⟨false, []⟩ : GInt)⟩ : GRat)))], [(18, some 0)], [(4, none)]⟩,
          ⟨fV r_i64 8, [], [], []⟩] [5] [4] hAt
          ⟨ok_build ty49 rfl pl49 rfl fillN,
          ok_storeBox ty49 rfl rfl opd0,
          ok_assign rfl opdI, trivial⟩ (by kernel_rfl) ?_
      clear hAt
      intro a w hAt
      replace hAt : At B h0 (mkG [(5, fV r_i64 8)]) (mkO [(4, boxE 49 GRat.rep (⟨(⟨false, []⟩ : GInt), (⟨false, []⟩ : GInt)⟩ : GRat))]) F 127 a w := hAt
      refine then_n ?_
      refine wp_ret ?_
      refine then_r ?_
      cases H
      exact ret2 rfl (rv_cell ty49 rfl) (rv_tmp rfl rfl) hAt
    · intro hb40
      have H := iteF hb40 H
      refine wp_skip ?_
      refine then_n ?_
      refine wp_seq ?_
      refine wp_seq ?_
      refine reg [⟨fV r_i64 0, [], [], []⟩] [0, 3, 6] [4] hAt
          ⟨ok_assign rfl opdI, trivial⟩ (by kernel_rfl) ?_
      clear hAt
      intro a w hAt
      replace hAt : At B h0 (mkG [(0, fV (Rep.slice GPoint.rep) x0), (3, fRef GRat.rep x1), (6, fV r_i64 0)]) (mkO [(4, boxE 49 GRat.rep (⟨(⟨false, []⟩ : GInt), (⟨false, []⟩ : GInt)⟩ : GRat))]) F 127 a w := hAt
      refine then_n ?_
      refine wp_block ?_
      obtain ⟨o11, hl12, H⟩ := bindE H
      refine wp_mono (wp_loopN (f := f_ref09_Interpolate_L2 N x0) (fun (s1 : (GRat × Int)) a w => At B h0 (mkG [(0, fV (Rep.slice GPoint.rep) x0), (3, fRef GRat.rep x1), (6, fV r_i64 s1.2)]) (mkO [(4, boxE 49 GRat.rep s1.1)]) F 127 a w) (fun o e a w => (Sum.elim (fun v => e = .exit 0 ∧ At B h0 (mkG [(0, fV (Rep.slice GPoint.rep) x0), (3, fRef GRat.rep x1)]) (mkO [(4, boxE 49 GRat.rep v)]) F 127 a w) (fun v => e = .ret ∧ At B h0 (mkG [(5, fV r_i64 v.2)]) (mkO [(4, boxE 49 GRat.rep v.1)]) F 127 a w)) o) ?_ N ((⟨(⟨false, []⟩ : GInt), (⟨false, []⟩ : GInt)⟩ : GRat), 0) o11 _ _ hl12 ?_) ?_
      · clear H hAt hl12
        intro s1 r39 a w H hAt
        unfold f_ref09_Interpolate_L2 at H
        refine wp_seq ?_
        refine wp_seq ?_
        refine reg [⟨fV r_i64 s1.2, [], [(6, none)], []⟩,
            ⟨fV (Rep.slice GPoint.rep) x0, [], [(0, none)], []⟩,
            ⟨fV r_i64 (List.length x0 : Int), [], [(20, some 1)], []⟩,
            ⟨fV Rep.bool (cmpI .lss s1.2 (List.length x0 : Int)), [], [(19, some 0), (21, some 2)], []⟩] [0, 3, 6, 22] [4] hAt
            ⟨ok_move rfl opd0,
            ok_move rfl opd0,
            ok_len un73 rfl opd0,
            ok_cmp (op := .lss) (by simp) rfl rfl opd0 opd1, trivial⟩ (by kernel_rfl) ?_
        clear hAt
        intro a w hAt
        replace hAt : At B h0 (mkG [(0, fV (Rep.slice GPoint.rep) x0), (3, fRef GRat.rep x1), (6, fV r_i64 s1.2), (22, fV Rep.bool (cmpI .lss s1.2 (List.length x0 : Int)))]) (mkO [(4, boxE 49 GRat.rep s1.1)]) F 127 a w := hAt
        refine then_n ?_
        refine wp_if hAt (by rfl) ?_ ?_
        · intro hb10
          have H := iteT hb10 H
          refine wp_skip ?_
          refine then_n ?_
          refine wp_seq ?_
          refine wp_block ?_
          refine wp_seq ?_
          refine wp_seq ?_
          obtain ⟨v2, hv2, H⟩ := bindE H
          obtain ⟨v3, hv3, H⟩ := bindE H
          obtain ⟨v4, hv4, H⟩ := bindE H
          obtain ⟨v5, hv5, H⟩ := bindE H
          refine reg [⟨fV (Rep.slice GPoint.rep) x0, [], [(0, none)], []⟩,
              ⟨fV r_i64 s1.2, [], [(6, none)], []⟩,
              ⟨fRef GPoint.rep v2, [], [(25, some 0), (26, some 1)], []⟩,
              ⟨fRef r_i64 v2.X, [], [(27, some 2)], []⟩,
              ⟨fV r_i64 v2.X, [], [(28, some 3)], []⟩,
              ⟨fV Rep.bool v3, [], [(29, some 4)], []⟩,
              ⟨fV Rep.bool (!v3), [], [(30, some 5)], []⟩,
              ⟨fV Rep.bool (!v3), [], [(31, some 6)], []⟩,
              ⟨Fact.when ((!(!v3)) = true) (fV (Rep.slice GPoint.rep) x0), [], [(32, some 7), (0, none)], []⟩,
              ⟨Fact.when ((!(!v3)) = true) (fV r_i64 s1.2), [], [(32, some 7), (6, none)], []⟩,
              ⟨Fact.when ((!(!v3)) = true) (fRef GPoint.rep v4), [], [(32, some 7), (33, some 8), (34, some 9)], []⟩,
              ⟨Fact.when ((!(!v3)) = true) (fRef r_i64 v4.Y), [], [(32, some 7), (35, some 10)], []⟩,
              ⟨Fact.when ((!(!v3)) = true) (fV r_i64 v4.Y), [], [(32, some 7), (36, some 11)], []⟩,
              ⟨Fact.when ((!(!v3)) = true) (fV Rep.bool v5), [], [(32, some 7), (37, some 12)], []⟩,
              ⟨Fact.when ((!(!v3)) = true) (fV Rep.bool (!v5)), [], [(32, some 7), (38, some 13)], []⟩,
              ⟨fV Rep.bool ((!v3) || (!v5)), [], [(32, some 7), (39, some 14)], []⟩] [0, 3, 6, 40] [4] hAt
              ⟨ok_move rfl opd0,
              ok_move rfl opd0,
              ok_index ty79 un73 hv2 rfl opd0 opd1,
              ok_field GPoint.l0 fo79_0 rfl opd0,
              ok_load ty3 rfl opd0,
              ok_call (ok_f_ref09_within N v2.X 0 1000000000 _ hv3) Try.func69 (by kernel_rfl) (by kernel_rfl) rfl ⟨opd0, ⟨opdI, ⟨opdI, trivial⟩⟩⟩,
              ok_not rfl opd0,
              ok_move rfl opd0,
              obl_tf rfl rfl rfl rfl rfl rfl rfl (fun hg => ok_move rfl opd1),
              obl_tf rfl rfl rfl rfl rfl rfl rfl (fun hg => ok_move rfl opd1),
              obl_tf rfl rfl rfl rfl rfl rfl rfl (fun hg => ok_index ty79 un73 (iteT hg hv4) rfl (opd1.on hg) (opd2.on hg)),
              obl_tf rfl rfl rfl rfl rfl rfl rfl (fun hg => ok_field GPoint.l1 fo79_1 rfl (opd1.on hg)),
              obl_tf rfl rfl rfl rfl rfl rfl rfl (fun hg => ok_load ty3 rfl (opd1.on hg)),
              obl_tf rfl rfl rfl rfl rfl rfl rfl (fun hg => ok_call (ok_f_ref09_within N v4.Y 0 1000000000 _ (iteT hg hv5)) Try.func69 (by kernel_rfl) (by kernel_rfl) rfl ⟨(opd1.on hg), ⟨opdI, ⟨opdI, trivial⟩⟩⟩),
              obl_tf rfl rfl rfl rfl rfl rfl rfl (fun hg => ok_not rfl (opd1.on hg)),
              ok_or rfl opd0 (fun e => (opd1.on (notT e))), trivial⟩ (by kernel_rfl) ?_
          clear hAt
          intro a w hAt
          replace hAt : At B h0 (mkG [(0, fV (Rep.slice GPoint.rep) x0), (3, fRef GRat.rep x1), (6, fV r_i64 s1.2), (40, fV Rep.bool ((!v3) || (!v5)))]) (mkO [(4, boxE 49 GRat.rep s1.1)]) F 127 a w := hAt
          refine then_n ?_
          refine wp_if hAt (by rfl) ?_ ?_
          · intro hb9
            have H := iteT hb9 H
            refine wp_seq ?_
            refine reg [⟨fV GRat.rep (⟨(⟨false, []⟩ : GInt), (⟨false, []⟩ : GInt)⟩ : GRat), [], [], []⟩,
                ⟨Fact.triv, [(4, some (boxE 49 GRat.rep (⟨(⟨false, []⟩ : GInt), (⟨false, []⟩ : GInt)⟩ : GRat)))], [(41, some 0)], [(4, none)]⟩,
                ⟨fV r_i64 2, [], [], []⟩] [5] [4] hAt
                ⟨ok_build ty49 rfl pl49 rfl fillN,
                ok_storeBox ty49 rfl rfl opd0,
                ok_assign rfl opdI, trivial⟩ (by kernel_rfl) ?_
            clear hAt
            intro a w hAt
            replace hAt : At B h0 (mkG [(5, fV r_i64 2)]) (mkO [(4, boxE 49 GRat.rep (⟨(⟨false, []⟩ : GInt), (⟨false, []⟩ : GInt)⟩ : GRat))]) F 127 a w := hAt
            refine then_n ?_
            refine wp_ret ?_
            refine then_r ?_
            refine blk_r ?_
            refine then_r ?_
            cases H
            exact ⟨ret_ne, rfl, hAt.pick [5] [4]⟩
          · intro hb9
            have H := iteF hb9 H
            refine wp_skip ?_
            refine then_n ?_
            refine wp_seq ?_
            obtain ⟨v6, hv6, H⟩ := bindE H
            obtain ⟨v7, hv7, H⟩ := bindE H
            refine regd [⟨fV r_i64 s1.2, [], [(6, none)], []⟩,
                ⟨fV Rep.bool (cmpI .gtr s1.2 0), [], [(42, some 0)], []⟩,
                ⟨fV Rep.bool (cmpI .gtr s1.2 0), [], [(43, some 1)], []⟩,
                ⟨Fact.when ((cmpI .gtr s1.2 0) = true) (fV (Rep.slice GPoint.rep) x0), [], [(44, some 2), (0, none)], []⟩,
                ⟨Fact.when ((cmpI .gtr s1.2 0) = true) (fV r_i64 s1.2), [], [(44, some 2), (6, none)], []⟩,
                ⟨Fact.when ((cmpI .gtr s1.2 0) = true) (fRef GPoint.rep v6), [], [(44, some 2), (45, some 3), (46, some 4)], []⟩,
                ⟨Fact.when ((cmpI .gtr s1.2 0) = true) (fRef r_i64 v6.X), [], [(44, some 2), (47, some 5)], []⟩,
                ⟨Fact.when ((cmpI .gtr s1.2 0) = true) (fV r_i64 v6.X), [], [(44, some 2), (48, some 6)], []⟩,
                ⟨Fact.when ((cmpI .gtr s1.2 0) = true) (fV (Rep.slice GPoint.rep) x0), [], [(44, some 2), (0, none)], []⟩,
                ⟨Fact.when ((cmpI .gtr s1.2 0) = true) (fV r_i64 s1.2), [], [(44, some 2), (6, none)], []⟩,
                ⟨Fact.when ((cmpI .gtr s1.2 0) = true) (fV r_i64 (IntKind.i64.wrap (s1.2 - 1))), [], [(44, some 2), (51, some 9)], []⟩,
                ⟨Fact.when ((cmpI .gtr s1.2 0) = true) (fRef GPoint.rep v7), [], [(44, some 2), (50, some 8), (52, some 10)], []⟩,
                ⟨Fact.when ((cmpI .gtr s1.2 0) = true) (fRef r_i64 v7.X), [], [(44, some 2), (53, some 11)], []⟩,
                ⟨Fact.when ((cmpI .gtr s1.2 0) = true) (fV r_i64 v7.X), [], [(44, some 2), (54, some 12)], []⟩,
                ⟨Fact.when ((cmpI .gtr s1.2 0) = true) (fV Rep.bool (cmpI .leq v6.X v7.X)), [], [(44, some 2), (49, some 7), (55, some 13)], []⟩,
                ⟨fV Rep.bool ((cmpI .gtr s1.2 0) && (cmpI .leq v6.X v7.X)), [], [(44, some 2), (56, some 14)], []⟩] [0, 1, 2, 3, 4, 5, 6, 7, 8, 9, 10, 11, 12, 13, 14, 15] [0, 1, 2, 3, 4, 5, 6, 7, 8, 9, 10, 11, 12, 13, 14, 15] [0, 3, 6, 57] [4] hAt
                ⟨ok_move rfl opd0,
                ok_cmp (op := .gtr) (by simp) rfl rfl opd0 opdI,
                ok_move rfl opd0,
                obl_tt rfl rfl rfl rfl rfl rfl rfl (fun hg => ok_move rfl opd1),
                obl_tt rfl rfl rfl rfl rfl rfl rfl (fun hg => ok_move rfl opd1),
                obl_tt rfl rfl rfl rfl rfl rfl rfl (fun hg => ok_index ty79 un73 (iteT hg hv6) rfl (opd1.on hg) (opd2.on hg)),
                obl_tt rfl rfl rfl rfl rfl rfl rfl (fun hg => ok_field GPoint.l0 fo79_0 rfl (opd1.on hg)),
                obl_tt rfl rfl rfl rfl rfl rfl rfl (fun hg => ok_load ty3 rfl (opd1.on hg)),
                obl_tt rfl rfl rfl rfl rfl rfl rfl (fun hg => ok_move rfl opd1),
                obl_tt rfl rfl rfl rfl rfl rfl rfl (fun hg => ok_move rfl opd1),
                obl_tt rfl rfl rfl rfl rfl rfl rfl (fun hg => ok_sub rfl (opd1.on hg) opdI),
                obl_tt rfl rfl rfl rfl rfl rfl rfl (fun hg => ok_index ty79 un73 (iteT hg hv7) rfl (opd1.on hg) (opd2.on hg)),
                obl_tt rfl rfl rfl rfl rfl rfl rfl (fun hg => ok_field GPoint.l0 fo79_0 rfl (opd1.on hg)),
                obl_tt rfl rfl rfl rfl rfl rfl rfl (fun hg => ok_load ty3 rfl (opd1.on hg)),
                obl_tt rfl rfl rfl rfl rfl rfl rfl (fun hg => ok_cmp (op := .leq) (by simp) rfl rfl (opd1.on hg) (opd2.on hg)),
                ok_and rfl opd0 (fun e => (opd1.on e)), trivial⟩ (by kernel_rfl) ?_
            clear hAt
            intro a w hAt
            replace hAt : At B h0 (mkG [(0, fV (Rep.slice GPoint.rep) x0), (3, fRef GRat.rep x1), (6, fV r_i64 s1.2), (57, fV Rep.bool ((cmpI .gtr s1.2 0) && (cmpI .leq v6.X v7.X)))]) (mkO [(4, boxE 49 GRat.rep s1.1)]) F 127 a w := hAt
            refine then_n ?_
            refine wp_if hAt (by rfl) ?_ ?_
            · intro hb8
              have H := iteT hb8 H
              refine wp_seq ?_
              refine reg [⟨fV GRat.rep (⟨(⟨false, []⟩ : GInt), (⟨false, []⟩ : GInt)⟩ : GRat), [], [], []⟩,
                  ⟨Fact.triv, [(4, some (boxE 49 GRat.rep (⟨(⟨false, []⟩ : GInt), (⟨false, []⟩ : GInt)⟩ : GRat)))], [(58, some 0)], [(4, none)]⟩,
                  ⟨fV r_i64 10, [], [], []⟩] [5] [4] hAt
                  ⟨ok_build ty49 rfl pl49 rfl fillN,
                  ok_storeBox ty49 rfl rfl opd0,
                  ok_assign rfl opdI, trivial⟩ (by kernel_rfl) ?_
              clear hAt
              intro a w hAt
              replace hAt : At B h0 (mkG [(5, fV r_i64 10)]) (mkO [(4, boxE 49 GRat.rep (⟨(⟨false, []⟩ : GInt), (⟨false, []⟩ : GInt)⟩ : GRat))]) F 127 a w := hAt
              refine then_n ?_
              refine wp_ret ?_
              refine blk_r ?_
              refine then_r ?_
              cases H
              exact ⟨ret_ne, rfl, hAt.pick [5] [4]⟩
            · intro hb8
              have H := iteF hb8 H
              refine wp_skip ?_
              refine blk_n ?_
              refine then_n ?_
              refine reg [⟨fV r_i64 s1.2, [], [(6, none)], []⟩,
                  ⟨fV r_i64 (IntKind.i64.wrap (s1.2 + 1)), [], [(23, some 0)], []⟩,
                  ⟨fV r_i64 (IntKind.i64.wrap (s1.2 + 1)), [], [(24, some 1)], []⟩] [0, 3, 6] [4] hAt
                  ⟨ok_move rfl opd0,
                  ok_add rfl opd0 opdI,
                  ok_assign rfl opd0, trivial⟩ (by kernel_rfl) ?_
              clear hAt
              intro a w hAt
              replace hAt : At B h0 (mkG [(0, fV (Rep.slice GPoint.rep) x0), (3, fRef GRat.rep x1), (6, fV r_i64 (IntKind.i64.wrap (s1.2 + 1)))]) (mkO [(4, boxE 49 GRat.rep s1.1)]) F 127 a w := hAt
              cases H
              exact ⟨rfl, hAt.pick [0, 3, 6] [4]⟩
        · intro hb10
          have H := iteF hb10 H
          refine wp_exit ?_
          refine then_x ?_
          cases H
          exact ⟨ex_ne, rfl, hAt.pick [0, 3] [4]⟩
      · exact hAt.pick [0, 3, 6] [4]
      · clear hAt
        intro e a w hp
        cases o11 with
        | inl l13 =>
          rw [Sum.elim_inl] at H
          obtain ⟨rfl, hAt⟩ := hp
          refine blk_eq ?_
          refine then_n ?_
          refine wp_seq ?_
          refine wp_seq ?_
          refine reg [⟨fV r_i64 1, [], [], []⟩] [0, 3, 7] [4] hAt
              ⟨ok_assign rfl opdI, trivial⟩ (by kernel_rfl) ?_
          clear hAt
          intro a w hAt
          replace hAt : At B h0 (mkG [(0, fV (Rep.slice GPoint.rep) x0), (3, fRef GRat.rep x1), (7, fV r_i64 1)]) (mkO [(4, boxE 49 GRat.rep l13)]) F 127 a w := hAt
          refine then_n ?_
          refine wp_block ?_
          obtain ⟨o34, hl35, H⟩ := bindE H
          refine wp_mono (wp_loopN (f := f_ref09_Interpolate_L1 N x0 x1) (fun (s15 : (GRat × Int)) a w => At B h0 (mkG [(0, fV (Rep.slice GPoint.rep) x0), (3, fRef GRat.rep x1), (7, fV r_i64 s15.2)]) (mkO [(4, boxE 49 GRat.rep s15.1)]) F 127 a w) (fun o e a w => (Sum.elim (fun v => e = .exit 2 ∧ At B h0 (mkG []) (mkO [(4, boxE 49 GRat.rep v)]) F 127 a w) (fun v => e = .ret ∧ At B h0 (mkG [(5, fV r_i64 v.2)]) (mkO [(4, boxE 49 GRat.rep v.1)]) F 127 a w)) o) ?_ N (l13, 1) o34 _ _ hl35 ?_) ?_
          · clear H hAt hl35
            intro s15 r38 a w H hAt
            unfold f_ref09_Interpolate_L1 at H
            refine wp_seq ?_
            refine wp_seq ?_
            refine reg [⟨fV r_i64 s15.2, [], [(7, none)], []⟩,
                ⟨fV (Rep.slice GPoint.rep) x0, [], [(0, none)], []⟩,
                ⟨fV r_i64 (List.length x0 : Int), [], [(60, some 1)], []⟩,
                ⟨fV Rep.bool (cmpI .lss s15.2 (List.length x0 : Int)), [], [(59, some 0), (61, some 2)], []⟩] [0, 3, 7, 62] [4] hAt
                ⟨ok_move rfl opd0,
                ok_move rfl opd0,
                ok_len un73 rfl opd0,
                ok_cmp (op := .lss) (by simp) rfl rfl opd0 opd1, trivial⟩ (by kernel_rfl) ?_
            clear hAt
            intro a w hAt
            replace hAt : At B h0 (mkG [(0, fV (Rep.slice GPoint.rep) x0), (3, fRef GRat.rep x1), (7, fV r_i64 s15.2), (62, fV Rep.bool (cmpI .lss s15.2 (List.length x0 : Int)))]) (mkO [(4, boxE 49 GRat.rep s15.1)]) F 127 a w := hAt
            refine then_n ?_
            refine wp_if hAt (by rfl) ?_ ?_
            · intro hb33
              have H := iteT hb33 H
              refine wp_skip ?_
              refine then_n ?_
              refine wp_seq ?_
              refine wp_block ?_
              refine wp_seq ?_
              obtain ⟨v16, hv16, H⟩ := bindE H
              obtain ⟨v17, hv17, H⟩ := bindE H
              obtain ⟨v18, hv18, H⟩ := bindE H
              obtain ⟨v19, hv19, H⟩ := bindE H
              refine regd [⟨fV (Rep.slice GPoint.rep) x0, [], [(0, none)], []⟩,
                  ⟨fV r_i64 s15.2, [], [(7, none)], []⟩,
                  ⟨fV r_i64 (IntKind.i64.wrap (s15.2 - 1)), [], [(66, some 1)], []⟩,
                  ⟨fRef GPoint.rep v16, [], [(65, some 0), (67, some 2)], []⟩,
                  ⟨fRef r_i64 v16.X, [], [(68, some 3)], []⟩,
                  ⟨fV r_i64 v16.X, [], [(69, some 4)], []⟩,
                  ⟨fV GRat.rep v17, [], [(70, some 5)], []⟩,
                  ⟨fV (Rep.slice GPoint.rep) x0, [], [(0, none)], []⟩,
                  ⟨fV r_i64 s15.2, [], [(7, none)], []⟩,
                  ⟨fRef GPoint.rep v18, [], [(72, some 7), (73, some 8)], []⟩,
                  ⟨fRef r_i64 v18.X, [], [(74, some 9)], []⟩,
                  ⟨fV r_i64 v18.X, [], [(75, some 10)], []⟩,
                  ⟨fV GRat.rep v19, [], [(76, some 11)], []⟩,
                  ⟨Fact.triv, [(8, some (boxE 49 GRat.rep (⟨(⟨false, []⟩ : GInt), (⟨false, []⟩ : GInt)⟩ : GRat)))], [], []⟩,
                  ⟨Fact.triv, [(9, some (boxE 49 GRat.rep (⟨(⟨false, []⟩ : GInt), (⟨false, []⟩ : GInt)⟩ : GRat)))], [], []⟩,
                  ⟨Fact.triv, [(8, some (boxE 49 GRat.rep v17))], [(71, some 6)], [(8, some 13)]⟩,
                  ⟨Fact.triv, [(9, some (boxE 49 GRat.rep v19))], [(77, some 12)], [(9, some 14)]⟩] [0, 1, 2, 3, 4, 5, 6, 7, 8, 9, 10, 11, 12, 13, 14, 15, 16] [0, 1, 2, 3, 4, 5, 6, 7, 8, 9, 10, 11, 12, 13, 14, 15, 16] [0, 3, 7] [4, 8, 9] hAt
                  ⟨ok_move rfl opd0,
                  ok_move rfl opd0,
                  ok_sub rfl opd0 opdI,
                  ok_index ty79 un73 hv16 rfl opd0 opd1,
                  ok_field GPoint.l0 fo79_0 rfl opd0,
                  ok_load ty3 rfl opd0,
                  ok_call (ok_f_base_W N v16.X _ hv17) Try.func37 (by kernel_rfl) (by kernel_rfl) rfl ⟨opd0, trivial⟩,
                  ok_move rfl opd0,
                  ok_move rfl opd0,
                  ok_index ty79 un73 hv18 rfl opd0 opd1,
                  ok_field GPoint.l0 fo79_0 rfl opd0,
                  ok_load ty3 rfl opd0,
                  ok_call (ok_f_base_W N v18.X _ hv19) Try.func37 (by kernel_rfl) (by kernel_rfl) rfl ⟨opd0, trivial⟩,
                  ok_alloc ty49 rfl rfl,
                  ok_alloc ty49 rfl rfl,
                  ok_storeBox ty49 rfl rfl opd0,
                  ok_storeBox ty49 rfl rfl opd0, trivial⟩ (by kernel_rfl) ?_
              clear hAt
              intro a w hAt
              replace hAt : At B h0 (mkG [(0, fV (Rep.slice GPoint.rep) x0), (3, fRef GRat.rep x1), (7, fV r_i64 s15.2)]) (mkO [(4, boxE 49 GRat.rep s15.1), (8, boxE 49 GRat.rep v17), (9, boxE 49 GRat.rep v19)]) F 127 a w := hAt
              refine then_n ?_
              refine wp_seq ?_
              obtain ⟨v20, hv20, H⟩ := bindE H
              obtain ⟨v21, hv21, H⟩ := bindE H
              refine reg [⟨fV GRat.rep x1, [], [(3, none)], []⟩,
                  ⟨fV GRat.rep v17, [], [], [(8, none)]⟩,
                  ⟨fV r_i64 v20, [], [(78, some 0), (79, some 1)], []⟩,
                  ⟨fV Rep.bool (cmpI .geq v20 0), [], [(80, some 2)], []⟩,
                  ⟨fV Rep.bool (cmpI .geq v20 0), [], [(81, some 3)], []⟩,
                  ⟨Fact.when ((cmpI .geq v20 0) = true) (fV GRat.rep x1), [], [(82, some 4), (3, none)], []⟩,
                  ⟨Fact.when ((cmpI .geq v20 0) = true) (fV GRat.rep v19), [], [(82, some 4)], [(9, none)]⟩,
                  ⟨Fact.when ((cmpI .geq v20 0) = true) (fV r_i64 v21), [], [(82, some 4), (83, some 5), (84, some 6)], []⟩,
                  ⟨Fact.when ((cmpI .geq v20 0) = true) (fV Rep.bool (cmpI .leq v21 0)), [], [(82, some 4), (85, some 7)], []⟩,
                  ⟨fV Rep.bool ((cmpI .geq v20 0) && (cmpI .leq v21 0)), [], [(82, some 4), (86, some 8)], []⟩] [0, 3, 7, 87] [4, 8] hAt
                  ⟨ok_load ty49 rfl opd0,
                  ok_loadBox ty49 rfl,
                  ok_call (ok_f_ref01_CmpRat N x1 v17 _ hv20) Try.func44 (by kernel_rfl) (by kernel_rfl) rfl ⟨opd0, ⟨opd1, trivial⟩⟩,
                  ok_cmp (op := .geq) (by simp) rfl rfl opd0 opdI,
                  ok_move rfl opd0,
                  obl_tt rfl rfl rfl rfl rfl rfl rfl (fun hg => ok_load ty49 rfl opd1),
                  obl_tt rfl rfl rfl rfl rfl rfl rfl (fun hg => ok_loadBox ty49 rfl),
                  obl_tt rfl rfl rfl rfl rfl rfl rfl (fun hg => ok_call (ok_f_ref01_CmpRat N x1 v19 _ (iteT hg hv21)) Try.func44 (by kernel_rfl) (by kernel_rfl) rfl ⟨(opd1.on hg), ⟨(opd2.on hg), trivial⟩⟩),
                  obl_tt rfl rfl rfl rfl rfl rfl rfl (fun hg => ok_cmp (op := .leq) (by simp) rfl rfl (opd1.on hg) opdI),
                  ok_and rfl opd0 (fun e => (opd1.on e)), trivial⟩ (by kernel_rfl) ?_
              clear hAt
              intro a w hAt
              replace hAt : At B h0 (mkG [(0, fV (Rep.slice GPoint.rep) x0), (3, fRef GRat.rep x1), (7, fV r_i64 s15.2), (87, fV Rep.bool ((cmpI .geq v20 0) && (cmpI .leq v21 0)))]) (mkO [(4, boxE 49 GRat.rep s15.1), (8, boxE 49 GRat.rep v17)]) F 127 a w := hAt
              refine then_n ?_
              refine wp_if hAt (by rfl) ?_ ?_
              · intro hb32
                have H := iteT hb32 H
                refine wp_seq ?_
                obtain ⟨v22, hv22, H⟩ := bindE H
                obtain ⟨v23, hv23, H⟩ := bindE H
                obtain ⟨v24, hv24, H⟩ := bindE H
                obtain ⟨v25, hv25, H⟩ := bindE H
                obtain ⟨v26, hv26, H⟩ := bindE H
                refine regd [⟨fV (Rep.slice GPoint.rep) x0, [], [(0, none)], []⟩,
                    ⟨fV r_i64 s15.2, [], [(7, none)], []⟩,
                    ⟨fRef GPoint.rep v22, [], [(88, some 0), (89, some 1)], []⟩,
                    ⟨fRef r_i64 v22.Y, [], [(90, some 2)], []⟩,
                    ⟨fV r_i64 v22.Y, [], [(91, some 3)], []⟩,
                    ⟨fV (Rep.slice GPoint.rep) x0, [], [(0, none)], []⟩,
                    ⟨fV r_i64 s15.2, [], [(7, none)], []⟩,
                    ⟨fV r_i64 (IntKind.i64.wrap (s15.2 - 1)), [], [(94, some 6)], []⟩,
                    ⟨fRef GPoint.rep v23, [], [(93, some 5), (95, some 7)], []⟩,
                    ⟨fRef r_i64 v23.Y, [], [(96, some 8)], []⟩,
                    ⟨fV r_i64 v23.Y, [], [(97, some 9)], []⟩,
                    ⟨fV r_i64 (IntKind.i64.wrap (v22.Y - v23.Y)), [], [(92, some 4), (98, some 10)], []⟩,
                    ⟨fV (Rep.slice GPoint.rep) x0, [], [(0, none)], []⟩,
                    ⟨fV r_i64 s15.2, [], [(7, none)], []⟩,
                    ⟨fRef GPoint.rep v24, [], [(100, some 12), (101, some 13)], []⟩,
                    ⟨fRef r_i64 v24.X, [], [(102, some 14)], []⟩,
                    ⟨fV r_i64 v24.X, [], [(103, some 15)], []⟩,
                    ⟨fV (Rep.slice GPoint.rep) x0, [], [(0, none)], []⟩,
                    ⟨fV r_i64 s15.2, [], [(7, none)], []⟩,
                    ⟨fV r_i64 (IntKind.i64.wrap (s15.2 - 1)), [], [(106, some 18)], []⟩,
                    ⟨fRef GPoint.rep v25, [], [(105, some 17), (107, some 19)], []⟩,
                    ⟨fRef r_i64 v25.X, [], [(108, some 20)], []⟩,
                    ⟨fV r_i64 v25.X, [], [(109, some 21)], []⟩,
                    ⟨fV r_i64 (IntKind.i64.wrap (v24.X - v25.X)), [], [(104, some 16), (110, some 22)], []⟩,
                    ⟨fV GRat.rep v26, [], [(99, some 11), (111, some 23)], []⟩,
                    ⟨Fact.triv, [(10, some (boxE 49 GRat.rep (⟨(⟨false, []⟩ : GInt), (⟨false, []⟩ : GInt)⟩ : GRat)))], [], []⟩,
                    ⟨Fact.triv, [(10, some (boxE 49 GRat.rep v26))], [(112, some 24)], [(10, some 25)]⟩] [0, 1, 2, 3, 4, 5, 6, 7, 8, 9, 10, 11, 12, 13, 14, 15, 16, 17, 18, 19, 20, 21, 22, 23, 24, 25, 26] [0, 1, 2, 3, 4, 5, 6, 7, 8, 9, 10, 11, 12, 13, 14, 15, 16, 17, 18, 19, 20, 21, 22, 23, 24, 25, 26] [0, 3, 7] [4, 8, 10] hAt
                    ⟨ok_move rfl opd0,
                    ok_move rfl opd0,
                    ok_index ty79 un73 hv22 rfl opd0 opd1,
                    ok_field GPoint.l1 fo79_1 rfl opd0,
                    ok_load ty3 rfl opd0,
                    ok_move rfl opd0,
                    ok_move rfl opd0,
                    ok_sub rfl opd0 opdI,
                    ok_index ty79 un73 hv23 rfl opd0 opd1,
                    ok_field GPoint.l1 fo79_1 rfl opd0,
                    ok_load ty3 rfl opd0,
                    ok_sub rfl opd0 opd1,
                    ok_move rfl opd0,
                    ok_move rfl opd0,
                    ok_index ty79 un73 hv24 rfl opd0 opd1,
                    ok_field GPoint.l0 fo79_0 rfl opd0,
                    ok_load ty3 rfl opd0,
                    ok_move rfl opd0,
                    ok_move rfl opd0,
                    ok_sub rfl opd0 opdI,
                    ok_index ty79 un73 hv25 rfl opd0 opd1,
                    ok_field GPoint.l0 fo79_0 rfl opd0,
                    ok_load ty3 rfl opd0,
                    ok_sub rfl opd0 opd1,
                    ok_call (ok_f_base_Q N (IntKind.i64.wrap (v22.Y - v23.Y)) (IntKind.i64.wrap (v24.X - v25.X)) _ hv26) Try.func72 (by kernel_rfl) (by kernel_rfl) rfl ⟨opd0, ⟨opd1, trivial⟩⟩,
                    ok_alloc ty49 rfl rfl,
                    ok_storeBox ty49 rfl rfl opd0, trivial⟩ (by kernel_rfl) ?_
                clear hAt
                intro a w hAt
                replace hAt : At B h0 (mkG [(0, fV (Rep.slice GPoint.rep) x0), (3, fRef GRat.rep x1), (7, fV r_i64 s15.2)]) (mkO [(4, boxE 49 GRat.rep s15.1), (8, boxE 49 GRat.rep v17), (10, boxE 49 GRat.rep v26)]) F 127 a w := hAt
                refine then_n ?_
                refine wp_seq ?_
                obtain ⟨v27, hv27, H⟩ := bindE H
                obtain ⟨v28, hv28, H⟩ := bindE H
                obtain ⟨v29, hv29, H⟩ := bindE H
                obtain ⟨v30, hv30, H⟩ := bindE H
                obtain ⟨v31, hv31, H⟩ := bindE H
                refine regd [⟨fV (Rep.slice GPoint.rep) x0, [], [(0, none)], []⟩,
                    ⟨fV r_i64 s15.2, [], [(7, none)], []⟩,
                    ⟨fV r_i64 (IntKind.i64.wrap (s15.2 - 1)), [], [(114, some 1)], []⟩,
                    ⟨fRef GPoint.rep v27, [], [(113, some 0), (115, some 2)], []⟩,
                    ⟨fRef r_i64 v27.Y, [], [(116, some 3)], []⟩,
                    ⟨fV r_i64 v27.Y, [], [(117, some 4)], []⟩,
                    ⟨fV GRat.rep v28, [], [(118, some 5)], []⟩,
                    ⟨fV GRat.rep v26, [], [], [(10, none)]⟩,
                    ⟨fV GRat.rep x1, [], [(3, none)], []⟩,
                    ⟨fV GRat.rep v17, [], [], [(8, none)]⟩,
                    ⟨fV GRat.rep v29, [], [(121, some 8), (122, some 9)], []⟩,
                    ⟨fV GRat.rep v30, [], [(120, some 7), (123, some 10)], []⟩,
                    ⟨fV GRat.rep v31, [], [(119, some 6), (124, some 11)], []⟩,
                    ⟨Fact.triv, [(4, some (boxE 49 GRat.rep v31))], [(125, some 12)], [(4, none)]⟩,
                    ⟨fV r_i64 0, [], [], []⟩] [0, 1, 2, 3, 4, 5, 6, 7, 8, 9, 10, 11, 12, 13, 14] [0, 1, 2, 3, 4, 5, 6, 7, 8, 9, 10, 11, 12, 13, 14] [5] [4] hAt
                    ⟨ok_move rfl opd0,
                    ok_move rfl opd0,
                    ok_sub rfl opd0 opdI,
                    ok_index ty79 un73 hv27 rfl opd0 opd1,
                    ok_field GPoint.l1 fo79_1 rfl opd0,
                    ok_load ty3 rfl opd0,
                    ok_call (ok_f_base_W N v27.Y _ hv28) Try.func37 (by kernel_rfl) (by kernel_rfl) rfl ⟨opd0, trivial⟩,
                    ok_loadBox ty49 rfl,
                    ok_load ty49 rfl opd0,
                    ok_loadBox ty49 rfl,
                    ok_call (ok_f_ref01_SubRat N x1 v17 _ hv29) Try.func79 (by kernel_rfl) (by kernel_rfl) rfl ⟨opd0, ⟨opd1, trivial⟩⟩,
                    ok_call (ok_f_ref01_MulRat N v26 v29 _ hv30) Try.func83 (by kernel_rfl) (by kernel_rfl) rfl ⟨opd0, ⟨opd1, trivial⟩⟩,
                    ok_call (ok_f_ref01_AddRat N v28 v30 _ hv31) Try.func78 (by kernel_rfl) (by kernel_rfl) rfl ⟨opd0, ⟨opd1, trivial⟩⟩,
                    ok_storeBox ty49 rfl rfl opd0,
                    ok_assign rfl opdI, trivial⟩ (by kernel_rfl) ?_
                clear hAt
                intro a w hAt
                replace hAt : At B h0 (mkG [(5, fV r_i64 0)]) (mkO [(4, boxE 49 GRat.rep v31)]) F 127 a w := hAt
                refine then_n ?_
                refine wp_ret ?_
                refine blk_r ?_
                refine then_r ?_
                cases H
                exact ⟨ret_ne, rfl, hAt.pick [5] [4]⟩
              · intro hb32
                have H := iteF hb32 H
                refine wp_skip ?_
                refine blk_n ?_
                refine then_n ?_
                refine reg [⟨fV r_i64 s15.2, [], [(7, none)], []⟩,
                    ⟨fV r_i64 (IntKind.i64.wrap (s15.2 + 1)), [], [(63, some 0)], []⟩,
                    ⟨fV r_i64 (IntKind.i64.wrap (s15.2 + 1)), [], [(64, some 1)], []⟩] [0, 3, 7] [4] hAt
                    ⟨ok_move rfl opd0,
                    ok_add rfl opd0 opdI,
                    ok_assign rfl opd0, trivial⟩ (by kernel_rfl) ?_
                clear hAt
                intro a w hAt
                replace hAt : At B h0 (mkG [(0, fV (Rep.slice GPoint.rep) x0), (3, fRef GRat.rep x1), (7, fV r_i64 (IntKind.i64.wrap (s15.2 + 1)))]) (mkO [(4, boxE 49 GRat.rep s15.1)]) F 127 a w := hAt
                cases H
                exact ⟨rfl, hAt.pick [0, 3, 7] [4]⟩
            · intro hb33
              have H := iteF hb33 H
              refine wp_exit ?_
              refine then_x ?_
              cases H
              exact ⟨ex_ne, rfl, hAt.pick [] [4]⟩
          · exact hAt.pick [0, 3, 7] [4]
          · clear hAt
            intro e a w hp
            cases o34 with
            | inl l36 =>
              rw [Sum.elim_inl] at H
              obtain ⟨rfl, hAt⟩ := hp
              refine blk_eq ?_
              refine then_n ?_
              refine wp_seq ?_
              refine reg [⟨fV GRat.rep (⟨(⟨false, []⟩ : GInt), (⟨false, []⟩ : GInt)⟩ : GRat), [], [], []⟩,
                  ⟨Fact.triv, [(4, some (boxE 49 GRat.rep (⟨(⟨false, []⟩ : GInt), (⟨false, []⟩ : GInt)⟩ : GRat)))], [(126, some 0)], [(4, none)]⟩,
                  ⟨fV r_i64 6, [], [], []⟩] [5] [4] hAt
                  ⟨ok_build ty49 rfl pl49 rfl fillN,
                  ok_storeBox ty49 rfl rfl opd0,
                  ok_assign rfl opdI, trivial⟩ (by kernel_rfl) ?_
              clear hAt
              intro a w hAt
              replace hAt : At B h0 (mkG [(5, fV r_i64 6)]) (mkO [(4, boxE 49 GRat.rep (⟨(⟨false, []⟩ : GInt), (⟨false, []⟩ : GInt)⟩ : GRat))]) F 127 a w := hAt
              refine then_n ?_
              refine wp_ret ?_
              cases H
              exact ret2 rfl (rv_cell ty49 rfl) (rv_tmp rfl rfl) hAt
            | inr r37 =>
              rw [Sum.elim_inr] at H
              replace hp := hp
              obtain ⟨rfl, hAt⟩ := hp
              refine blk_r ?_
              refine then_r ?_
              cases H
              exact ret2 rfl (rv_cell ty49 rfl) (rv_tmp rfl rfl) hAt
        | inr r14 =>
          rw [Sum.elim_inr] at H
          replace hp := hp
          obtain ⟨rfl, hAt⟩ := hp
          refine blk_r ?_
          refine then_r ?_
          cases H
          exact ret2 rfl (rv_cell ty49 rfl) (rv_tmp rfl rfl) hAt
theorem ok_f_law09_SurveyTables (N : Nat) (x0 : (List GPoint)) (x1 : GRat) (r : Bool) (H : f_law09_SurveyTables N x0 x1 = some r) : FnOk Try.prog 7 [fV (Rep.slice GPoint.rep) x0, fV GRat.rep x1] (fV Rep.bool r) := by
  unfold f_law09_SurveyTables at H
  refine fn_enter Try.func7 rfl rfl (by kernel_rfl) ?_
  intro κ B h0 F a w hAt
  refine wp_seq ?_
  refine reg [⟨fRef GRat.rep x1, [], [(1, none)], []⟩,
      ⟨fV Rep.bool false, [], [], []⟩] [0, 3] [] hAt
      ⟨ok_box rfl opd0,
      ok_assign rfl opdB, trivial⟩ (by kernel_rfl) ?_
  clear hAt
  intro a w hAt
  replace hAt : At B h0 (mkG [(0, fV (Rep.slice GPoint.rep) x0), (3, fRef GRat.rep x1)]) (mkO []) F 108 a w := hAt
  refine then_n ?_
  refine wp_seq ?_
  refine wp_seq ?_
  obtain ⟨v1, hv1, H⟩ := bindE H
  refine reg [⟨fV Rep.bool v1, [], [], []⟩,
      ⟨fV Rep.bool (!v1), [], [(12, some 0)], []⟩] [0, 3, 13] [] hAt
      ⟨ok_call (ok_f_law09_awake N _ hv1) Try.func14 (by kernel_rfl) (by kernel_rfl) rfl trivial,
      ok_not rfl opd0, trivial⟩ (by kernel_rfl) ?_
  clear hAt
  intro a w hAt
  replace hAt : At B h0 (mkG [(0, fV (Rep.slice GPoint.rep) x0), (3, fRef GRat.rep x1), (13, fV Rep.bool (!v1))]) (mkO []) F 108 a w := hAt
  refine then_n ?_
  refine wp_if hAt (by rfl) ?_ ?_
  · intro hb31
    have H := iteT hb31 H
    refine wp_seq ?_
    refine reg [⟨fV Rep.bool false, [], [], []⟩] [4] [] hAt
        ⟨ok_assign rfl opdB, trivial⟩ (by kernel_rfl) ?_
    clear hAt
    intro a w hAt
    replace hAt : At B h0 (mkG [(4, fV Rep.bool false)]) (mkO []) F 108 a w := hAt
    refine then_n ?_
    refine wp_ret ?_
    refine then_r ?_
    cases H
    exact ret1 rfl (rv_tmp rfl rfl) hAt
  · intro hb31
    have H := iteF hb31 H
    refine wp_skip ?_
    refine then_n ?_
    refine wp_seq ?_
    refine wp_seq ?_
    obtain ⟨v2, hv2, H⟩ := bindE H
    refine reg [⟨fV (Rep.slice GPoint.rep) x0, [], [(0, none)], []⟩,
        ⟨fV r_i64 (List.length x0 : Int), [], [(14, some 0)], []⟩,
        ⟨fV Rep.bool (cmpI .gtr (List.length x0 : Int) 45), [], [(15, some 1)], []⟩,
        ⟨fV Rep.bool (cmpI .gtr (List.length x0 : Int) 45), [], [(16, some 2)], []⟩,
        ⟨Fact.when ((!(cmpI .gtr (List.length x0 : Int) 45)) = true) (fV GRat.rep x1), [], [(17, some 3), (3, none)], []⟩,
        ⟨Fact.when ((!(cmpI .gtr (List.length x0 : Int) 45)) = true) (fV Rep.bool v2), [], [(17, some 3), (18, some 4)], []⟩,
        ⟨Fact.when ((!(cmpI .gtr (List.length x0 : Int) 45)) = true) (fV Rep.bool (!v2)), [], [(17, some 3), (19, some 5)], []⟩,
        ⟨fV Rep.bool ((cmpI .gtr (List.length x0 : Int) 45) || (!v2)), [], [(17, some 3), (20, some 6)], []⟩] [0, 3, 21] [] hAt
        ⟨ok_move rfl opd0,
        ok_len un73 rfl opd0,
        ok_cmp (op := .gtr) (by simp) rfl rfl opd0 opdI,
        ok_move rfl opd0,
        obl_tf rfl rfl rfl rfl rfl rfl rfl (fun hg => ok_load ty49 rfl opd1),
        obl_tf rfl rfl rfl rfl rfl rfl rfl (fun hg => ok_call (ok_f_base_Short N x1 4 _ (iteT hg hv2)) Try.func41 (by kernel_rfl) (by kernel_rfl) rfl ⟨(opd1.on hg), ⟨opdI, trivial⟩⟩),
        obl_tf rfl rfl rfl rfl rfl rfl rfl (fun hg => ok_not rfl (opd1.on hg)),
        ok_or rfl opd0 (fun e => (opd1.on (notT e))), trivial⟩ (by kernel_rfl) ?_
    clear hAt
    intro a w hAt
    replace hAt : At B h0 (mkG [(0, fV (Rep.slice GPoint.rep) x0), (3, fRef GRat.rep x1), (21, fV Rep.bool ((cmpI .gtr (List.length x0 : Int) 45) || (!v2)))]) (mkO []) F 108 a w := hAt
    refine then_n ?_
    refine wp_if hAt (by rfl) ?_ ?_
    · intro hb30
      have H := iteT hb30 H
      refine wp_seq ?_
      refine reg [⟨fV Rep.bool true, [], [], []⟩] [4] [] hAt
          ⟨ok_assign rfl opdB, trivial⟩ (by kernel_rfl) ?_
      clear hAt
      intro a w hAt
      replace hAt : At B h0 (mkG [(4, fV Rep.bool true)]) (mkO []) F 108 a w := hAt
      refine then_n ?_
      refine wp_ret ?_
      refine then_r ?_
      cases H
      exact ret1 rfl (rv_tmp rfl rfl) hAt
    · intro hb30
      have H := iteF hb30 H
      refine wp_skip ?_
      refine then_n ?_
      refine wp_seq ?_
      obtain ⟨v3, hv3, H⟩ := bindE H
      refine reg [⟨fV (Rep.slice GPoint.rep) x0, [], [(0, none)], []⟩,
          ⟨fV GRat.rep x1, [], [(3, none)], []⟩,
          ⟨fT2 (fV GRat.rep v3.1) (fV r_i64 v3.2), [], [(23, some 0), (24, some 1)], []⟩,
          ⟨fT2 (fV GRat.rep v3.1) (fV r_i64 v3.2), [], [(25, some 2)], []⟩,
          ⟨fV GRat.rep v3.1, [], [(22, some 3)], []⟩,
          ⟨fV r_i64 v3.2, [], [(22, some 3)], []⟩,
          ⟨Fact.triv, [(5, some (boxE 49 GRat.rep (⟨(⟨false, []⟩ : GInt), (⟨false, []⟩ : GInt)⟩ : GRat)))], [], []⟩,
          ⟨Fact.triv, [(5, some (boxE 49 GRat.rep v3.1))], [(26, some 4)], [(5, some 6)]⟩,
          ⟨fV r_i64 v3.2, [], [(27, some 5)], []⟩] [0, 3, 6] [5] hAt
          ⟨ok_move rfl opd0,
          ok_load ty49 rfl opd0,
          ok_call (ok_f_survey_Interpolate N x0 x1 _ hv3) Try.func42 (by kernel_rfl) (by kernel_rfl) rfl ⟨opd0, ⟨opd1, trivial⟩⟩,
          ok_move rfl opd0,
          ok_ext20 rfl rfl opd0,
          ok_ext21 rfl rfl opd0,
          ok_alloc ty49 rfl rfl,
          ok_storeBox ty49 rfl rfl opd0,
          ok_assign rfl opd0, trivial⟩ (by kernel_rfl) ?_
      clear hAt
      intro a w hAt
      replace hAt : At B h0 (mkG [(0, fV (Rep.slice GPoint.rep) x0), (3, fRef GRat.rep x1), (6, fV r_i64 v3.2)]) (mkO [(5, boxE 49 GRat.rep v3.1)]) F 108 a w := hAt
      refine then_n ?_
      refine wp_seq ?_
      obtain ⟨v4, hv4, H⟩ := bindE H
      refine reg [⟨fV (Rep.slice GPoint.rep) x0, [], [(0, none)], []⟩,
          ⟨fV GRat.rep x1, [], [(3, none)], []⟩,
          ⟨fT2 (fV GRat.rep v4.1) (fV r_i64 v4.2), [], [(29, some 0), (30, some 1)], []⟩,
          ⟨fT2 (fV GRat.rep v4.1) (fV r_i64 v4.2), [], [(31, some 2)], []⟩,
          ⟨fV GRat.rep v4.1, [], [(28, some 3)], []⟩,
          ⟨fV r_i64 v4.2, [], [(28, some 3)], []⟩,
          ⟨Fact.triv, [(7, some (boxE 49 GRat.rep (⟨(⟨false, []⟩ : GInt), (⟨false, []⟩ : GInt)⟩ : GRat)))], [], []⟩,
          ⟨Fact.triv, [(7, some (boxE 49 GRat.rep v4.1))], [(32, some 4)], [(7, some 6)]⟩,
          ⟨fV r_i64 v4.2, [], [(33, some 5)], []⟩] [0, 3, 6, 8] [5, 7] hAt
          ⟨ok_move rfl opd0,
          ok_load ty49 rfl opd0,
          ok_call (ok_f_ref09_Interpolate N x0 x1 _ hv4) Try.func43 (by kernel_rfl) (by kernel_rfl) rfl ⟨opd0, ⟨opd1, trivial⟩⟩,
          ok_move rfl opd0,
          ok_ext20 rfl rfl opd0,
          ok_ext21 rfl rfl opd0,
          ok_alloc ty49 rfl rfl,
          ok_storeBox ty49 rfl rfl opd0,
          ok_assign rfl opd0, trivial⟩ (by kernel_rfl) ?_
      clear hAt
      intro a w hAt
      replace hAt : At B h0 (mkG [(0, fV (Rep.slice GPoint.rep) x0), (3, fRef GRat.rep x1), (6, fV r_i64 v3.2), (8, fV r_i64 v4.2)]) (mkO [(5, boxE 49 GRat.rep v3.1), (7, boxE 49 GRat.rep v4.1)]) F 108 a w := hAt
      refine then_n ?_
      refine wp_seq ?_
      refine wp_seq ?_
      obtain ⟨v5, hv5, H⟩ := bindE H
      refine reg [⟨fV GRat.rep v3.1, [], [], [(5, none)]⟩,
          ⟨fV GRat.rep v4.1, [], [], [(7, none)]⟩,
          ⟨fV Rep.bool v5, [], [(34, some 0), (35, some 1)], []⟩,
          ⟨fV Rep.bool (!v5), [], [(36, some 2)], []⟩,
          ⟨fV Rep.bool (!v5), [], [(37, some 3)], []⟩,
          ⟨Fact.when ((!(!v5)) = true) (fV r_i64 v3.2), [], [(38, some 4), (6, none)], []⟩,
          ⟨Fact.when ((!(!v5)) = true) (fV r_i64 v4.2), [], [(38, some 4), (8, none)], []⟩,
          ⟨Fact.when ((!(!v5)) = true) (fV Rep.bool (cmpI .neq v3.2 v4.2)), [], [(38, some 4), (39, some 5), (40, some 6)], []⟩,
          ⟨fV Rep.bool ((!v5) || (cmpI .neq v3.2 v4.2)), [], [(38, some 4), (41, some 7)], []⟩] [0, 3, 8, 42] [5] hAt
          ⟨ok_loadBox ty49 rfl,
          ok_loadBox ty49 rfl,
          ok_call (ok_f_base_SameRat N v3.1 v4.1 _ hv5) Try.func30 (by kernel_rfl) (by kernel_rfl) rfl ⟨opd0, ⟨opd1, trivial⟩⟩,
          ok_not rfl opd0,
          ok_move rfl opd0,
          obl_tf rfl rfl rfl rfl rfl rfl rfl (fun hg => ok_move rfl opd1),
          obl_tf rfl rfl rfl rfl rfl rfl rfl (fun hg => ok_move rfl opd1),
          obl_tf rfl rfl rfl rfl rfl rfl rfl (fun hg => ok_cmp (op := .neq) (by simp) rfl rfl (opd1.on hg) (opd2.on hg)),
          ok_or rfl opd0 (fun e => (opd1.on (notT e))), trivial⟩ (by kernel_rfl) ?_
      clear hAt
      intro a w hAt
      replace hAt : At B h0 (mkG [(0, fV (Rep.slice GPoint.rep) x0), (3, fRef GRat.rep x1), (8, fV r_i64 v4.2), (42, fV Rep.bool ((!v5) || (cmpI .neq v3.2 v4.2)))]) (mkO [(5, boxE 49 GRat.rep v3.1)]) F 108 a w := hAt
      refine then_n ?_
      refine wp_if hAt (by rfl) ?_ ?_
      · intro hb29
        have H := iteT hb29 H
        refine wp_seq ?_
        refine reg [⟨fV Rep.bool false, [], [], []⟩] [4] [] hAt
            ⟨ok_assign rfl opdB, trivial⟩ (by kernel_rfl) ?_
        clear hAt
        intro a w hAt
        replace hAt : At B h0 (mkG [(4, fV Rep.bool false)]) (mkO []) F 108 a w := hAt
        refine then_n ?_
        refine wp_ret ?_
        refine then_r ?_
        cases H
        exact ret1 rfl (rv_tmp rfl rfl) hAt
      · intro hb29
        have H := iteF hb29 H
        refine wp_skip ?_
        refine then_n ?_
        refine wp_seq ?_
        refine wp_seq ?_
        refine reg [⟨fV r_i64 v4.2, [], [(8, none)], []⟩,
            ⟨fV Rep.bool (cmpI .neq v4.2 0), [], [(43, some 0)], []⟩] [0, 3, 44] [5] hAt
            ⟨ok_move rfl opd0,
            ok_cmp (op := .neq) (by simp) rfl rfl opd0 opdI, trivial⟩ (by kernel_rfl) ?_
        clear hAt
        intro a w hAt
        replace hAt : At B h0 (mkG [(0, fV (Rep.slice GPoint.rep) x0), (3, fRef GRat.rep x1), (44, fV Rep.bool (cmpI .neq v4.2 0))]) (mkO [(5, boxE 49 GRat.rep v3.1)]) F 108 a w := hAt
        refine then_n ?_
        refine wp_if hAt (by rfl) ?_ ?_
        · intro hb28
          have H := iteT hb28 H
          refine wp_seq ?_
          refine reg [⟨fV Rep.bool true, [], [], []⟩] [4] [] hAt
              ⟨ok_assign rfl opdB, trivial⟩ (by kernel_rfl) ?_
          clear hAt
          intro a w hAt
          replace hAt : At B h0 (mkG [(4, fV Rep.bool true)]) (mkO []) F 108 a w := hAt
          refine then_n ?_
          refine wp_ret ?_
          refine then_r ?_
          cases H
          exact ret1 rfl (rv_tmp rfl rfl) hAt
        · intro hb28
          have H := iteF hb28 H
          refine wp_skip ?_
          refine then_n ?_
          refine wp_seq ?_
          refine wp_seq ?_
          refine reg [⟨fV r_i64 1, [], [], []⟩] [0, 3, 9] [5] hAt
              ⟨ok_assign rfl opdI, trivial⟩ (by kernel_rfl) ?_
          clear hAt
          intro a w hAt
          replace hAt : At B h0 (mkG [(0, fV (Rep.slice GPoint.rep) x0), (3, fRef GRat.rep x1), (9, fV r_i64 1)]) (mkO [(5, boxE 49 GRat.rep v3.1)]) F 108 a w := hAt
          refine then_n ?_
          refine wp_block ?_
          obtain ⟨o23, hl24, H⟩ := bindE H
          refine wp_mono (wp_loopN (f := f_law09_SurveyTables_L1 N x0 x1 v3) (fun (s6 : Int) a w => At B h0 (mkG [(0, fV (Rep.slice GPoint.rep) x0), (3, fRef GRat.rep x1), (9, fV r_i64 s6)]) (mkO [(5, boxE 49 GRat.rep v3.1)]) F 108 a w) (fun o e a w => (Sum.elim (fun v => e = .exit 0 ∧ At B h0 (mkG []) (mkO []) F 108 a w) (fun v => e = .ret ∧ At B h0 (mkG [(4, fV Rep.bool v)]) (mkO []) F 108 a w)) o) ?_ N 1 o23 _ _ hl24 ?_) ?_
          · clear H hAt hl24
            intro s6 r27 a w H hAt
            unfold f_law09_SurveyTables_L1 at H
            refine wp_seq ?_
            refine wp_seq ?_
            refine reg [⟨fV r_i64 s6, [], [(9, none)], []⟩,
                ⟨fV (Rep.slice GPoint.rep) x0, [], [(0, none)], []⟩,
                ⟨fV r_i64 (List.length x0 : Int), [], [(46, some 1)], []⟩,
                ⟨fV Rep.bool (cmpI .lss s6 (List.length x0 : Int)), [], [(45, some 0), (47, some 2)], []⟩] [0, 3, 9, 48] [5] hAt
                ⟨ok_move rfl opd0,
                ok_move rfl opd0,
                ok_len un73 rfl opd0,
                ok_cmp (op := .lss) (by simp) rfl rfl opd0 opd1, trivial⟩ (by kernel_rfl) ?_
            clear hAt
            intro a w hAt
            replace hAt : At B h0 (mkG [(0, fV (Rep.slice GPoint.rep) x0), (3, fRef GRat.rep x1), (9, fV r_i64 s6), (48, fV Rep.bool (cmpI .lss s6 (List.length x0 : Int)))]) (mkO [(5, boxE 49 GRat.rep v3.1)]) F 108 a w := hAt
            refine then_n ?_
            refine wp_if hAt (by rfl) ?_ ?_
            · intro hb22
              have H := iteT hb22 H
              refine wp_skip ?_
              refine then_n ?_
              refine wp_seq ?_
              refine wp_block ?_
              refine wp_seq ?_
              obtain ⟨v7, hv7, H⟩ := bindE H
              obtain ⟨v8, hv8, H⟩ := bindE H
              obtain ⟨v9, hv9, H⟩ := bindE H
              obtain ⟨v10, hv10, H⟩ := bindE H
              obtain ⟨v11, hv11, H⟩ := bindE H
              obtain ⟨v12, hv12, H⟩ := bindE H
              refine regd [⟨fV GRat.rep x1, [], [(3, none)], []⟩,
                  ⟨fV (Rep.slice GPoint.rep) x0, [], [(0, none)], []⟩,
                  ⟨fV r_i64 s6, [], [(9, none)], []⟩,
                  ⟨fV r_i64 (IntKind.i64.wrap (s6 - 1)), [], [(53, some 2)], []⟩,
                  ⟨fRef GPoint.rep v7, [], [(52, some 1), (54, some 3)], []⟩,
                  ⟨fRef r_i64 v7.X, [], [(55, some 4)], []⟩,
                  ⟨fV r_i64 v7.X, [], [(56, some 5)], []⟩,
                  ⟨fV GRat.rep v8, [], [(57, some 6)], []⟩,
                  ⟨fV r_i64 v9, [], [(51, some 0), (58, some 7)], []⟩,
                  ⟨fV Rep.bool (cmpI .geq v9 0), [], [(59, some 8)], []⟩,
                  ⟨fV Rep.bool (cmpI .geq v9 0), [], [(60, some 9)], []⟩,
                  ⟨Fact.when ((cmpI .geq v9 0) = true) (fV GRat.rep x1), [], [(61, some 10), (3, none)], []⟩,
                  ⟨Fact.when ((cmpI .geq v9 0) = true) (fV (Rep.slice GPoint.rep) x0), [], [(61, some 10), (0, none)], []⟩,
                  ⟨Fact.when ((cmpI .geq v9 0) = true) (fV r_i64 s6), [], [(61, some 10), (9, none)], []⟩,
                  ⟨Fact.when ((cmpI .geq v9 0) = true) (fRef GPoint.rep v10), [], [(61, some 10), (63, some 12), (64, some 13)], []⟩,
                  ⟨Fact.when ((cmpI .geq v9 0) = true) (fRef r_i64 v10.X), [], [(61, some 10), (65, some 14)], []⟩,
                  ⟨Fact.when ((cmpI .geq v9 0) = true) (fV r_i64 v10.X), [], [(61, some 10), (66, some 15)], []⟩,
                  ⟨Fact.when ((cmpI .geq v9 0) = true) (fV GRat.rep v11), [], [(61, some 10), (67, some 16)], []⟩,
                  ⟨Fact.when ((cmpI .geq v9 0) = true) (fV r_i64 v12), [], [(61, some 10), (62, some 11), (68, some 17)], []⟩,
                  ⟨Fact.when ((cmpI .geq v9 0) = true) (fV Rep.bool (cmpI .leq v12 0)), [], [(61, some 10), (69, some 18)], []⟩,
                  ⟨fV Rep.bool ((cmpI .geq v9 0) && (cmpI .leq v12 0)), [], [(61, some 10), (70, some 19)], []⟩] [0, 1, 2, 3, 4, 5, 6, 7, 8, 9, 10, 11, 12, 13, 14, 15, 16, 17, 18, 19, 20] [0, 1, 2, 3, 4, 5, 6, 7, 8, 9, 10, 11, 12, 13, 14, 15, 16, 17, 18, 19, 20] [0, 3, 9, 71] [5] hAt
                  ⟨ok_load ty49 rfl opd0,
                  ok_move rfl opd0,
                  ok_move rfl opd0,
                  ok_sub rfl opd0 opdI,
                  ok_index ty79 un73 hv7 rfl opd0 opd1,
                  ok_field GPoint.l0 fo79_0 rfl opd0,
                  ok_load ty3 rfl opd0,
                  ok_call (ok_f_base_W N v7.X _ hv8) Try.func37 (by kernel_rfl) (by kernel_rfl) rfl ⟨opd0, trivial⟩,
                  ok_call (ok_f_ref01_CmpRat N x1 v8 _ hv9) Try.func44 (by kernel_rfl) (by kernel_rfl) rfl ⟨opd0, ⟨opd1, trivial⟩⟩,
                  ok_cmp (op := .geq) (by simp) rfl rfl opd0 opdI,
                  ok_move rfl opd0,
                  obl_tt rfl rfl rfl rfl rfl rfl rfl (fun hg => ok_load ty49 rfl opd1),
                  obl_tt rfl rfl rfl rfl rfl rfl rfl (fun hg => ok_move rfl opd1),
                  obl_tt rfl rfl rfl rfl rfl rfl rfl (fun hg => ok_move rfl opd1),
                  obl_tt rfl rfl rfl rfl rfl rfl rfl (fun hg => ok_index ty79 un73 (iteT hg hv10) rfl (opd1.on hg) (opd2.on hg)),
                  obl_tt rfl rfl rfl rfl rfl rfl rfl (fun hg => ok_field GPoint.l0 fo79_0 rfl (opd1.on hg)),
                  obl_tt rfl rfl rfl rfl rfl rfl rfl (fun hg => ok_load ty3 rfl (opd1.on hg)),
                  obl_tt rfl rfl rfl rfl rfl rfl rfl (fun hg => ok_call (ok_f_base_W N v10.X _ (iteT hg hv11)) Try.func37 (by kernel_rfl) (by kernel_rfl) rfl ⟨(opd1.on hg), trivial⟩),
                  obl_tt rfl rfl rfl rfl rfl rfl rfl (fun hg => ok_call (ok_f_ref01_CmpRat N x1 v11 _ (iteT hg hv12)) Try.func44 (by kernel_rfl) (by kernel_rfl) rfl ⟨(opd1.on hg), ⟨(opd2.on hg), trivial⟩⟩),
                  obl_tt rfl rfl rfl rfl rfl rfl rfl (fun hg => ok_cmp (op := .leq) (by simp) rfl rfl (opd1.on hg) opdI),
                  ok_and rfl opd0 (fun e => (opd1.on e)), trivial⟩ (by kernel_rfl) ?_
              clear hAt
              intro a w hAt
              replace hAt : At B h0 (mkG [(0, fV (Rep.slice GPoint.rep) x0), (3, fRef GRat.rep x1), (9, fV r_i64 s6), (71, fV Rep.bool ((cmpI .geq v9 0) && (cmpI .leq v12 0)))]) (mkO [(5, boxE 49 GRat.rep v3.1)]) F 108 a w := hAt
              refine then_n ?_
              refine wp_if hAt (by rfl) ?_ ?_
              · intro hb21
                have H := iteT hb21 H
                refine wp_seq ?_
                obtain ⟨v13, hv13, H⟩ := bindE H
                obtain ⟨v14, hv14, H⟩ := bindE H
                obtain ⟨v15, hv15, H⟩ := bindE H
                obtain ⟨v16, hv16, H⟩ := bindE H
                obtain ⟨v17, hv17, H⟩ := bindE H
                obtain ⟨v18, hv18, H⟩ := bindE H
                refine regd (⟨fV (Rep.slice GPoint.rep) x0, [], [(0, none)], []⟩ ::
                    ⟨fV r_i64 s6, [], [(9, none)], []⟩ ::
                    ⟨fV r_i64 (IntKind.i64.wrap (s6 - 1)), [], [(73, some 1)], []⟩ ::
                    ⟨fRef GPoint.rep v13, [], [(72, some 0), (74, some 2)], []⟩ ::
                    ⟨fRef r_i64 v13.Y, [], [(75, some 3)], []⟩ ::
                    ⟨fV r_i64 v13.Y, [], [(76, some 4)], []⟩ ::
                    ⟨fV (Rep.slice GPoint.rep) x0, [], [(0, none)], []⟩ ::
                    ⟨fV r_i64 s6, [], [(9, none)], []⟩ ::
                    ⟨fRef GPoint.rep v14, [], [(78, some 6), (79, some 7)], []⟩ ::
                    ⟨fRef r_i64 v14.Y, [], [(80, some 8)], []⟩ ::
                    ⟨fV r_i64 v14.Y, [], [(81, some 9)], []⟩ ::
                    ⟨fV r_i64 (min v13.Y v14.Y), [], [(77, some 5), (82, some 10)], []⟩ ::
                    ⟨fV GRat.rep v15, [], [(83, some 11)], []⟩ ::
                    ⟨fV (Rep.slice GPoint.rep) x0, [], [(0, none)], []⟩ ::
                    ⟨fV r_i64 s6, [], [(9, none)], []⟩ ::
                    ⟨fV r_i64 (IntKind.i64.wrap (s6 - 1)), [], [(86, some 14)], []⟩ ::
                    ⟨fRef GPoint.rep v16, [], [(85, some 13), (87, some 15)], []⟩ ::
                    ⟨fRef r_i64 v16.Y, [], [(88, some 16)], []⟩ ::
                    ⟨fV r_i64 v16.Y, [], [(89, some 17)], []⟩ ::
                    ⟨fV (Rep.slice GPoint.rep) x0, [], [(0, none)], []⟩ ::
                    ⟨fV r_i64 s6, [], [(9, none)], []⟩ ::
                    ⟨fRef GPoint.rep v17, [], [(91, some 19), (92, some 20)], []⟩ ::
                    ⟨fRef r_i64 v17.Y, [], [(93, some 21)], []⟩ ::
                    ⟨fV r_i64 v17.Y, [], [(94, some 22)], []⟩ ::
                    ⟨fV r_i64 (max v16.Y v17.Y), [], [(90, some 18), (95, some 23)], []⟩ ::
                    ⟨fV GRat.rep v18, [], [(96, some 24)], []⟩ ::
                    ⟨Fact.triv, [(10, some (boxE 49 GRat.rep (⟨(⟨false, []⟩ : GInt), (⟨false, []⟩ : GInt)⟩ : GRat)))], [], []⟩ ::
                    ⟨Fact.triv, [(11, some (boxE 49 GRat.rep (⟨(⟨false, []⟩ : GInt), (⟨false, []⟩ : GInt)⟩ : GRat)))], [], []⟩ ::
                    ⟨Fact.triv, [(10, some (boxE 49 GRat.rep v15))], [(84, some 12)], [(10, some 26)]⟩ ::
                    ⟨Fact.triv, [(11, some (boxE 49 GRat.rep v18))], [(97, some 25)], [(11, some 27)]⟩ :: []) (0 :: 1 :: 2 :: 3 :: 4 :: 5 :: 6 :: 7 :: 8 :: 9 :: 10 :: 11 :: 12 :: 13 :: 14 :: 15 :: 16 :: 17 :: 18 :: 19 :: 20 :: 21 :: 22 :: 23 :: 24 :: 25 :: 26 :: 27 :: 28 :: 29 :: []) (0 :: 1 :: 2 :: 3 :: 4 :: 5 :: 6 :: 7 :: 8 :: 9 :: 10 :: 11 :: 12 :: 13 :: 14 :: 15 :: 16 :: 17 :: 18 :: 19 :: 20 :: 21 :: 22 :: 23 :: 24 :: 25 :: 26 :: 27 :: 28 :: 29 :: []) [] [5, 10, 11] hAt
                    ⟨ok_move rfl opd0,
                    ok_move rfl opd0,
                    ok_sub rfl opd0 opdI,
                    ok_index ty79 un73 hv13 rfl opd0 opd1,
                    ok_field GPoint.l1 fo79_1 rfl opd0,
                    ok_load ty3 rfl opd0,
                    ok_move rfl opd0,
                    ok_move rfl opd0,
                    ok_index ty79 un73 hv14 rfl opd0 opd1,
                    ok_field GPoint.l1 fo79_1 rfl opd0,
                    ok_load ty3 rfl opd0,
                    ok_min rfl opd0 opd1,
                    ok_call (ok_f_base_W N (min v13.Y v14.Y) _ hv15) Try.func37 (by kernel_rfl) (by kernel_rfl) rfl ⟨opd0, trivial⟩,
                    ok_move rfl opd0,
                    ok_move rfl opd0,
                    ok_sub rfl opd0 opdI,
                    ok_index ty79 un73 hv16 rfl opd0 opd1,
                    ok_field GPoint.l1 fo79_1 rfl opd0,
                    ok_load ty3 rfl opd0,
                    ok_move rfl opd0,
                    ok_move rfl opd0,
                    ok_index ty79 un73 hv17 rfl opd0 opd1,
                    ok_field GPoint.l1 fo79_1 rfl opd0,
                    ok_load ty3 rfl opd0,
                    ok_max rfl opd0 opd1,
                    ok_call (ok_f_base_W N (max v16.Y v17.Y) _ hv18) Try.func37 (by kernel_rfl) (by kernel_rfl) rfl ⟨opd0, trivial⟩,
                    ok_alloc ty49 rfl rfl,
                    ok_alloc ty49 rfl rfl,
                    ok_storeBox ty49 rfl rfl opd0,
                    ok_storeBox ty49 rfl rfl opd0, trivial⟩ (by kernel_rfl) ?_
                clear hAt
                intro a w hAt
                replace hAt : At B h0 (mkG []) (mkO [(5, boxE 49 GRat.rep v3.1), (10, boxE 49 GRat.rep v15), (11, boxE 49 GRat.rep v18)]) F 108 a w := hAt
                refine then_n ?_
                refine wp_seq ?_
                obtain ⟨v19, hv19, H⟩ := bindE H
                obtain ⟨v20, hv20, H⟩ := bindE H
                refine reg [⟨fV GRat.rep v3.1, [], [], [(5, none)]⟩,
                    ⟨fV GRat.rep v15, [], [], [(10, none)]⟩,
                    ⟨fV r_i64 v19, [], [(98, some 0), (99, some 1)], []⟩,
                    ⟨fV Rep.bool (cmpI .geq v19 0), [], [(100, some 2)], []⟩,
                    ⟨fV Rep.bool (cmpI .geq v19 0), [], [(101, some 3)], []⟩,
                    ⟨Fact.when ((cmpI .geq v19 0) = true) (fV GRat.rep v3.1), [], [(102, some 4)], [(5, none)]⟩,
                    ⟨Fact.when ((cmpI .geq v19 0) = true) (fV GRat.rep v18), [], [(102, some 4)], [(11, none)]⟩,
                    ⟨Fact.when ((cmpI .geq v19 0) = true) (fV r_i64 v20), [], [(102, some 4), (103, some 5), (104, some 6)], []⟩,
                    ⟨Fact.when ((cmpI .geq v19 0) = true) (fV Rep.bool (cmpI .leq v20 0)), [], [(102, some 4), (105, some 7)], []⟩,
                    ⟨fV Rep.bool ((cmpI .geq v19 0) && (cmpI .leq v20 0)), [], [(102, some 4), (106, some 8)], []⟩,
                    ⟨fV Rep.bool ((cmpI .geq v19 0) && (cmpI .leq v20 0)), [], [(107, some 9)], []⟩] [4] [] hAt
                    ⟨ok_loadBox ty49 rfl,
                    ok_loadBox ty49 rfl,
                    ok_call (ok_f_ref01_CmpRat N v3.1 v15 _ hv19) Try.func44 (by kernel_rfl) (by kernel_rfl) rfl ⟨opd0, ⟨opd1, trivial⟩⟩,
                    ok_cmp (op := .geq) (by simp) rfl rfl opd0 opdI,
                    ok_move rfl opd0,
                    obl_tt rfl rfl rfl rfl rfl rfl rfl (fun hg => ok_loadBox ty49 rfl),
                    obl_tt rfl rfl rfl rfl rfl rfl rfl (fun hg => ok_loadBox ty49 rfl),
                    obl_tt rfl rfl rfl rfl rfl rfl rfl (fun hg => ok_call (ok_f_ref01_CmpRat N v3.1 v18 _ (iteT hg hv20)) Try.func44 (by kernel_rfl) (by kernel_rfl) rfl ⟨(opd1.on hg), ⟨(opd2.on hg), trivial⟩⟩),
                    obl_tt rfl rfl rfl rfl rfl rfl rfl (fun hg => ok_cmp (op := .leq) (by simp) rfl rfl (opd1.on hg) opdI),
                    ok_and rfl opd0 (fun e => (opd1.on e)),
                    ok_assign rfl opd0, trivial⟩ (by kernel_rfl) ?_
                clear hAt
                intro a w hAt
                replace hAt : At B h0 (mkG [(4, fV Rep.bool ((cmpI .geq v19 0) && (cmpI .leq v20 0)))]) (mkO []) F 108 a w := hAt
                refine then_n ?_
                refine wp_ret ?_
                refine blk_r ?_
                refine then_r ?_
                cases H
                exact ⟨ret_ne, rfl, hAt.pick [4] []⟩
              · intro hb21
                have H := iteF hb21 H
                refine wp_skip ?_
                refine blk_n ?_
                refine then_n ?_
                refine reg [⟨fV r_i64 s6, [], [(9, none)], []⟩,
                    ⟨fV r_i64 (IntKind.i64.wrap (s6 + 1)), [], [(49, some 0)], []⟩,
                    ⟨fV r_i64 (IntKind.i64.wrap (s6 + 1)), [], [(50, some 1)], []⟩] [0, 3, 9] [5] hAt
                    ⟨ok_move rfl opd0,
                    ok_add rfl opd0 opdI,
                    ok_assign rfl opd0, trivial⟩ (by kernel_rfl) ?_
                clear hAt
                intro a w hAt
                replace hAt : At B h0 (mkG [(0, fV (Rep.slice GPoint.rep) x0), (3, fRef GRat.rep x1), (9, fV r_i64 (IntKind.i64.wrap (s6 + 1)))]) (mkO [(5, boxE 49 GRat.rep v3.1)]) F 108 a w := hAt
                cases H
                exact ⟨rfl, hAt.pick [0, 3, 9] [5]⟩
            · intro hb22
              have H := iteF hb22 H
              refine wp_exit ?_
              refine then_x ?_
              cases H
              exact ⟨ex_ne, rfl, hAt.pick [] []⟩
          · exact hAt.pick [0, 3, 9] [5]
          · clear hAt
            intro e a w hp
            cases o23 with
            | inl l25 =>
              rw [Sum.elim_inl] at H
              obtain ⟨rfl, hAt⟩ := hp
              refine blk_eq ?_
              refine then_n ?_
              refine wp_seq ?_
              refine reg [⟨fV Rep.bool false, [], [], []⟩] [4] [] hAt
                  ⟨ok_assign rfl opdB, trivial⟩ (by kernel_rfl) ?_
              clear hAt
              intro a w hAt
              replace hAt : At B h0 (mkG [(4, fV Rep.bool false)]) (mkO []) F 108 a w := hAt
              refine then_n ?_
              refine wp_ret ?_
              cases H
              exact ret1 rfl (rv_tmp rfl rfl) hAt
            | inr r26 =>
              rw [Sum.elim_inr] at H
              replace hp := hp
              obtain ⟨rfl, hAt⟩ := hp
              refine blk_r ?_
              refine then_r ?_
              cases H
              exact ret1 rfl (rv_tmp rfl rfl) hAt
end Go.KB
