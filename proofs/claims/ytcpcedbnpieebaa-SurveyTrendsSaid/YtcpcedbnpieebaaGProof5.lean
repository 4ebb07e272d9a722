/- The Go functions compute what the plain functions compute. Printed by a program. No condition. -/
import Derived.Test.YtcpcedbnpieebaaGProof4
namespace Go.KB
open Go.Proofs
set_option maxRecDepth 100000
set_option linter.unusedVariables false
theorem ok_f_survey_Trend (N : Nat) (x0 : (List GReading)) (r : GRat × Int) (H : f_survey_Trend N x0 = some r) : FnOk Try.prog 34 [fV (Rep.slice GReading.rep) x0] (fT2 (fV GRat.rep (r.1)) (fV r_i64 (r.2))) := by
  unfold f_survey_Trend at H
  refine fn_enter Try.func34 rfl rfl (by kernel_rfl) ?_
  intro κ B h0 F a w hAt
  refine wp_seq ?_
  refine reg [⟨Fact.triv, [(2, some (boxE 49 GRat.rep (⟨(⟨false, []⟩ : GInt), (⟨false, []⟩ : GInt)⟩ : GRat)))], [], []⟩,
      ⟨fV r_i64 0, [], [], []⟩] [0] [2] hAt
      ⟨ok_alloc ty49 rfl rfl,
      ok_assign rfl opdI, trivial⟩ (by kernel_rfl) ?_
  clear hAt
  intro a w hAt
  replace hAt : At B h0 (mkG [(0, fV (Rep.slice GReading.rep) x0)]) (mkO [(2, boxE 49 GRat.rep (⟨(⟨false, []⟩ : GInt), (⟨false, []⟩ : GInt)⟩ : GRat))]) F 97 a w := hAt
  refine then_n ?_
  refine wp_seq ?_
  refine wp_block ?_
  refine wp_seq ?_
  refine reg [⟨fV (Rep.slice GReading.rep) x0, [], [(0, none)], []⟩,
      ⟨fV r_i64 (List.length x0 : Int), [], [(12, some 0)], []⟩,
      ⟨fV Rep.bool (cmpI .lss (List.length x0 : Int) 2), [], [(13, some 1)], []⟩,
      ⟨fV Rep.bool (cmpI .lss (List.length x0 : Int) 2), [], [(14, some 2)], []⟩] [0, 11] [2] hAt
      ⟨ok_move rfl opd0,
      ok_len un58 rfl opd0,
      ok_cmp (op := .lss) (by simp) rfl rfl opd0 opdI,
      ok_assign rfl opd0, trivial⟩ (by kernel_rfl) ?_
  clear hAt
  intro a w hAt
  replace hAt : At B h0 (mkG [(0, fV (Rep.slice GReading.rep) x0), (11, fV Rep.bool (cmpI .lss (List.length x0 : Int) 2))]) (mkO [(2, boxE 49 GRat.rep (⟨(⟨false, []⟩ : GInt), (⟨false, []⟩ : GInt)⟩ : GRat))]) F 97 a w := hAt
  refine then_n ?_
  refine wp_if hAt (by rfl) ?_ ?_
  · intro hb16
    have H := iteT hb16 H
    refine wp_seq ?_
    refine reg [⟨fV GRat.rep (⟨(⟨false, []⟩ : GInt), (⟨false, []⟩ : GInt)⟩ : GRat), [], [], []⟩,
        ⟨Fact.triv, [(2, some (boxE 49 GRat.rep (⟨(⟨false, []⟩ : GInt), (⟨false, []⟩ : GInt)⟩ : GRat)))], [(15, some 0)], [(2, none)]⟩,
        ⟨fV r_i64 11, [], [], []⟩] [3] [2] hAt
        ⟨ok_build ty49 rfl pl49 rfl fillN,
        ok_storeBox ty49 rfl rfl opd0,
        ok_assign rfl opdI, trivial⟩ (by kernel_rfl) ?_
    clear hAt
    intro a w hAt
    replace hAt : At B h0 (mkG [(3, fV r_i64 11)]) (mkO [(2, boxE 49 GRat.rep (⟨(⟨false, []⟩ : GInt), (⟨false, []⟩ : GInt)⟩ : GRat))]) F 97 a w := hAt
    refine then_n ?_
    refine wp_ret ?_
    refine blk_r ?_
    refine then_r ?_
    cases H
    exact ret2 rfl (rv_cell ty49 rfl) (rv_tmp rfl rfl) hAt
  · intro hb16
    have H := iteF hb16 H
    refine wp_seq ?_
    refine reg [⟨fV (Rep.slice GReading.rep) x0, [], [(0, none)], []⟩,
        ⟨fV r_i64 (List.length x0 : Int), [], [(17, some 0)], []⟩,
        ⟨fV Rep.bool (cmpI .gtr (List.length x0 : Int) 40), [], [(18, some 1)], []⟩,
        ⟨fV Rep.bool (cmpI .gtr (List.length x0 : Int) 40), [], [(19, some 2)], []⟩] [0, 16] [2] hAt
        ⟨ok_move rfl opd0,
        ok_len un58 rfl opd0,
        ok_cmp (op := .gtr) (by simp) rfl rfl opd0 opdI,
        ok_assign rfl opd0, trivial⟩ (by kernel_rfl) ?_
    clear hAt
    intro a w hAt
    replace hAt : At B h0 (mkG [(0, fV (Rep.slice GReading.rep) x0), (16, fV Rep.bool (cmpI .gtr (List.length x0 : Int) 40))]) (mkO [(2, boxE 49 GRat.rep (⟨(⟨false, []⟩ : GInt), (⟨false, []⟩ : GInt)⟩ : GRat))]) F 97 a w := hAt
    refine then_n ?_
    refine wp_if hAt (by rfl) ?_ ?_
    · intro hb15
      have H := iteT hb15 H
      refine wp_seq ?_
      refine reg [⟨fV GRat.rep (⟨(⟨false, []⟩ : GInt), (⟨false, []⟩ : GInt)⟩ : GRat), [], [], []⟩,
          ⟨Fact.triv, [(2, some (boxE 49 GRat.rep (⟨(⟨false, []⟩ : GInt), (⟨false, []⟩ : GInt)⟩ : GRat)))], [(20, some 0)], [(2, none)]⟩,
          ⟨fV r_i64 8, [], [], []⟩] [3] [2] hAt
          ⟨ok_build ty49 rfl pl49 rfl fillN,
          ok_storeBox ty49 rfl rfl opd0,
          ok_assign rfl opdI, trivial⟩ (by kernel_rfl) ?_
      clear hAt
      intro a w hAt
      replace hAt : At B h0 (mkG [(3, fV r_i64 8)]) (mkO [(2, boxE 49 GRat.rep (⟨(⟨false, []⟩ : GInt), (⟨false, []⟩ : GInt)⟩ : GRat))]) F 97 a w := hAt
      refine then_n ?_
      refine wp_ret ?_
      refine blk_r ?_
      refine then_r ?_
      cases H
      exact ret2 rfl (rv_cell ty49 rfl) (rv_tmp rfl rfl) hAt
    · intro hb15
      have H := iteF hb15 H
      refine wp_skip ?_
      refine blk_n ?_
      refine then_n ?_
      refine wp_seq ?_
      refine reg [⟨fV (Rep.slice GReading.rep) x0, [], [(0, none)], []⟩,
          ⟨fV r_i64 (List.length x0 : Int), [], [(21, some 0)], []⟩,
          ⟨fV r_i64 (List.length x0 : Int), [], [(22, some 1)], []⟩,
          ⟨fV r_i64 0, [], [], []⟩,
          ⟨fV r_i64 0, [], [], []⟩,
          ⟨fV r_i64 0, [], [], []⟩,
          ⟨fV r_i64 0, [], [], []⟩] [0, 4, 5, 6, 7, 8] [2] hAt
          ⟨ok_move rfl opd0,
          ok_len un58 rfl opd0,
          ok_assign rfl opd0,
          ok_assign rfl opdI,
          ok_assign rfl opdI,
          ok_assign rfl opdI,
          ok_assign rfl opdI, trivial⟩ (by kernel_rfl) ?_
      clear hAt
      intro a w hAt
      replace hAt : At B h0 (mkG [(0, fV (Rep.slice GReading.rep) x0), (4, fV r_i64 (List.length x0 : Int)), (5, fV r_i64 0), (6, fV r_i64 0), (7, fV r_i64 0), (8, fV r_i64 0)]) (mkO [(2, boxE 49 GRat.rep (⟨(⟨false, []⟩ : GInt), (⟨false, []⟩ : GInt)⟩ : GRat))]) F 97 a w := hAt
      refine then_n ?_
      refine wp_seq ?_
      refine wp_seq ?_
      refine reg [⟨fV (Rep.slice GReading.rep) x0, [], [(0, none)], []⟩,
          ⟨fV r_i64 (List.length x0 : Int), [], [(23, some 0)], []⟩,
          ⟨fV r_i64 0, [], [], []⟩] [0, 4, 5, 6, 7, 8, 23, 24, 25] [2] hAt
          ⟨ok_move rfl opd0,
          ok_len un58 rfl opd0,
          ok_move rfl opdI, trivial⟩ (by kernel_rfl) ?_
      clear hAt
      intro a w hAt
      replace hAt : At B h0 (mkG [(0, fV (Rep.slice GReading.rep) x0), (4, fV r_i64 (List.length x0 : Int)), (5, fV r_i64 0), (6, fV r_i64 0), (7, fV r_i64 0), (8, fV r_i64 0), (23, fV (Rep.slice GReading.rep) x0), (24, fV r_i64 (List.length x0 : Int)), (25, fV r_i64 0)]) (mkO [(2, boxE 49 GRat.rep (⟨(⟨false, []⟩ : GInt), (⟨false, []⟩ : GInt)⟩ : GRat))]) F 97 a w := hAt
      refine then_n ?_
      refine wp_block ?_
      obtain ⟨o9, hl10, H⟩ := bindE H
      refine wp_mono (wp_loopN (f := f_survey_Trend_L1 N x0) (fun (s1 : (GRat × Int × Int × Int × Int × Int)) a w => At B h0 (mkG [(0, fV (Rep.slice GReading.rep) x0), (4, fV r_i64 (List.length x0 : Int)), (5, fV r_i64 s1.2.1), (6, fV r_i64 s1.2.2.1), (7, fV r_i64 s1.2.2.2.1), (8, fV r_i64 s1.2.2.2.2.1), (23, fV (Rep.slice GReading.rep) x0), (24, fV r_i64 (List.length x0 : Int)), (25, fV r_i64 s1.2.2.2.2.2)]) (mkO [(2, boxE 49 GRat.rep s1.1)]) F 97 a w) (fun o e a w => (Sum.elim (fun v => e = .exit 1 ∧ At B h0 (mkG [(4, fV r_i64 (List.length x0 : Int)), (5, fV r_i64 v.2.1), (6, fV r_i64 v.2.2.1), (7, fV r_i64 v.2.2.2.1), (8, fV r_i64 v.2.2.2.2)]) (mkO [(2, boxE 49 GRat.rep v.1)]) F 97 a w) (fun v => e = .ret ∧ At B h0 (mkG [(3, fV r_i64 v.2)]) (mkO [(2, boxE 49 GRat.rep v.1)]) F 97 a w)) o) ?_ N ((⟨(⟨false, []⟩ : GInt), (⟨false, []⟩ : GInt)⟩ : GRat), 0, 0, 0, 0, 0) o9 _ _ hl10 ?_) ?_
      · clear H hAt hl10
        intro s1 r14 a w H hAt
        unfold f_survey_Trend_L1 at H
        refine wp_seq ?_
        refine reg [⟨fV Rep.bool (cmpI .lss s1.2.2.2.2.2 (List.length x0 : Int)), [], [(25, none), (24, none)], []⟩] [0, 4, 5, 6, 7, 8, 23, 24, 25, 26] [2] hAt
            ⟨ok_cmp (op := .lss) (by simp) rfl rfl opd0 opd1, trivial⟩ (by kernel_rfl) ?_
        clear hAt
        intro a w hAt
        replace hAt : At B h0 (mkG [(0, fV (Rep.slice GReading.rep) x0), (4, fV r_i64 (List.length x0 : Int)), (5, fV r_i64 s1.2.1), (6, fV r_i64 s1.2.2.1), (7, fV r_i64 s1.2.2.2.1), (8, fV r_i64 s1.2.2.2.2.1), (23, fV (Rep.slice GReading.rep) x0), (24, fV r_i64 (List.length x0 : Int)), (25, fV r_i64 s1.2.2.2.2.2), (26, fV Rep.bool (cmpI .lss s1.2.2.2.2.2 (List.length x0 : Int)))]) (mkO [(2, boxE 49 GRat.rep s1.1)]) F 97 a w := hAt
        refine then_n ?_
        refine wp_seq ?_
        refine wp_if hAt (by rfl) ?_ ?_
        · intro hb8
          have H := iteT hb8 H
          refine wp_skip ?_
          refine then_n ?_
          refine wp_seq ?_
          refine wp_block ?_
          refine wp_seq ?_
          obtain ⟨v2, hv2, H⟩ := bindE H
          refine reg [⟨fV r_i64 s1.2.2.2.2.2, [], [(25, none)], []⟩,
              ⟨fRef GReading.rep v2, [], [(23, none), (25, none)], []⟩,
              ⟨fV GReading.rep v2, [], [(28, some 1)], []⟩,
              ⟨Fact.triv, [(10, some (boxE 64 GReading.rep (⟨0, 0⟩ : GReading)))], [], []⟩,
              ⟨fV r_i64 s1.2.2.2.2.2, [], [(27, some 0)], []⟩,
              ⟨Fact.triv, [(10, some (boxE 64 GReading.rep v2))], [(29, some 2)], [(10, some 3)]⟩] [0, 4, 5, 6, 7, 8, 9, 23, 24, 25] [2, 10] hAt
              ⟨ok_move rfl opd0,
              ok_index ty64 un58 hv2 rfl opd0 opd1,
              ok_load ty64 rfl opd0,
              ok_alloc ty64 rfl rfl,
              ok_assign rfl opd0,
              ok_storeBox ty64 rfl rfl opd0, trivial⟩ (by kernel_rfl) ?_
          clear hAt
          intro a w hAt
          replace hAt : At B h0 (mkG [(0, fV (Rep.slice GReading.rep) x0), (4, fV r_i64 (List.length x0 : Int)), (5, fV r_i64 s1.2.1), (6, fV r_i64 s1.2.2.1), (7, fV r_i64 s1.2.2.2.1), (8, fV r_i64 s1.2.2.2.2.1), (9, fV r_i64 s1.2.2.2.2.2), (23, fV (Rep.slice GReading.rep) x0), (24, fV r_i64 (List.length x0 : Int)), (25, fV r_i64 s1.2.2.2.2.2)]) (mkO [(2, boxE 49 GRat.rep s1.1), (10, boxE 64 GReading.rep v2)]) F 97 a w := hAt
          refine then_n ?_
          refine wp_seq ?_
          refine wp_block ?_
          refine wp_seq ?_
          obtain ⟨v3, hv3, H⟩ := bindE H
          obtain ⟨v4, hv4, H⟩ := bindE H
          refine reg [⟨fOff 10 0, [], [], [(10, none)]⟩,
              ⟨fV r_i64 v2.Day, [], [(31, some 0)], [(10, none)]⟩,
              ⟨fV (Rep.slice r_i64) [v2.Day], [], [(32, some 1)], []⟩,
              ⟨fV Rep.bool v3, [], [(33, some 2)], []⟩,
              ⟨fV Rep.bool (!v3), [], [(34, some 3)], []⟩,
              ⟨fV Rep.bool (!v3), [], [(35, some 4)], []⟩,
              ⟨Fact.when ((!(!v3)) = true) (fOff 10 1), [], [(36, some 5)], [(10, none)]⟩,
              ⟨Fact.when ((!(!v3)) = true) (fV r_i64 v2.Value), [], [(36, some 5), (37, some 6)], [(10, none)]⟩,
              ⟨Fact.when ((!(!v3)) = true) (fV (Rep.slice r_i64) [v2.Value]), [], [(36, some 5), (38, some 7)], []⟩,
              ⟨Fact.when ((!(!v3)) = true) (fV Rep.bool v4), [], [(36, some 5), (39, some 8)], []⟩,
              ⟨Fact.when ((!(!v3)) = true) (fV Rep.bool (!v4)), [], [(36, some 5), (40, some 9)], []⟩,
              ⟨fV Rep.bool ((!v3) || (!v4)), [], [(36, some 5), (41, some 10)], []⟩,
              ⟨fV Rep.bool ((!v3) || (!v4)), [], [(42, some 11)], []⟩] [0, 4, 5, 6, 7, 8, 9, 23, 24, 25, 30] [2, 10] hAt
              ⟨ok_fieldOwn fo64_0 rfl,
              ok_loadOwn GReading.l0 ty3 rfl opd0,
              ok_buildSlice ty3 un22 rfl rfl (fillC (Lens.arr _ _ 0 (by decide)) rfl opd0 fillN),
              ok_call (ok_f_survey_inside N 0 100000 [v2.Day] _ hv3) Try.func71 (by kernel_rfl) (by kernel_rfl) rfl ⟨opdI, ⟨opdI, ⟨opd0, trivial⟩⟩⟩,
              ok_not rfl opd0,
              ok_move rfl opd0,
              obl_tf rfl rfl rfl rfl rfl rfl rfl (fun hg => ok_fieldOwn fo64_1 rfl),
              obl_tf rfl rfl rfl rfl rfl rfl rfl (fun hg => ok_loadOwn GReading.l1 ty3 rfl (opd1.on hg)),
              obl_tf rfl rfl rfl rfl rfl rfl rfl (fun hg => ok_buildSlice ty3 un22 rfl rfl (fillC (Lens.arr _ _ 0 (by decide)) rfl (opd1.on hg) fillN)),
              obl_tf rfl rfl rfl rfl rfl rfl rfl (fun hg => ok_call (ok_f_survey_inside N (-1000000) 1000000 [v2.Value] _ (iteT hg hv4)) Try.func71 (by kernel_rfl) (by kernel_rfl) rfl ⟨opdI, ⟨opdI, ⟨(opd1.on hg), trivial⟩⟩⟩),
              obl_tf rfl rfl rfl rfl rfl rfl rfl (fun hg => ok_not rfl (opd1.on hg)),
              ok_or rfl opd0 (fun e => (opd1.on (notT e))),
              ok_assign rfl opd0, trivial⟩ (by kernel_rfl) ?_
          clear hAt
          intro a w hAt
          replace hAt : At B h0 (mkG [(0, fV (Rep.slice GReading.rep) x0), (4, fV r_i64 (List.length x0 : Int)), (5, fV r_i64 s1.2.1), (6, fV r_i64 s1.2.2.1), (7, fV r_i64 s1.2.2.2.1), (8, fV r_i64 s1.2.2.2.2.1), (9, fV r_i64 s1.2.2.2.2.2), (23, fV (Rep.slice GReading.rep) x0), (24, fV r_i64 (List.length x0 : Int)), (25, fV r_i64 s1.2.2.2.2.2), (30, fV Rep.bool ((!v3) || (!v4)))]) (mkO [(2, boxE 49 GRat.rep s1.1), (10, boxE 64 GReading.rep v2)]) F 97 a w := hAt
          refine then_n ?_
          refine wp_if hAt (by rfl) ?_ ?_
          · intro hb7
            have H := iteT hb7 H
            refine wp_seq ?_
            refine reg [⟨fV GRat.rep (⟨(⟨false, []⟩ : GInt), (⟨false, []⟩ : GInt)⟩ : GRat), [], [], []⟩,
                ⟨Fact.triv, [(2, some (boxE 49 GRat.rep (⟨(⟨false, []⟩ : GInt), (⟨false, []⟩ : GInt)⟩ : GRat)))], [(43, some 0)], [(2, none)]⟩,
                ⟨fV r_i64 2, [], [], []⟩] [3] [2] hAt
                ⟨ok_build ty49 rfl pl49 rfl fillN,
                ok_storeBox ty49 rfl rfl opd0,
                ok_assign rfl opdI, trivial⟩ (by kernel_rfl) ?_
            clear hAt
            intro a w hAt
            replace hAt : At B h0 (mkG [(3, fV r_i64 2)]) (mkO [(2, boxE 49 GRat.rep (⟨(⟨false, []⟩ : GInt), (⟨false, []⟩ : GInt)⟩ : GRat))]) F 97 a w := hAt
            refine then_n ?_
            refine wp_ret ?_
            refine blk_r ?_
            refine then_r ?_
            refine blk_r ?_
            refine then_r ?_
            cases H
            exact ⟨ret_ne, rfl, hAt.pick [3] [2]⟩
          · intro hb7
            have H := iteF hb7 H
            refine wp_seq ?_
            obtain ⟨v5, hv5, H⟩ := bindE H
            refine regd [⟨fV r_i64 s1.2.2.2.2.2, [], [(9, none)], []⟩,
                ⟨fV Rep.bool (cmpI .gtr s1.2.2.2.2.2 0), [], [(45, some 0)], []⟩,
                ⟨fV Rep.bool (cmpI .gtr s1.2.2.2.2.2 0), [], [(46, some 1)], []⟩,
                ⟨Fact.when ((cmpI .gtr s1.2.2.2.2.2 0) = true) (fOff 10 0), [], [(47, some 2)], [(10, none)]⟩,
                ⟨Fact.when ((cmpI .gtr s1.2.2.2.2.2 0) = true) (fV r_i64 v2.Day), [], [(47, some 2), (48, some 3)], [(10, none)]⟩,
                ⟨Fact.when ((cmpI .gtr s1.2.2.2.2.2 0) = true) (fV (Rep.slice GReading.rep) x0), [], [(47, some 2), (0, none)], []⟩,
                ⟨Fact.when ((cmpI .gtr s1.2.2.2.2.2 0) = true) (fV r_i64 s1.2.2.2.2.2), [], [(47, some 2), (9, none)], []⟩,
                ⟨Fact.when ((cmpI .gtr s1.2.2.2.2.2 0) = true) (fV r_i64 (IntKind.i64.wrap (s1.2.2.2.2.2 - 1))), [], [(47, some 2), (51, some 6)], []⟩,
                ⟨Fact.when ((cmpI .gtr s1.2.2.2.2.2 0) = true) (fRef GReading.rep v5), [], [(47, some 2), (50, some 5), (52, some 7)], []⟩,
                ⟨Fact.when ((cmpI .gtr s1.2.2.2.2.2 0) = true) (fRef r_i64 v5.Day), [], [(47, some 2), (53, some 8)], []⟩,
                ⟨Fact.when ((cmpI .gtr s1.2.2.2.2.2 0) = true) (fV r_i64 v5.Day), [], [(47, some 2), (54, some 9)], []⟩,
                ⟨Fact.when ((cmpI .gtr s1.2.2.2.2.2 0) = true) (fV Rep.bool (cmpI .leq v2.Day v5.Day)), [], [(47, some 2), (49, some 4), (55, some 10)], []⟩,
                ⟨fV Rep.bool ((cmpI .gtr s1.2.2.2.2.2 0) && (cmpI .leq v2.Day v5.Day)), [], [(47, some 2), (56, some 11)], []⟩,
                ⟨fV Rep.bool ((cmpI .gtr s1.2.2.2.2.2 0) && (cmpI .leq v2.Day v5.Day)), [], [(57, some 12)], []⟩] [0, 1, 2, 3, 4, 5, 6, 7, 8, 9, 10, 11, 12, 13] [0, 1, 2, 3, 4, 5, 6, 7, 8, 9, 10, 11, 12, 13] [0, 4, 5, 6, 7, 8, 23, 24, 25, 44] [2, 10] hAt
                ⟨ok_move rfl opd0,
                ok_cmp (op := .gtr) (by simp) rfl rfl opd0 opdI,
                ok_move rfl opd0,
                obl_tt rfl rfl rfl rfl rfl rfl rfl (fun hg => ok_fieldOwn fo64_0 rfl),
                obl_tt rfl rfl rfl rfl rfl rfl rfl (fun hg => ok_loadOwn GReading.l0 ty3 rfl (opd1.on hg)),
                obl_tt rfl rfl rfl rfl rfl rfl rfl (fun hg => ok_move rfl opd1),
                obl_tt rfl rfl rfl rfl rfl rfl rfl (fun hg => ok_move rfl opd1),
                obl_tt rfl rfl rfl rfl rfl rfl rfl (fun hg => ok_sub rfl (opd1.on hg) opdI),
                obl_tt rfl rfl rfl rfl rfl rfl rfl (fun hg => ok_index ty64 un58 (iteT hg hv5) rfl (opd1.on hg) (opd2.on hg)),
                obl_tt rfl rfl rfl rfl rfl rfl rfl (fun hg => ok_field GReading.l0 fo64_0 rfl (opd1.on hg)),
                obl_tt rfl rfl rfl rfl rfl rfl rfl (fun hg => ok_load ty3 rfl (opd1.on hg)),
                obl_tt rfl rfl rfl rfl rfl rfl rfl (fun hg => ok_cmp (op := .leq) (by simp) rfl rfl (opd1.on hg) (opd2.on hg)),
                ok_and rfl opd0 (fun e => (opd1.on e)),
                ok_assign rfl opd0, trivial⟩ (by kernel_rfl) ?_
            clear hAt
            intro a w hAt
            replace hAt : At B h0 (mkG [(0, fV (Rep.slice GReading.rep) x0), (4, fV r_i64 (List.length x0 : Int)), (5, fV r_i64 s1.2.1), (6, fV r_i64 s1.2.2.1), (7, fV r_i64 s1.2.2.2.1), (8, fV r_i64 s1.2.2.2.2.1), (23, fV (Rep.slice GReading.rep) x0), (24, fV r_i64 (List.length x0 : Int)), (25, fV r_i64 s1.2.2.2.2.2), (44, fV Rep.bool ((cmpI .gtr s1.2.2.2.2.2 0) && (cmpI .leq v2.Day v5.Day)))]) (mkO [(2, boxE 49 GRat.rep s1.1), (10, boxE 64 GReading.rep v2)]) F 97 a w := hAt
            refine then_n ?_
            refine wp_if hAt (by rfl) ?_ ?_
            · intro hb6
              have H := iteT hb6 H
              refine wp_seq ?_
              refine reg [⟨fV GRat.rep (⟨(⟨false, []⟩ : GInt), (⟨false, []⟩ : GInt)⟩ : GRat), [], [], []⟩,
                  ⟨Fact.triv, [(2, some (boxE 49 GRat.rep (⟨(⟨false, []⟩ : GInt), (⟨false, []⟩ : GInt)⟩ : GRat)))], [(58, some 0)], [(2, none)]⟩,
                  ⟨fV r_i64 10, [], [], []⟩] [3] [2] hAt
                  ⟨ok_build ty49 rfl pl49 rfl fillN,
                  ok_storeBox ty49 rfl rfl opd0,
                  ok_assign rfl opdI, trivial⟩ (by kernel_rfl) ?_
              clear hAt
              intro a w hAt
              replace hAt : At B h0 (mkG [(3, fV r_i64 10)]) (mkO [(2, boxE 49 GRat.rep (⟨(⟨false, []⟩ : GInt), (⟨false, []⟩ : GInt)⟩ : GRat))]) F 97 a w := hAt
              refine then_n ?_
              refine wp_ret ?_
              refine blk_r ?_
              refine then_r ?_
              refine blk_r ?_
              refine then_r ?_
              cases H
              exact ⟨ret_ne, rfl, hAt.pick [3] [2]⟩
            · intro hb6
              have H := iteF hb6 H
              refine wp_skip ?_
              refine blk_n ?_
              refine then_n ?_
              refine regd [⟨fV r_i64 s1.2.1, [], [(5, none)], []⟩,
                  ⟨fOff 10 0, [], [], [(10, none)]⟩,
                  ⟨fV r_i64 v2.Day, [], [(60, some 1)], [(10, none)]⟩,
                  ⟨fV r_i64 (IntKind.i64.wrap (s1.2.1 + v2.Day)), [], [(59, some 0), (61, some 2)], []⟩,
                  ⟨fV r_i64 s1.2.2.1, [], [(6, none)], []⟩,
                  ⟨fOff 10 1, [], [], [(10, none)]⟩,
                  ⟨fV r_i64 v2.Value, [], [(64, some 5)], [(10, none)]⟩,
                  ⟨fV r_i64 (IntKind.i64.wrap (s1.2.2.1 + v2.Value)), [], [(63, some 4), (65, some 6)], []⟩,
                  ⟨fV r_i64 s1.2.2.2.1, [], [(7, none)], []⟩,
                  ⟨fOff 10 0, [], [], [(10, none)]⟩,
                  ⟨fV r_i64 v2.Day, [], [(68, some 9)], [(10, none)]⟩,
                  ⟨fOff 10 0, [], [], [(10, none)]⟩,
                  ⟨fV r_i64 v2.Day, [], [(70, some 11)], [(10, none)]⟩,
                  ⟨fV r_i64 (IntKind.i64.wrap (v2.Day * v2.Day)), [], [(69, some 10), (71, some 12)], []⟩,
                  ⟨fV r_i64 (IntKind.i64.wrap (s1.2.2.2.1 + (IntKind.i64.wrap (v2.Day * v2.Day)))), [], [(67, some 8), (72, some 13)], []⟩,
                  ⟨fV r_i64 s1.2.2.2.2.1, [], [(8, none)], []⟩,
                  ⟨fOff 10 0, [], [], [(10, none)]⟩,
                  ⟨fV r_i64 v2.Day, [], [(75, some 16)], [(10, none)]⟩,
                  ⟨fOff 10 1, [], [], [(10, none)]⟩,
                  ⟨fV r_i64 v2.Value, [], [(77, some 18)], [(10, none)]⟩,
                  ⟨fV r_i64 (IntKind.i64.wrap (v2.Day * v2.Value)), [], [(76, some 17), (78, some 19)], []⟩,
                  ⟨fV r_i64 (IntKind.i64.wrap (s1.2.2.2.2.1 + (IntKind.i64.wrap (v2.Day * v2.Value)))), [], [(74, some 15), (79, some 20)], []⟩,
                  ⟨fV r_i64 (IntKind.i64.wrap (s1.2.1 + v2.Day)), [], [(62, some 3)], []⟩,
                  ⟨fV r_i64 (IntKind.i64.wrap (s1.2.2.1 + v2.Value)), [], [(66, some 7)], []⟩,
                  ⟨fV r_i64 (IntKind.i64.wrap (s1.2.2.2.1 + (IntKind.i64.wrap (v2.Day * v2.Day)))), [], [(73, some 14)], []⟩,
                  ⟨fV r_i64 (IntKind.i64.wrap (s1.2.2.2.2.1 + (IntKind.i64.wrap (v2.Day * v2.Value)))), [], [(80, some 21)], []⟩] [0, 1, 2, 3, 4, 5, 6, 7, 8, 9, 10, 11, 12, 13, 14, 15, 16, 17, 18, 19, 20, 21, 22, 23, 24, 25] [0, 1, 2, 3, 22, 4, 5, 6, 7, 23, 8, 9, 10, 11, 12, 13, 14, 24, 15, 16, 17, 18, 19, 20, 21, 25] [0, 4, 5, 6, 7, 8, 23, 24, 25] [2] hAt
                  ⟨ok_move rfl opd0,
                  ok_fieldOwn fo64_0 rfl,
                  ok_loadOwn GReading.l0 ty3 rfl opd0,
                  ok_add rfl opd0 opd1,
                  ok_move rfl opd0,
                  ok_fieldOwn fo64_1 rfl,
                  ok_loadOwn GReading.l1 ty3 rfl opd0,
                  ok_add rfl opd0 opd1,
                  ok_move rfl opd0,
                  ok_fieldOwn fo64_0 rfl,
                  ok_loadOwn GReading.l0 ty3 rfl opd0,
                  ok_fieldOwn fo64_0 rfl,
                  ok_loadOwn GReading.l0 ty3 rfl opd0,
                  ok_mul rfl opd0 opd1,
                  ok_add rfl opd0 opd1,
                  ok_move rfl opd0,
                  ok_fieldOwn fo64_0 rfl,
                  ok_loadOwn GReading.l0 ty3 rfl opd0,
                  ok_fieldOwn fo64_1 rfl,
                  ok_loadOwn GReading.l1 ty3 rfl opd0,
                  ok_mul rfl opd0 opd1,
                  ok_add rfl opd0 opd1,
                  ok_assign rfl opd0,
                  ok_assign rfl opd0,
                  ok_assign rfl opd0,
                  ok_assign rfl opd0, trivial⟩ (by kernel_rfl) ?_
              clear hAt
              intro a w hAt
              replace hAt : At B h0 (mkG [(0, fV (Rep.slice GReading.rep) x0), (4, fV r_i64 (List.length x0 : Int)), (5, fV r_i64 (IntKind.i64.wrap (s1.2.1 + v2.Day))), (6, fV r_i64 (IntKind.i64.wrap (s1.2.2.1 + v2.Value))), (7, fV r_i64 (IntKind.i64.wrap (s1.2.2.2.1 + (IntKind.i64.wrap (v2.Day * v2.Day))))), (8, fV r_i64 (IntKind.i64.wrap (s1.2.2.2.2.1 + (IntKind.i64.wrap (v2.Day * v2.Value))))), (23, fV (Rep.slice GReading.rep) x0), (24, fV r_i64 (List.length x0 : Int)), (25, fV r_i64 s1.2.2.2.2.2)]) (mkO [(2, boxE 49 GRat.rep s1.1)]) F 97 a w := hAt
              refine blk_n ?_
              refine then_n ?_
              refine reg [⟨fV r_i64 (IntKind.i64.wrap (s1.2.2.2.2.2 + 1)), [], [(25, none)], []⟩,
                  ⟨fV r_i64 (IntKind.i64.wrap (s1.2.2.2.2.2 + 1)), [], [(81, some 0)], []⟩] [0, 4, 5, 6, 7, 8, 23, 24, 25] [2] hAt
                  ⟨ok_add rfl opd0 opdI,
                  ok_move rfl opd0, trivial⟩ (by kernel_rfl) ?_
              clear hAt
              intro a w hAt
              replace hAt : At B h0 (mkG [(0, fV (Rep.slice GReading.rep) x0), (4, fV r_i64 (List.length x0 : Int)), (5, fV r_i64 (IntKind.i64.wrap (s1.2.1 + v2.Day))), (6, fV r_i64 (IntKind.i64.wrap (s1.2.2.1 + v2.Value))), (7, fV r_i64 (IntKind.i64.wrap (s1.2.2.2.1 + (IntKind.i64.wrap (v2.Day * v2.Day))))), (8, fV r_i64 (IntKind.i64.wrap (s1.2.2.2.2.1 + (IntKind.i64.wrap (v2.Day * v2.Value))))), (23, fV (Rep.slice GReading.rep) x0), (24, fV r_i64 (List.length x0 : Int)), (25, fV r_i64 (IntKind.i64.wrap (s1.2.2.2.2.2 + 1)))]) (mkO [(2, boxE 49 GRat.rep s1.1)]) F 97 a w := hAt
              cases H
              exact ⟨rfl, hAt.pick [0, 4, 5, 6, 7, 8, 23, 24, 25] [2]⟩
        · intro hb8
          have H := iteF hb8 H
          refine wp_exit ?_
          refine then_x ?_
          cases H
          exact ⟨ex_ne, rfl, hAt.pick [4, 5, 6, 7, 8] [2]⟩
      · exact hAt.pick [0, 4, 5, 6, 7, 8, 23, 24, 25] [2]
      · clear hAt
        intro e a w hp
        cases o9 with
        | inl l11 =>
          rw [Sum.elim_inl] at H
          obtain ⟨rfl, hAt⟩ := hp
          refine blk_eq ?_
          refine then_n ?_
          refine wp_seq ?_
          obtain ⟨v13, hv13, H⟩ := bindE H
          refine reg [⟨fV r_i64 (List.length x0 : Int), [], [(4, none)], []⟩,
              ⟨fV r_i64 l11.2.2.2.2, [], [(8, none)], []⟩,
              ⟨fV r_i64 (IntKind.i64.wrap ((List.length x0 : Int) * l11.2.2.2.2)), [], [(82, some 0), (83, some 1)], []⟩,
              ⟨fV r_i64 l11.2.1, [], [(5, none)], []⟩,
              ⟨fV r_i64 l11.2.2.1, [], [(6, none)], []⟩,
              ⟨fV r_i64 (IntKind.i64.wrap (l11.2.1 * l11.2.2.1)), [], [(85, some 3), (86, some 4)], []⟩,
              ⟨fV r_i64 (IntKind.i64.wrap ((IntKind.i64.wrap ((List.length x0 : Int) * l11.2.2.2.2)) - (IntKind.i64.wrap (l11.2.1 * l11.2.2.1)))), [], [(84, some 2), (87, some 5)], []⟩,
              ⟨fV r_i64 (List.length x0 : Int), [], [(4, none)], []⟩,
              ⟨fV r_i64 l11.2.2.2.1, [], [(7, none)], []⟩,
              ⟨fV r_i64 (IntKind.i64.wrap ((List.length x0 : Int) * l11.2.2.2.1)), [], [(89, some 7), (90, some 8)], []⟩,
              ⟨fV r_i64 l11.2.1, [], [(5, none)], []⟩,
              ⟨fV r_i64 l11.2.1, [], [(5, none)], []⟩,
              ⟨fV r_i64 (IntKind.i64.wrap (l11.2.1 * l11.2.1)), [], [(92, some 10), (93, some 11)], []⟩,
              ⟨fV r_i64 (IntKind.i64.wrap ((IntKind.i64.wrap ((List.length x0 : Int) * l11.2.2.2.1)) - (IntKind.i64.wrap (l11.2.1 * l11.2.1)))), [], [(91, some 9), (94, some 12)], []⟩,
              ⟨fV GRat.rep v13, [], [(88, some 6), (95, some 13)], []⟩,
              ⟨Fact.triv, [(2, some (boxE 49 GRat.rep v13))], [(96, some 14)], [(2, none)]⟩,
              ⟨fV r_i64 0, [], [], []⟩] [3] [2] hAt
              ⟨ok_move rfl opd0,
              ok_move rfl opd0,
              ok_mul rfl opd0 opd1,
              ok_move rfl opd0,
              ok_move rfl opd0,
              ok_mul rfl opd0 opd1,
              ok_sub rfl opd0 opd1,
              ok_move rfl opd0,
              ok_move rfl opd0,
              ok_mul rfl opd0 opd1,
              ok_move rfl opd0,
              ok_move rfl opd0,
              ok_mul rfl opd0 opd1,
              ok_sub rfl opd0 opd1,
              ok_call (ok_f_survey_ratio N (IntKind.i64.wrap ((IntKind.i64.wrap ((List.length x0 : Int) * l11.2.2.2.2)) - (IntKind.i64.wrap (l11.2.1 * l11.2.2.1)))) (IntKind.i64.wrap ((IntKind.i64.wrap ((List.length x0 : Int) * l11.2.2.2.1)) - (IntKind.i64.wrap (l11.2.1 * l11.2.1)))) _ hv13) Try.func64 (by kernel_rfl) (by kernel_rfl) rfl ⟨opd0, ⟨opd1, trivial⟩⟩,
              ok_storeBox ty49 rfl rfl opd0,
              ok_assign rfl opdI, trivial⟩ (by kernel_rfl) ?_
          clear hAt
          intro a w hAt
          replace hAt : At B h0 (mkG [(3, fV r_i64 0)]) (mkO [(2, boxE 49 GRat.rep v13)]) F 97 a w := hAt
          refine then_n ?_
          refine wp_ret ?_
          cases H
          exact ret2 rfl (rv_cell ty49 rfl) (rv_tmp rfl rfl) hAt
        | inr r12 =>
          rw [Sum.elim_inr] at H
          replace hp := hp
          obtain ⟨rfl, hAt⟩ := hp
          refine blk_r ?_
          refine then_r ?_
          cases H
          exact ret2 rfl (rv_cell ty49 rfl) (rv_tmp rfl rfl) hAt
theorem ok_f_ref09_within (N : Nat) (x0 : Int) (x1 : Int) (x2 : Int) (r : Bool) (H : f_ref09_within N x0 x1 x2 = some r) : FnOk Try.prog 69 [fV r_i64 x0, fV r_i64 x1, fV r_i64 x2] (fV Rep.bool r) := by
  unfold f_ref09_within at H
  refine fn_enter Try.func69 rfl rfl (by kernel_rfl) ?_
  intro κ B h0 F a w hAt
  refine wp_seq ?_
  refine reg [⟨fV Rep.bool false, [], [], []⟩] [0, 1, 2] [] hAt
      ⟨ok_assign rfl opdB, trivial⟩ (by kernel_rfl) ?_
  clear hAt
  intro a w hAt
  replace hAt : At B h0 (mkG [(0, fV r_i64 x0), (1, fV r_i64 x1), (2, fV r_i64 x2)]) (mkO []) F 15 a w := hAt
  refine then_n ?_
  refine wp_seq ?_
  refine reg [⟨fV r_i64 x0, [], [(0, none)], []⟩,
      ⟨fV r_i64 x1, [], [(1, none)], []⟩,
      ⟨fV Rep.bool (cmpI .geq x0 x1), [], [(7, some 0), (8, some 1)], []⟩,
      ⟨fV Rep.bool (cmpI .geq x0 x1), [], [(9, some 2)], []⟩,
      ⟨Fact.when ((cmpI .geq x0 x1) = true) (fV r_i64 x0), [], [(10, some 3), (0, none)], []⟩,
      ⟨Fact.when ((cmpI .geq x0 x1) = true) (fV r_i64 x2), [], [(10, some 3), (2, none)], []⟩,
      ⟨Fact.when ((cmpI .geq x0 x1) = true) (fV Rep.bool (cmpI .leq x0 x2)), [], [(10, some 3), (11, some 4), (12, some 5)], []⟩,
      ⟨fV Rep.bool ((cmpI .geq x0 x1) && (cmpI .leq x0 x2)), [], [(10, some 3), (13, some 6)], []⟩,
      ⟨fV Rep.bool ((cmpI .geq x0 x1) && (cmpI .leq x0 x2)), [], [(14, some 7)], []⟩] [6] [] hAt
      ⟨ok_move rfl opd0,
      ok_move rfl opd0,
      ok_cmp (op := .geq) (by simp) rfl rfl opd0 opd1,
      ok_move rfl opd0,
      obl_tt rfl rfl rfl rfl rfl rfl rfl (fun hg => ok_move rfl opd1),
      obl_tt rfl rfl rfl rfl rfl rfl rfl (fun hg => ok_move rfl opd1),
      obl_tt rfl rfl rfl rfl rfl rfl rfl (fun hg => ok_cmp (op := .leq) (by simp) rfl rfl (opd1.on hg) (opd2.on hg)),
      ok_and rfl opd0 (fun e => (opd1.on e)),
      ok_assign rfl opd0, trivial⟩ (by kernel_rfl) ?_
  clear hAt
  intro a w hAt
  replace hAt : At B h0 (mkG [(6, fV Rep.bool ((cmpI .geq x0 x1) && (cmpI .leq x0 x2)))]) (mkO []) F 15 a w := hAt
  refine then_n ?_
  refine wp_ret ?_
  cases H
  exact ret1 rfl (rv_tmp rfl rfl) hAt
theorem ok_f_base_Q (N : Nat) (x0 : Int) (x1 : Int) (r : GRat) (H : f_base_Q N x0 x1 = some r) : FnOk Try.prog 72 [fV r_i64 x0, fV r_i64 x1] (fV GRat.rep r) := by
  unfold f_base_Q at H
  refine fn_enter Try.func72 rfl rfl (by kernel_rfl) ?_
  intro κ B h0 F a w hAt
  refine wp_seq ?_
  refine reg [⟨Fact.triv, [(4, some (boxE 49 GRat.rep (⟨(⟨false, []⟩ : GInt), (⟨false, []⟩ : GInt)⟩ : GRat)))], [], []⟩] [0, 1] [4] hAt
      ⟨ok_alloc ty49 rfl rfl, trivial⟩ (by kernel_rfl) ?_
  clear hAt
  intro a w hAt
  replace hAt : At B h0 (mkG [(0, fV r_i64 x0), (1, fV r_i64 x1)]) (mkO [(4, boxE 49 GRat.rep (⟨(⟨false, []⟩ : GInt), (⟨false, []⟩ : GInt)⟩ : GRat))]) F 34 a w := hAt
  refine then_n ?_
  refine wp_seq ?_
  obtain ⟨o2, hl3, H⟩ := bindE H
  refine wp_mono (Q := (fun o e a w => (fun v => e = .normal ∧ At B h0 (mkG [(0, fV r_i64 v.1), (1, fV r_i64 v.2)]) (mkO [(4, boxE 49 GRat.rep (⟨(⟨false, []⟩ : GInt), (⟨false, []⟩ : GInt)⟩ : GRat))]) F 34 a w) o) o2) ?_ ?_
  · clear H
    have H := hl3
    clear hl3
    refine wp_seq ?_
    refine reg [⟨fV r_i64 x1, [], [(1, none)], []⟩,
        ⟨fV Rep.bool (cmpI .lss x1 0), [], [(7, some 0)], []⟩] [0, 1, 8] [4] hAt
        ⟨ok_move rfl opd0,
        ok_cmp (op := .lss) (by simp) rfl rfl opd0 opdI, trivial⟩ (by kernel_rfl) ?_
    clear hAt
    intro a w hAt
    replace hAt : At B h0 (mkG [(0, fV r_i64 x0), (1, fV r_i64 x1), (8, fV Rep.bool (cmpI .lss x1 0))]) (mkO [(4, boxE 49 GRat.rep (⟨(⟨false, []⟩ : GInt), (⟨false, []⟩ : GInt)⟩ : GRat))]) F 34 a w := hAt
    refine then_n ?_
    refine wp_if hAt (by rfl) ?_ ?_
    · intro hb1
      have H := iteT hb1 H
      refine reg [⟨fV r_i64 x0, [], [(0, none)], []⟩,
          ⟨fV r_i64 (IntKind.i64.wrap (0 - x0)), [], [(9, some 0)], []⟩,
          ⟨fV r_i64 x1, [], [(1, none)], []⟩,
          ⟨fV r_i64 (IntKind.i64.wrap (0 - x1)), [], [(11, some 2)], []⟩,
          ⟨fV r_i64 (IntKind.i64.wrap (0 - x0)), [], [(10, some 1)], []⟩,
          ⟨fV r_i64 (IntKind.i64.wrap (0 - x1)), [], [(12, some 3)], []⟩] [0, 1] [4] hAt
          ⟨ok_move rfl opd0,
          ok_neg rfl opd0,
          ok_move rfl opd0,
          ok_neg rfl opd0,
          ok_assign rfl opd0,
          ok_assign rfl opd0, trivial⟩ (by kernel_rfl) ?_
      clear hAt
      intro a w hAt
      replace hAt : At B h0 (mkG [(0, fV r_i64 (IntKind.i64.wrap (0 - x0))), (1, fV r_i64 (IntKind.i64.wrap (0 - x1)))]) (mkO [(4, boxE 49 GRat.rep (⟨(⟨false, []⟩ : GInt), (⟨false, []⟩ : GInt)⟩ : GRat))]) F 34 a w := hAt
      cases H
      exact ⟨rfl, hAt.pick [0, 1] [4]⟩
    · intro hb1
      have H := iteF hb1 H
      refine wp_skip ?_
      cases H
      exact ⟨rfl, hAt.pick [0, 1] [4]⟩
  · clear hAt
    intro e a w hp
    obtain ⟨rfl, hAt⟩ := hp
    refine then_n ?_
    refine wp_seq ?_
    refine reg [⟨fV r_i64 o2.1, [], [(0, none)], []⟩,
        ⟨fV r_i64 o2.2, [], [(1, none)], []⟩,
        ⟨fV r_i64 o2.1, [], [(13, some 0)], []⟩,
        ⟨fV r_i64 o2.2, [], [(14, some 1)], []⟩] [0, 1, 5, 6] [4] hAt
        ⟨ok_move rfl opd0,
        ok_move rfl opd0,
        ok_assign rfl opd0,
        ok_assign rfl opd0, trivial⟩ (by kernel_rfl) ?_
    clear hAt
    intro a w hAt
    replace hAt : At B h0 (mkG [(0, fV r_i64 o2.1), (1, fV r_i64 o2.2), (5, fV r_i64 o2.1), (6, fV r_i64 o2.2)]) (mkO [(4, boxE 49 GRat.rep (⟨(⟨false, []⟩ : GInt), (⟨false, []⟩ : GInt)⟩ : GRat))]) F 34 a w := hAt
    refine then_n ?_
    refine wp_seq ?_
    obtain ⟨o5, hl6, H⟩ := bindE H
    refine wp_mono (Q := (fun o e a w => (fun v => e = .normal ∧ At B h0 (mkG [(0, fV r_i64 o2.1), (1, fV r_i64 o2.2), (5, fV r_i64 v), (6, fV r_i64 o2.2)]) (mkO [(4, boxE 49 GRat.rep (⟨(⟨false, []⟩ : GInt), (⟨false, []⟩ : GInt)⟩ : GRat))]) F 34 a w) o) o5) ?_ ?_
    · clear H
      have H := hl6
      clear hl6
      refine wp_seq ?_
      refine reg [⟨fV r_i64 o2.1, [], [(5, none)], []⟩,
          ⟨fV Rep.bool (cmpI .lss o2.1 0), [], [(15, some 0)], []⟩] [0, 1, 5, 6, 16] [4] hAt
          ⟨ok_move rfl opd0,
          ok_cmp (op := .lss) (by simp) rfl rfl opd0 opdI, trivial⟩ (by kernel_rfl) ?_
      clear hAt
      intro a w hAt
      replace hAt : At B h0 (mkG [(0, fV r_i64 o2.1), (1, fV r_i64 o2.2), (5, fV r_i64 o2.1), (6, fV r_i64 o2.2), (16, fV Rep.bool (cmpI .lss o2.1 0))]) (mkO [(4, boxE 49 GRat.rep (⟨(⟨false, []⟩ : GInt), (⟨false, []⟩ : GInt)⟩ : GRat))]) F 34 a w := hAt
      refine then_n ?_
      refine wp_if hAt (by rfl) ?_ ?_
      · intro hb4
        have H := iteT hb4 H
        refine reg [⟨fV r_i64 o2.1, [], [(5, none)], []⟩,
            ⟨fV r_i64 (IntKind.i64.wrap (0 - o2.1)), [], [(17, some 0)], []⟩,
            ⟨fV r_i64 (IntKind.i64.wrap (0 - o2.1)), [], [(18, some 1)], []⟩] [0, 1, 5, 6] [4] hAt
            ⟨ok_move rfl opd0,
            ok_neg rfl opd0,
            ok_assign rfl opd0, trivial⟩ (by kernel_rfl) ?_
        clear hAt
        intro a w hAt
        replace hAt : At B h0 (mkG [(0, fV r_i64 o2.1), (1, fV r_i64 o2.2), (5, fV r_i64 (IntKind.i64.wrap (0 - o2.1))), (6, fV r_i64 o2.2)]) (mkO [(4, boxE 49 GRat.rep (⟨(⟨false, []⟩ : GInt), (⟨false, []⟩ : GInt)⟩ : GRat))]) F 34 a w := hAt
        cases H
        exact ⟨rfl, hAt.pick [0, 1, 5, 6] [4]⟩
      · intro hb4
        have H := iteF hb4 H
        refine wp_skip ?_
        cases H
        exact ⟨rfl, hAt.pick [0, 1, 5, 6] [4]⟩
    · clear hAt
      intro e a w hp
      obtain ⟨rfl, hAt⟩ := hp
      refine then_n ?_
      refine wp_seq ?_
      refine wp_block ?_
      obtain ⟨o10, hl11, H⟩ := bindE H
      refine wp_mono (wp_loopN (f := f_base_Q_L1 N) (fun (s7 : (Int × Int)) a w => At B h0 (mkG [(0, fV r_i64 o2.1), (1, fV r_i64 o2.2), (5, fV r_i64 s7.1), (6, fV r_i64 s7.2)]) (mkO [(4, boxE 49 GRat.rep (⟨(⟨false, []⟩ : GInt), (⟨false, []⟩ : GInt)⟩ : GRat))]) F 34 a w) (fun o e a w => (fun v => e = .exit 0 ∧ At B h0 (mkG [(0, fV r_i64 o2.1), (1, fV r_i64 o2.2), (5, fV r_i64 v)]) (mkO [(4, boxE 49 GRat.rep (⟨(⟨false, []⟩ : GInt), (⟨false, []⟩ : GInt)⟩ : GRat))]) F 34 a w) o) ?_ N (o5, o2.2) o10 _ _ hl11 ?_) ?_
      · clear H hAt hl11
        intro s7 r16 a w H hAt
        unfold f_base_Q_L1 at H
        refine wp_seq ?_
        refine wp_seq ?_
        refine reg [⟨fV r_i64 s7.2, [], [(6, none)], []⟩,
            ⟨fV Rep.bool (cmpI .gtr s7.2 0), [], [(19, some 0)], []⟩] [0, 1, 5, 6, 20] [4] hAt
            ⟨ok_move rfl opd0,
            ok_cmp (op := .gtr) (by simp) rfl rfl opd0 opdI, trivial⟩ (by kernel_rfl) ?_
        clear hAt
        intro a w hAt
        replace hAt : At B h0 (mkG [(0, fV r_i64 o2.1), (1, fV r_i64 o2.2), (5, fV r_i64 s7.1), (6, fV r_i64 s7.2), (20, fV Rep.bool (cmpI .gtr s7.2 0))]) (mkO [(4, boxE 49 GRat.rep (⟨(⟨false, []⟩ : GInt), (⟨false, []⟩ : GInt)⟩ : GRat))]) F 34 a w := hAt
        refine then_n ?_
        refine wp_if hAt (by rfl) ?_ ?_
        · intro hb9
          have H := iteT hb9 H
          refine wp_skip ?_
          refine then_n ?_
          refine wp_block ?_
          obtain ⟨v8, hv8, H⟩ := bindE H
          refine regd [⟨fV r_i64 s7.2, [], [(6, none)], []⟩,
              ⟨fV r_i64 s7.1, [], [(5, none)], []⟩,
              ⟨fV r_i64 s7.2, [], [(6, none)], []⟩,
              ⟨fV r_i64 v8, [], [(22, some 1), (23, some 2)], []⟩,
              ⟨fV r_i64 s7.2, [], [(21, some 0)], []⟩,
              ⟨fV r_i64 v8, [], [(24, some 3)], []⟩] [0, 1, 2, 3, 4, 5] [0, 1, 2, 3, 4, 5] [0, 1, 5, 6] [4] hAt
              ⟨ok_move rfl opd0,
              ok_move rfl opd0,
              ok_move rfl opd0,
              ok_rem hv8 rfl opd0 opd1,
              ok_assign rfl opd0,
              ok_assign rfl opd0, trivial⟩ (by kernel_rfl) ?_
          clear hAt
          intro a w hAt
          replace hAt : At B h0 (mkG [(0, fV r_i64 o2.1), (1, fV r_i64 o2.2), (5, fV r_i64 s7.2), (6, fV r_i64 v8)]) (mkO [(4, boxE 49 GRat.rep (⟨(⟨false, []⟩ : GInt), (⟨false, []⟩ : GInt)⟩ : GRat))]) F 34 a w := hAt
          refine blk_n ?_
          cases H
          exact ⟨rfl, hAt.pick [0, 1, 5, 6] [4]⟩
        · intro hb9
          have H := iteF hb9 H
          refine wp_exit ?_
          refine then_x ?_
          cases H
          exact ⟨ex_ne, rfl, hAt.pick [0, 1, 5] [4]⟩
      · exact hAt.pick [0, 1, 5, 6] [4]
      · clear hAt
        intro e a w hp
        obtain ⟨rfl, hAt⟩ := hp
        refine blk_eq ?_
        refine then_n ?_
        refine wp_seq ?_
        obtain ⟨v12, hv12, H⟩ := bindE H
        obtain ⟨v13, hv13, H⟩ := bindE H
        obtain ⟨v14, hv14, H⟩ := bindE H
        obtain ⟨v15, hv15, H⟩ := bindE H
        refine regd [⟨fV r_i64 o2.1, [], [(0, none)], []⟩,
            ⟨fV r_i64 o10, [], [(5, none)], []⟩,
            ⟨fV r_i64 v12, [], [(25, some 0), (26, some 1)], []⟩,
            ⟨fV GInt.rep v13, [], [(27, some 2)], []⟩,
            ⟨fV r_i64 o2.2, [], [(1, none)], []⟩,
            ⟨fV r_i64 o10, [], [(5, none)], []⟩,
            ⟨fV r_i64 v14, [], [(29, some 4), (30, some 5)], []⟩,
            ⟨fV GInt.rep v15, [], [(31, some 6)], []⟩,
            ⟨fV GRat.rep (⟨v13, v15⟩ : GRat), [], [(28, some 3), (32, some 7)], []⟩,
            ⟨Fact.triv, [(4, some (boxE 49 GRat.rep (⟨v13, v15⟩ : GRat)))], [(33, some 8)], [(4, none)]⟩] [0, 1, 2, 3, 4, 5, 6, 7, 8, 9] [0, 1, 2, 3, 4, 5, 6, 7, 8, 9] [] [4] hAt
            ⟨ok_move rfl opd0,
            ok_move rfl opd0,
            ok_quo hv12 rfl opd0 opd1,
            ok_call (ok_f_base_Z N v12 _ hv13) Try.func80 (by kernel_rfl) (by kernel_rfl) rfl ⟨opd0, trivial⟩,
            ok_move rfl opd0,
            ok_move rfl opd0,
            ok_quo hv14 rfl opd0 opd1,
            ok_call (ok_f_base_Z N v14 _ hv15) Try.func80 (by kernel_rfl) (by kernel_rfl) rfl ⟨opd0, trivial⟩,
            ok_build ty49 rfl pl49 rfl (fillC GRat.l0 rfl opd0 (fillC GRat.l1 rfl opd1 fillN)),
            ok_storeBox ty49 rfl rfl opd0, trivial⟩ (by kernel_rfl) ?_
        clear hAt
        intro a w hAt
        replace hAt : At B h0 (mkG []) (mkO [(4, boxE 49 GRat.rep (⟨v13, v15⟩ : GRat))]) F 34 a w := hAt
        refine then_n ?_
        refine wp_ret ?_
        cases H
        exact ret1 rfl (rv_cell ty49 rfl) hAt
theorem ok_f_ref09_Trend (N : Nat) (x0 : (List GReading)) (r : GRat × Int) (H : f_ref09_Trend N x0 = some r) : FnOk Try.prog 35 [fV (Rep.slice GReading.rep) x0] (fT2 (fV GRat.rep (r.1)) (fV r_i64 (r.2))) := by
  unfold f_ref09_Trend at H
  refine fn_enter Try.func35 rfl rfl (by kernel_rfl) ?_
  intro κ B h0 F a w hAt
  refine wp_seq ?_
  refine reg [⟨Fact.triv, [(2, some (boxE 49 GRat.rep (⟨(⟨false, []⟩ : GInt), (⟨false, []⟩ : GInt)⟩ : GRat)))], [], []⟩,
      ⟨fV r_i64 0, [], [], []⟩] [0] [2] hAt
      ⟨ok_alloc ty49 rfl rfl,
      ok_assign rfl opdI, trivial⟩ (by kernel_rfl) ?_
  clear hAt
  intro a w hAt
  replace hAt : At B h0 (mkG [(0, fV (Rep.slice GReading.rep) x0)]) (mkO [(2, boxE 49 GRat.rep (⟨(⟨false, []⟩ : GInt), (⟨false, []⟩ : GInt)⟩ : GRat))]) F 115 a w := hAt
  refine then_n ?_
  refine wp_seq ?_
  refine wp_seq ?_
  refine reg [⟨fV (Rep.slice GReading.rep) x0, [], [(0, none)], []⟩,
      ⟨fV r_i64 (List.length x0 : Int), [], [(10, some 0)], []⟩,
      ⟨fV Rep.bool (cmpI .lss (List.length x0 : Int) 2), [], [(11, some 1)], []⟩] [0, 12] [2] hAt
      ⟨ok_move rfl opd0,
      ok_len un58 rfl opd0,
      ok_cmp (op := .lss) (by simp) rfl rfl opd0 opdI, trivial⟩ (by kernel_rfl) ?_
  clear hAt
  intro a w hAt
  replace hAt : At B h0 (mkG [(0, fV (Rep.slice GReading.rep) x0), (12, fV Rep.bool (cmpI .lss (List.length x0 : Int) 2))]) (mkO [(2, boxE 49 GRat.rep (⟨(⟨false, []⟩ : GInt), (⟨false, []⟩ : GInt)⟩ : GRat))]) F 115 a w := hAt
  refine then_n ?_
  refine wp_if hAt (by rfl) ?_ ?_
  · intro hb24
    have H := iteT hb24 H
    refine wp_seq ?_
    refine reg [⟨fV GRat.rep (⟨(⟨false, []⟩ : GInt), (⟨false, []⟩ : GInt)⟩ : GRat), [], [], []⟩,
        ⟨Fact.triv, [(2, some (boxE 49 GRat.rep (⟨(⟨false, []⟩ : GInt), (⟨false, []⟩ : GInt)⟩ : GRat)))], [(13, some 0)], [(2, none)]⟩,
        ⟨fV r_i64 11, [], [], []⟩] [3] [2] hAt
        ⟨ok_build ty49 rfl pl49 rfl fillN,
        ok_storeBox ty49 rfl rfl opd0,
        ok_assign rfl opdI, trivial⟩ (by kernel_rfl) ?_
    clear hAt
    intro a w hAt
    replace hAt : At B h0 (mkG [(3, fV r_i64 11)]) (mkO [(2, boxE 49 GRat.rep (⟨(⟨false, []⟩ : GInt), (⟨false, []⟩ : GInt)⟩ : GRat))]) F 115 a w := hAt
    refine then_n ?_
    refine wp_ret ?_
    refine then_r ?_
    cases H
    exact ret2 rfl (rv_cell ty49 rfl) (rv_tmp rfl rfl) hAt
  · intro hb24
    have H := iteF hb24 H
    refine wp_skip ?_
    refine then_n ?_
    refine wp_seq ?_
    refine wp_seq ?_
    refine reg [⟨fV (Rep.slice GReading.rep) x0, [], [(0, none)], []⟩,
        ⟨fV r_i64 (List.length x0 : Int), [], [(14, some 0)], []⟩,
        ⟨fV Rep.bool (cmpI .gtr (List.length x0 : Int) 40), [], [(15, some 1)], []⟩] [0, 16] [2] hAt
        ⟨ok_move rfl opd0,
        ok_len un58 rfl opd0,
        ok_cmp (op := .gtr) (by simp) rfl rfl opd0 opdI, trivial⟩ (by kernel_rfl) ?_
    clear hAt
    intro a w hAt
    replace hAt : At B h0 (mkG [(0, fV (Rep.slice GReading.rep) x0), (16, fV Rep.bool (cmpI .gtr (List.length x0 : Int) 40))]) (mkO [(2, boxE 49 GRat.rep (⟨(⟨false, []⟩ : GInt), (⟨false, []⟩ : GInt)⟩ : GRat))]) F 115 a w := hAt
    refine then_n ?_
    refine wp_if hAt (by rfl) ?_ ?_
    · intro hb23
      have H := iteT hb23 H
      refine wp_seq ?_
      refine reg [⟨fV GRat.rep (⟨(⟨false, []⟩ : GInt), (⟨false, []⟩ : GInt)⟩ : GRat), [], [], []⟩,
          ⟨Fact.triv, [(2, some (boxE 49 GRat.rep (⟨(⟨false, []⟩ : GInt), (⟨false, []⟩ : GInt)⟩ : GRat)))], [(17, some 0)], [(2, none)]⟩,
          ⟨fV r_i64 8, [], [], []⟩] [3] [2] hAt
          ⟨ok_build ty49 rfl pl49 rfl fillN,
          ok_storeBox ty49 rfl rfl opd0,
          ok_assign rfl opdI, trivial⟩ (by kernel_rfl) ?_
      clear hAt
      intro a w hAt
      replace hAt : At B h0 (mkG [(3, fV r_i64 8)]) (mkO [(2, boxE 49 GRat.rep (⟨(⟨false, []⟩ : GInt), (⟨false, []⟩ : GInt)⟩ : GRat))]) F 115 a w := hAt
      refine then_n ?_
      refine wp_ret ?_
      refine then_r ?_
      cases H
      exact ret2 rfl (rv_cell ty49 rfl) (rv_tmp rfl rfl) hAt
    · intro hb23
      have H := iteF hb23 H
      refine wp_skip ?_
      refine then_n ?_
      refine wp_seq ?_
      refine reg [⟨fV (Rep.slice GReading.rep) x0, [], [(0, none)], []⟩,
          ⟨fV r_i64 (List.length x0 : Int), [], [(18, some 0)], []⟩,
          ⟨fV r_i64 (List.length x0 : Int), [], [(19, some 1)], []⟩,
          ⟨fV r_i64 0, [], [], []⟩,
          ⟨fV r_i64 0, [], [], []⟩,
          ⟨fV r_i64 0, [], [], []⟩,
          ⟨fV r_i64 0, [], [], []⟩] [0, 4, 5, 6, 7, 8] [2] hAt
          ⟨ok_move rfl opd0,
          ok_len un58 rfl opd0,
          ok_assign rfl opd0,
          ok_assign rfl opdI,
          ok_assign rfl opdI,
          ok_assign rfl opdI,
          ok_assign rfl opdI, trivial⟩ (by kernel_rfl) ?_
      clear hAt
      intro a w hAt
      replace hAt : At B h0 (mkG [(0, fV (Rep.slice GReading.rep) x0), (4, fV r_i64 (List.length x0 : Int)), (5, fV r_i64 0), (6, fV r_i64 0), (7, fV r_i64 0), (8, fV r_i64 0)]) (mkO [(2, boxE 49 GRat.rep (⟨(⟨false, []⟩ : GInt), (⟨false, []⟩ : GInt)⟩ : GRat))]) F 115 a w := hAt
      refine then_n ?_
      refine wp_seq ?_
      refine wp_seq ?_
      refine reg [⟨fV r_i64 0, [], [], []⟩] [0, 4, 5, 6, 7, 8, 9] [2] hAt
          ⟨ok_assign rfl opdI, trivial⟩ (by kernel_rfl) ?_
      clear hAt
      intro a w hAt
      replace hAt : At B h0 (mkG [(0, fV (Rep.slice GReading.rep) x0), (4, fV r_i64 (List.length x0 : Int)), (5, fV r_i64 0), (6, fV r_i64 0), (7, fV r_i64 0), (8, fV r_i64 0), (9, fV r_i64 0)]) (mkO [(2, boxE 49 GRat.rep (⟨(⟨false, []⟩ : GInt), (⟨false, []⟩ : GInt)⟩ : GRat))]) F 115 a w := hAt
      refine then_n ?_
      refine wp_block ?_
      obtain ⟨o17, hl18, H⟩ := bindE H
      refine wp_mono (wp_loopN (f := f_ref09_Trend_L1 N x0) (fun (s1 : (GRat × Int × Int × Int × Int × Int)) a w => At B h0 (mkG [(0, fV (Rep.slice GReading.rep) x0), (4, fV r_i64 (List.length x0 : Int)), (5, fV r_i64 s1.2.1), (6, fV r_i64 s1.2.2.1), (7, fV r_i64 s1.2.2.2.1), (8, fV r_i64 s1.2.2.2.2.1), (9, fV r_i64 s1.2.2.2.2.2)]) (mkO [(2, boxE 49 GRat.rep s1.1)]) F 115 a w) (fun o e a w => (Sum.elim (fun v => e = .exit 0 ∧ At B h0 (mkG [(4, fV r_i64 (List.length x0 : Int)), (5, fV r_i64 v.2.1), (6, fV r_i64 v.2.2.1), (7, fV r_i64 v.2.2.2.1), (8, fV r_i64 v.2.2.2.2)]) (mkO [(2, boxE 49 GRat.rep v.1)]) F 115 a w) (fun v => e = .ret ∧ At B h0 (mkG [(3, fV r_i64 v.2)]) (mkO [(2, boxE 49 GRat.rep v.1)]) F 115 a w)) o) ?_ N ((⟨(⟨false, []⟩ : GInt), (⟨false, []⟩ : GInt)⟩ : GRat), 0, 0, 0, 0, 0) o17 _ _ hl18 ?_) ?_
      · clear H hAt hl18
        intro s1 r22 a w H hAt
        unfold f_ref09_Trend_L1 at H
        refine wp_seq ?_
        refine wp_seq ?_
        refine reg [⟨fV r_i64 s1.2.2.2.2.2, [], [(9, none)], []⟩,
            ⟨fV (Rep.slice GReading.rep) x0, [], [(0, none)], []⟩,
            ⟨fV r_i64 (List.length x0 : Int), [], [(21, some 1)], []⟩,
            ⟨fV Rep.bool (cmpI .lss s1.2.2.2.2.2 (List.length x0 : Int)), [], [(20, some 0), (22, some 2)], []⟩] [0, 4, 5, 6, 7, 8, 9, 23] [2] hAt
            ⟨ok_move rfl opd0,
            ok_move rfl opd0,
            ok_len un58 rfl opd0,
            ok_cmp (op := .lss) (by simp) rfl rfl opd0 opd1, trivial⟩ (by kernel_rfl) ?_
        clear hAt
        intro a w hAt
        replace hAt : At B h0 (mkG [(0, fV (Rep.slice GReading.rep) x0), (4, fV r_i64 (List.length x0 : Int)), (5, fV r_i64 s1.2.1), (6, fV r_i64 s1.2.2.1), (7, fV r_i64 s1.2.2.2.1), (8, fV r_i64 s1.2.2.2.2.1), (9, fV r_i64 s1.2.2.2.2.2), (23, fV Rep.bool (cmpI .lss s1.2.2.2.2.2 (List.length x0 : Int)))]) (mkO [(2, boxE 49 GRat.rep s1.1)]) F 115 a w := hAt
        refine then_n ?_
        refine wp_if hAt (by rfl) ?_ ?_
        · intro hb16
          have H := iteT hb16 H
          refine wp_skip ?_
          refine then_n ?_
          refine wp_seq ?_
          refine wp_block ?_
          refine wp_seq ?_
          refine wp_seq ?_
          obtain ⟨v2, hv2, H⟩ := bindE H
          obtain ⟨v3, hv3, H⟩ := bindE H
          obtain ⟨v4, hv4, H⟩ := bindE H
          obtain ⟨v5, hv5, H⟩ := bindE H
          refine reg [⟨fV (Rep.slice GReading.rep) x0, [], [(0, none)], []⟩,
              ⟨fV r_i64 s1.2.2.2.2.2, [], [(9, none)], []⟩,
              ⟨fRef GReading.rep v2, [], [(26, some 0), (27, some 1)], []⟩,
              ⟨fRef r_i64 v2.Day, [], [(28, some 2)], []⟩,
              ⟨fV r_i64 v2.Day, [], [(29, some 3)], []⟩,
              ⟨fV Rep.bool v3, [], [(30, some 4)], []⟩,
              ⟨fV Rep.bool (!v3), [], [(31, some 5)], []⟩,
              ⟨fV Rep.bool (!v3), [], [(32, some 6)], []⟩,
              ⟨Fact.when ((!(!v3)) = true) (fV (Rep.slice GReading.rep) x0), [], [(33, some 7), (0, none)], []⟩,
              ⟨Fact.when ((!(!v3)) = true) (fV r_i64 s1.2.2.2.2.2), [], [(33, some 7), (9, none)], []⟩,
              ⟨Fact.when ((!(!v3)) = true) (fRef GReading.rep v4), [], [(33, some 7), (34, some 8), (35, some 9)], []⟩,
              ⟨Fact.when ((!(!v3)) = true) (fRef r_i64 v4.Value), [], [(33, some 7), (36, some 10)], []⟩,
              ⟨Fact.when ((!(!v3)) = true) (fV r_i64 v4.Value), [], [(33, some 7), (37, some 11)], []⟩,
              ⟨Fact.when ((!(!v3)) = true) (fV Rep.bool v5), [], [(33, some 7), (38, some 12)], []⟩,
              ⟨Fact.when ((!(!v3)) = true) (fV Rep.bool (!v5)), [], [(33, some 7), (39, some 13)], []⟩,
              ⟨fV Rep.bool ((!v3) || (!v5)), [], [(33, some 7), (40, some 14)], []⟩] [0, 4, 5, 6, 7, 8, 9, 41] [2] hAt
              ⟨ok_move rfl opd0,
              ok_move rfl opd0,
              ok_index ty64 un58 hv2 rfl opd0 opd1,
              ok_field GReading.l0 fo64_0 rfl opd0,
              ok_load ty3 rfl opd0,
              ok_call (ok_f_ref09_within N v2.Day 0 100000 _ hv3) Try.func69 (by kernel_rfl) (by kernel_rfl) rfl ⟨opd0, ⟨opdI, ⟨opdI, trivial⟩⟩⟩,
              ok_not rfl opd0,
              ok_move rfl opd0,
              obl_tf rfl rfl rfl rfl rfl rfl rfl (fun hg => ok_move rfl opd1),
              obl_tf rfl rfl rfl rfl rfl rfl rfl (fun hg => ok_move rfl opd1),
              obl_tf rfl rfl rfl rfl rfl rfl rfl (fun hg => ok_index ty64 un58 (iteT hg hv4) rfl (opd1.on hg) (opd2.on hg)),
              obl_tf rfl rfl rfl rfl rfl rfl rfl (fun hg => ok_field GReading.l1 fo64_1 rfl (opd1.on hg)),
              obl_tf rfl rfl rfl rfl rfl rfl rfl (fun hg => ok_load ty3 rfl (opd1.on hg)),
              obl_tf rfl rfl rfl rfl rfl rfl rfl (fun hg => ok_call (ok_f_ref09_within N v4.Value (-1000000) 1000000 _ (iteT hg hv5)) Try.func69 (by kernel_rfl) (by kernel_rfl) rfl ⟨(opd1.on hg), ⟨opdI, ⟨opdI, trivial⟩⟩⟩),
              obl_tf rfl rfl rfl rfl rfl rfl rfl (fun hg => ok_not rfl (opd1.on hg)),
              ok_or rfl opd0 (fun e => (opd1.on (notT e))), trivial⟩ (by kernel_rfl) ?_
          clear hAt
          intro a w hAt
          replace hAt : At B h0 (mkG [(0, fV (Rep.slice GReading.rep) x0), (4, fV r_i64 (List.length x0 : Int)), (5, fV r_i64 s1.2.1), (6, fV r_i64 s1.2.2.1), (7, fV r_i64 s1.2.2.2.1), (8, fV r_i64 s1.2.2.2.2.1), (9, fV r_i64 s1.2.2.2.2.2), (41, fV Rep.bool ((!v3) || (!v5)))]) (mkO [(2, boxE 49 GRat.rep s1.1)]) F 115 a w := hAt
          refine then_n ?_
          refine wp_if hAt (by rfl) ?_ ?_
          · intro hb15
            have H := iteT hb15 H
            refine wp_seq ?_
            refine reg [⟨fV GRat.rep (⟨(⟨false, []⟩ : GInt), (⟨false, []⟩ : GInt)⟩ : GRat), [], [], []⟩,
                ⟨Fact.triv, [(2, some (boxE 49 GRat.rep (⟨(⟨false, []⟩ : GInt), (⟨false, []⟩ : GInt)⟩ : GRat)))], [(42, some 0)], [(2, none)]⟩,
                ⟨fV r_i64 2, [], [], []⟩] [3] [2] hAt
                ⟨ok_build ty49 rfl pl49 rfl fillN,
                ok_storeBox ty49 rfl rfl opd0,
                ok_assign rfl opdI, trivial⟩ (by kernel_rfl) ?_
            clear hAt
            intro a w hAt
            replace hAt : At B h0 (mkG [(3, fV r_i64 2)]) (mkO [(2, boxE 49 GRat.rep (⟨(⟨false, []⟩ : GInt), (⟨false, []⟩ : GInt)⟩ : GRat))]) F 115 a w := hAt
            refine then_n ?_
            refine wp_ret ?_
            refine then_r ?_
            refine blk_r ?_
            refine then_r ?_
            cases H
            exact ⟨ret_ne, rfl, hAt.pick [3] [2]⟩
          · intro hb15
            have H := iteF hb15 H
            refine wp_skip ?_
            refine then_n ?_
            refine wp_seq ?_
            refine wp_seq ?_
            obtain ⟨v6, hv6, H⟩ := bindE H
            obtain ⟨v7, hv7, H⟩ := bindE H
            refine regd [⟨fV r_i64 s1.2.2.2.2.2, [], [(9, none)], []⟩,
                ⟨fV Rep.bool (cmpI .gtr s1.2.2.2.2.2 0), [], [(43, some 0)], []⟩,
                ⟨fV Rep.bool (cmpI .gtr s1.2.2.2.2.2 0), [], [(44, some 1)], []⟩,
                ⟨Fact.when ((cmpI .gtr s1.2.2.2.2.2 0) = true) (fV (Rep.slice GReading.rep) x0), [], [(45, some 2), (0, none)], []⟩,
                ⟨Fact.when ((cmpI .gtr s1.2.2.2.2.2 0) = true) (fV r_i64 s1.2.2.2.2.2), [], [(45, some 2), (9, none)], []⟩,
                ⟨Fact.when ((cmpI .gtr s1.2.2.2.2.2 0) = true) (fRef GReading.rep v6), [], [(45, some 2), (46, some 3), (47, some 4)], []⟩,
                ⟨Fact.when ((cmpI .gtr s1.2.2.2.2.2 0) = true) (fRef r_i64 v6.Day), [], [(45, some 2), (48, some 5)], []⟩,
                ⟨Fact.when ((cmpI .gtr s1.2.2.2.2.2 0) = true) (fV r_i64 v6.Day), [], [(45, some 2), (49, some 6)], []⟩,
                ⟨Fact.when ((cmpI .gtr s1.2.2.2.2.2 0) = true) (fV (Rep.slice GReading.rep) x0), [], [(45, some 2), (0, none)], []⟩,
                ⟨Fact.when ((cmpI .gtr s1.2.2.2.2.2 0) = true) (fV r_i64 s1.2.2.2.2.2), [], [(45, some 2), (9, none)], []⟩,
                ⟨Fact.when ((cmpI .gtr s1.2.2.2.2.2 0) = true) (fV r_i64 (IntKind.i64.wrap (s1.2.2.2.2.2 - 1))), [], [(45, some 2), (52, some 9)], []⟩,
                ⟨Fact.when ((cmpI .gtr s1.2.2.2.2.2 0) = true) (fRef GReading.rep v7), [], [(45, some 2), (51, some 8), (53, some 10)], []⟩,
                ⟨Fact.when ((cmpI .gtr s1.2.2.2.2.2 0) = true) (fRef r_i64 v7.Day), [], [(45, some 2), (54, some 11)], []⟩,
                ⟨Fact.when ((cmpI .gtr s1.2.2.2.2.2 0) = true) (fV r_i64 v7.Day), [], [(45, some 2), (55, some 12)], []⟩,
                ⟨Fact.when ((cmpI .gtr s1.2.2.2.2.2 0) = true) (fV Rep.bool (cmpI .leq v6.Day v7.Day)), [], [(45, some 2), (50, some 7), (56, some 13)], []⟩,
                ⟨fV Rep.bool ((cmpI .gtr s1.2.2.2.2.2 0) && (cmpI .leq v6.Day v7.Day)), [], [(45, some 2), (57, some 14)], []⟩] [0, 1, 2, 3, 4, 5, 6, 7, 8, 9, 10, 11, 12, 13, 14, 15] [0, 1, 2, 3, 4, 5, 6, 7, 8, 9, 10, 11, 12, 13, 14, 15] [0, 4, 5, 6, 7, 8, 9, 58] [2] hAt
                ⟨ok_move rfl opd0,
                ok_cmp (op := .gtr) (by simp) rfl rfl opd0 opdI,
                ok_move rfl opd0,
                obl_tt rfl rfl rfl rfl rfl rfl rfl (fun hg => ok_move rfl opd1),
                obl_tt rfl rfl rfl rfl rfl rfl rfl (fun hg => ok_move rfl opd1),
                obl_tt rfl rfl rfl rfl rfl rfl rfl (fun hg => ok_index ty64 un58 (iteT hg hv6) rfl (opd1.on hg) (opd2.on hg)),
                obl_tt rfl rfl rfl rfl rfl rfl rfl (fun hg => ok_field GReading.l0 fo64_0 rfl (opd1.on hg)),
                obl_tt rfl rfl rfl rfl rfl rfl rfl (fun hg => ok_load ty3 rfl (opd1.on hg)),
                obl_tt rfl rfl rfl rfl rfl rfl rfl (fun hg => ok_move rfl opd1),
                obl_tt rfl rfl rfl rfl rfl rfl rfl (fun hg => ok_move rfl opd1),
                obl_tt rfl rfl rfl rfl rfl rfl rfl (fun hg => ok_sub rfl (opd1.on hg) opdI),
                obl_tt rfl rfl rfl rfl rfl rfl rfl (fun hg => ok_index ty64 un58 (iteT hg hv7) rfl (opd1.on hg) (opd2.on hg)),
                obl_tt rfl rfl rfl rfl rfl rfl rfl (fun hg => ok_field GReading.l0 fo64_0 rfl (opd1.on hg)),
                obl_tt rfl rfl rfl rfl rfl rfl rfl (fun hg => ok_load ty3 rfl (opd1.on hg)),
                obl_tt rfl rfl rfl rfl rfl rfl rfl (fun hg => ok_cmp (op := .leq) (by simp) rfl rfl (opd1.on hg) (opd2.on hg)),
                ok_and rfl opd0 (fun e => (opd1.on e)), trivial⟩ (by kernel_rfl) ?_
            clear hAt
            intro a w hAt
            replace hAt : At B h0 (mkG [(0, fV (Rep.slice GReading.rep) x0), (4, fV r_i64 (List.length x0 : Int)), (5, fV r_i64 s1.2.1), (6, fV r_i64 s1.2.2.1), (7, fV r_i64 s1.2.2.2.1), (8, fV r_i64 s1.2.2.2.2.1), (9, fV r_i64 s1.2.2.2.2.2), (58, fV Rep.bool ((cmpI .gtr s1.2.2.2.2.2 0) && (cmpI .leq v6.Day v7.Day)))]) (mkO [(2, boxE 49 GRat.rep s1.1)]) F 115 a w := hAt
            refine then_n ?_
            refine wp_if hAt (by rfl) ?_ ?_
            · intro hb14
              have H := iteT hb14 H
              refine wp_seq ?_
              refine reg [⟨fV GRat.rep (⟨(⟨false, []⟩ : GInt), (⟨false, []⟩ : GInt)⟩ : GRat), [], [], []⟩,
                  ⟨Fact.triv, [(2, some (boxE 49 GRat.rep (⟨(⟨false, []⟩ : GInt), (⟨false, []⟩ : GInt)⟩ : GRat)))], [(59, some 0)], [(2, none)]⟩,
                  ⟨fV r_i64 10, [], [], []⟩] [3] [2] hAt
                  ⟨ok_build ty49 rfl pl49 rfl fillN,
                  ok_storeBox ty49 rfl rfl opd0,
                  ok_assign rfl opdI, trivial⟩ (by kernel_rfl) ?_
              clear hAt
              intro a w hAt
              replace hAt : At B h0 (mkG [(3, fV r_i64 10)]) (mkO [(2, boxE 49 GRat.rep (⟨(⟨false, []⟩ : GInt), (⟨false, []⟩ : GInt)⟩ : GRat))]) F 115 a w := hAt
              refine then_n ?_
              refine wp_ret ?_
              refine then_r ?_
              refine blk_r ?_
              refine then_r ?_
              cases H
              exact ⟨ret_ne, rfl, hAt.pick [3] [2]⟩
            · intro hb14
              have H := iteF hb14 H
              refine wp_skip ?_
              refine then_n ?_
              refine wp_seq ?_
              obtain ⟨v8, hv8, H⟩ := bindE H
              obtain ⟨v9, hv9, H⟩ := bindE H
              refine regd [⟨fV r_i64 s1.2.1, [], [(5, none)], []⟩,
                  ⟨fV (Rep.slice GReading.rep) x0, [], [(0, none)], []⟩,
                  ⟨fV r_i64 s1.2.2.2.2.2, [], [(9, none)], []⟩,
                  ⟨fRef GReading.rep v8, [], [(61, some 1), (62, some 2)], []⟩,
                  ⟨fRef r_i64 v8.Day, [], [(63, some 3)], []⟩,
                  ⟨fV r_i64 v8.Day, [], [(64, some 4)], []⟩,
                  ⟨fV r_i64 (IntKind.i64.wrap (s1.2.1 + v8.Day)), [], [(60, some 0), (65, some 5)], []⟩,
                  ⟨fV r_i64 s1.2.2.1, [], [(6, none)], []⟩,
                  ⟨fV (Rep.slice GReading.rep) x0, [], [(0, none)], []⟩,
                  ⟨fV r_i64 s1.2.2.2.2.2, [], [(9, none)], []⟩,
                  ⟨fRef GReading.rep v9, [], [(68, some 8), (69, some 9)], []⟩,
                  ⟨fRef r_i64 v9.Value, [], [(70, some 10)], []⟩,
                  ⟨fV r_i64 v9.Value, [], [(71, some 11)], []⟩,
                  ⟨fV r_i64 (IntKind.i64.wrap (s1.2.2.1 + v9.Value)), [], [(67, some 7), (72, some 12)], []⟩,
                  ⟨fV r_i64 (IntKind.i64.wrap (s1.2.1 + v8.Day)), [], [(66, some 6)], []⟩,
                  ⟨fV r_i64 (IntKind.i64.wrap (s1.2.2.1 + v9.Value)), [], [(73, some 13)], []⟩] [0, 1, 2, 3, 4, 5, 6, 7, 8, 9, 10, 11, 12, 13, 14, 15] [0, 1, 2, 3, 4, 5, 6, 14, 7, 8, 9, 10, 11, 12, 13, 15] [0, 4, 5, 6, 7, 8, 9] [2] hAt
                  ⟨ok_move rfl opd0,
                  ok_move rfl opd0,
                  ok_move rfl opd0,
                  ok_index ty64 un58 hv8 rfl opd0 opd1,
                  ok_field GReading.l0 fo64_0 rfl opd0,
                  ok_load ty3 rfl opd0,
                  ok_add rfl opd0 opd1,
                  ok_move rfl opd0,
                  ok_move rfl opd0,
                  ok_move rfl opd0,
                  ok_index ty64 un58 hv9 rfl opd0 opd1,
                  ok_field GReading.l1 fo64_1 rfl opd0,
                  ok_load ty3 rfl opd0,
                  ok_add rfl opd0 opd1,
                  ok_assign rfl opd0,
                  ok_assign rfl opd0, trivial⟩ (by kernel_rfl) ?_
              clear hAt
              intro a w hAt
              replace hAt : At B h0 (mkG [(0, fV (Rep.slice GReading.rep) x0), (4, fV r_i64 (List.length x0 : Int)), (5, fV r_i64 (IntKind.i64.wrap (s1.2.1 + v8.Day))), (6, fV r_i64 (IntKind.i64.wrap (s1.2.2.1 + v9.Value))), (7, fV r_i64 s1.2.2.2.1), (8, fV r_i64 s1.2.2.2.2.1), (9, fV r_i64 s1.2.2.2.2.2)]) (mkO [(2, boxE 49 GRat.rep s1.1)]) F 115 a w := hAt
              refine then_n ?_
              obtain ⟨v10, hv10, H⟩ := bindE H
              obtain ⟨v11, hv11, H⟩ := bindE H
              obtain ⟨v12, hv12, H⟩ := bindE H
              obtain ⟨v13, hv13, H⟩ := bindE H
              refine regd [⟨fV r_i64 s1.2.2.2.1, [], [(7, none)], []⟩,
                  ⟨fV (Rep.slice GReading.rep) x0, [], [(0, none)], []⟩,
                  ⟨fV r_i64 s1.2.2.2.2.2, [], [(9, none)], []⟩,
                  ⟨fRef GReading.rep v10, [], [(75, some 1), (76, some 2)], []⟩,
                  ⟨fRef r_i64 v10.Day, [], [(77, some 3)], []⟩,
                  ⟨fV r_i64 v10.Day, [], [(78, some 4)], []⟩,
                  ⟨fV (Rep.slice GReading.rep) x0, [], [(0, none)], []⟩,
                  ⟨fV r_i64 s1.2.2.2.2.2, [], [(9, none)], []⟩,
                  ⟨fRef GReading.rep v11, [], [(80, some 6), (81, some 7)], []⟩,
                  ⟨fRef r_i64 v11.Day, [], [(82, some 8)], []⟩,
                  ⟨fV r_i64 v11.Day, [], [(83, some 9)], []⟩,
                  ⟨fV r_i64 (IntKind.i64.wrap (v10.Day * v11.Day)), [], [(79, some 5), (84, some 10)], []⟩,
                  ⟨fV r_i64 (IntKind.i64.wrap (s1.2.2.2.1 + (IntKind.i64.wrap (v10.Day * v11.Day)))), [], [(74, some 0), (85, some 11)], []⟩,
                  ⟨fV r_i64 s1.2.2.2.2.1, [], [(8, none)], []⟩,
                  ⟨fV (Rep.slice GReading.rep) x0, [], [(0, none)], []⟩,
                  ⟨fV r_i64 s1.2.2.2.2.2, [], [(9, none)], []⟩,
                  ⟨fRef GReading.rep v12, [], [(88, some 14), (89, some 15)], []⟩,
                  ⟨fRef r_i64 v12.Day, [], [(90, some 16)], []⟩,
                  ⟨fV r_i64 v12.Day, [], [(91, some 17)], []⟩,
                  ⟨fV (Rep.slice GReading.rep) x0, [], [(0, none)], []⟩,
                  ⟨fV r_i64 s1.2.2.2.2.2, [], [(9, none)], []⟩,
                  ⟨fRef GReading.rep v13, [], [(93, some 19), (94, some 20)], []⟩,
                  ⟨fRef r_i64 v13.Value, [], [(95, some 21)], []⟩,
                  ⟨fV r_i64 v13.Value, [], [(96, some 22)], []⟩,
                  ⟨fV r_i64 (IntKind.i64.wrap (v12.Day * v13.Value)), [], [(92, some 18), (97, some 23)], []⟩,
                  ⟨fV r_i64 (IntKind.i64.wrap (s1.2.2.2.2.1 + (IntKind.i64.wrap (v12.Day * v13.Value)))), [], [(87, some 13), (98, some 24)], []⟩,
                  ⟨fV r_i64 (IntKind.i64.wrap (s1.2.2.2.1 + (IntKind.i64.wrap (v10.Day * v11.Day)))), [], [(86, some 12)], []⟩,
                  ⟨fV r_i64 (IntKind.i64.wrap (s1.2.2.2.2.1 + (IntKind.i64.wrap (v12.Day * v13.Value)))), [], [(99, some 25)], []⟩] [0, 1, 2, 3, 4, 5, 6, 7, 8, 9, 10, 11, 12, 13, 14, 15, 16, 17, 18, 19, 20, 21, 22, 23, 24, 25, 26, 27] [0, 1, 2, 3, 4, 5, 6, 7, 8, 9, 10, 11, 12, 26, 13, 14, 15, 16, 17, 18, 19, 20, 21, 22, 23, 24, 25, 27] [0, 4, 5, 6, 7, 8, 9] [2] hAt
                  ⟨ok_move rfl opd0,
                  ok_move rfl opd0,
                  ok_move rfl opd0,
                  ok_index ty64 un58 hv10 rfl opd0 opd1,
                  ok_field GReading.l0 fo64_0 rfl opd0,
                  ok_load ty3 rfl opd0,
                  ok_move rfl opd0,
                  ok_move rfl opd0,
                  ok_index ty64 un58 hv11 rfl opd0 opd1,
                  ok_field GReading.l0 fo64_0 rfl opd0,
                  ok_load ty3 rfl opd0,
                  ok_mul rfl opd0 opd1,
                  ok_add rfl opd0 opd1,
                  ok_move rfl opd0,
                  ok_move rfl opd0,
                  ok_move rfl opd0,
                  ok_index ty64 un58 hv12 rfl opd0 opd1,
                  ok_field GReading.l0 fo64_0 rfl opd0,
                  ok_load ty3 rfl opd0,
                  ok_move rfl opd0,
                  ok_move rfl opd0,
                  ok_index ty64 un58 hv13 rfl opd0 opd1,
                  ok_field GReading.l1 fo64_1 rfl opd0,
                  ok_load ty3 rfl opd0,
                  ok_mul rfl opd0 opd1,
                  ok_add rfl opd0 opd1,
                  ok_assign rfl opd0,
                  ok_assign rfl opd0, trivial⟩ (by kernel_rfl) ?_
              clear hAt
              intro a w hAt
              replace hAt : At B h0 (mkG [(0, fV (Rep.slice GReading.rep) x0), (4, fV r_i64 (List.length x0 : Int)), (5, fV r_i64 (IntKind.i64.wrap (s1.2.1 + v8.Day))), (6, fV r_i64 (IntKind.i64.wrap (s1.2.2.1 + v9.Value))), (7, fV r_i64 (IntKind.i64.wrap (s1.2.2.2.1 + (IntKind.i64.wrap (v10.Day * v11.Day))))), (8, fV r_i64 (IntKind.i64.wrap (s1.2.2.2.2.1 + (IntKind.i64.wrap (v12.Day * v13.Value))))), (9, fV r_i64 s1.2.2.2.2.2)]) (mkO [(2, boxE 49 GRat.rep s1.1)]) F 115 a w := hAt
              refine blk_n ?_
              refine then_n ?_
              refine reg [⟨fV r_i64 s1.2.2.2.2.2, [], [(9, none)], []⟩,
                  ⟨fV r_i64 (IntKind.i64.wrap (s1.2.2.2.2.2 + 1)), [], [(24, some 0)], []⟩,
                  ⟨fV r_i64 (IntKind.i64.wrap (s1.2.2.2.2.2 + 1)), [], [(25, some 1)], []⟩] [0, 4, 5, 6, 7, 8, 9] [2] hAt
                  ⟨ok_move rfl opd0,
                  ok_add rfl opd0 opdI,
                  ok_assign rfl opd0, trivial⟩ (by kernel_rfl) ?_
              clear hAt
              intro a w hAt
              replace hAt : At B h0 (mkG [(0, fV (Rep.slice GReading.rep) x0), (4, fV r_i64 (List.length x0 : Int)), (5, fV r_i64 (IntKind.i64.wrap (s1.2.1 + v8.Day))), (6, fV r_i64 (IntKind.i64.wrap (s1.2.2.1 + v9.Value))), (7, fV r_i64 (IntKind.i64.wrap (s1.2.2.2.1 + (IntKind.i64.wrap (v10.Day * v11.Day))))), (8, fV r_i64 (IntKind.i64.wrap (s1.2.2.2.2.1 + (IntKind.i64.wrap (v12.Day * v13.Value))))), (9, fV r_i64 (IntKind.i64.wrap (s1.2.2.2.2.2 + 1)))]) (mkO [(2, boxE 49 GRat.rep s1.1)]) F 115 a w := hAt
              cases H
              exact ⟨rfl, hAt.pick [0, 4, 5, 6, 7, 8, 9] [2]⟩
        · intro hb16
          have H := iteF hb16 H
          refine wp_exit ?_
          refine then_x ?_
          cases H
          exact ⟨ex_ne, rfl, hAt.pick [4, 5, 6, 7, 8] [2]⟩
      · exact hAt.pick [0, 4, 5, 6, 7, 8, 9] [2]
      · clear hAt
        intro e a w hp
        cases o17 with
        | inl l19 =>
          rw [Sum.elim_inl] at H
          obtain ⟨rfl, hAt⟩ := hp
          refine blk_eq ?_
          refine then_n ?_
          refine wp_seq ?_
          obtain ⟨v21, hv21, H⟩ := bindE H
          refine reg [⟨fV r_i64 (List.length x0 : Int), [], [(4, none)], []⟩,
              ⟨fV r_i64 l19.2.2.2.2, [], [(8, none)], []⟩,
              ⟨fV r_i64 (IntKind.i64.wrap ((List.length x0 : Int) * l19.2.2.2.2)), [], [(100, some 0), (101, some 1)], []⟩,
              ⟨fV r_i64 l19.2.1, [], [(5, none)], []⟩,
              ⟨fV r_i64 l19.2.2.1, [], [(6, none)], []⟩,
              ⟨fV r_i64 (IntKind.i64.wrap (l19.2.1 * l19.2.2.1)), [], [(103, some 3), (104, some 4)], []⟩,
              ⟨fV r_i64 (IntKind.i64.wrap ((IntKind.i64.wrap ((List.length x0 : Int) * l19.2.2.2.2)) - (IntKind.i64.wrap (l19.2.1 * l19.2.2.1)))), [], [(102, some 2), (105, some 5)], []⟩,
              ⟨fV r_i64 (List.length x0 : Int), [], [(4, none)], []⟩,
              ⟨fV r_i64 l19.2.2.2.1, [], [(7, none)], []⟩,
              ⟨fV r_i64 (IntKind.i64.wrap ((List.length x0 : Int) * l19.2.2.2.1)), [], [(107, some 7), (108, some 8)], []⟩,
              ⟨fV r_i64 l19.2.1, [], [(5, none)], []⟩,
              ⟨fV r_i64 l19.2.1, [], [(5, none)], []⟩,
              ⟨fV r_i64 (IntKind.i64.wrap (l19.2.1 * l19.2.1)), [], [(110, some 10), (111, some 11)], []⟩,
              ⟨fV r_i64 (IntKind.i64.wrap ((IntKind.i64.wrap ((List.length x0 : Int) * l19.2.2.2.1)) - (IntKind.i64.wrap (l19.2.1 * l19.2.1)))), [], [(109, some 9), (112, some 12)], []⟩,
              ⟨fV GRat.rep v21, [], [(106, some 6), (113, some 13)], []⟩,
              ⟨Fact.triv, [(2, some (boxE 49 GRat.rep v21))], [(114, some 14)], [(2, none)]⟩,
              ⟨fV r_i64 0, [], [], []⟩] [3] [2] hAt
              ⟨ok_move rfl opd0,
              ok_move rfl opd0,
              ok_mul rfl opd0 opd1,
              ok_move rfl opd0,
              ok_move rfl opd0,
              ok_mul rfl opd0 opd1,
              ok_sub rfl opd0 opd1,
              ok_move rfl opd0,
              ok_move rfl opd0,
              ok_mul rfl opd0 opd1,
              ok_move rfl opd0,
              ok_move rfl opd0,
              ok_mul rfl opd0 opd1,
              ok_sub rfl opd0 opd1,
              ok_call (ok_f_base_Q N (IntKind.i64.wrap ((IntKind.i64.wrap ((List.length x0 : Int) * l19.2.2.2.2)) - (IntKind.i64.wrap (l19.2.1 * l19.2.2.1)))) (IntKind.i64.wrap ((IntKind.i64.wrap ((List.length x0 : Int) * l19.2.2.2.1)) - (IntKind.i64.wrap (l19.2.1 * l19.2.1)))) _ hv21) Try.func72 (by kernel_rfl) (by kernel_rfl) rfl ⟨opd0, ⟨opd1, trivial⟩⟩,
              ok_storeBox ty49 rfl rfl opd0,
              ok_assign rfl opdI, trivial⟩ (by kernel_rfl) ?_
          clear hAt
          intro a w hAt
          replace hAt : At B h0 (mkG [(3, fV r_i64 0)]) (mkO [(2, boxE 49 GRat.rep v21)]) F 115 a w := hAt
          refine then_n ?_
          refine wp_ret ?_
          cases H
          exact ret2 rfl (rv_cell ty49 rfl) (rv_tmp rfl rfl) hAt
        | inr r20 =>
          rw [Sum.elim_inr] at H
          replace hp := hp
          obtain ⟨rfl, hAt⟩ := hp
          refine blk_r ?_
          refine then_r ?_
          cases H
          exact ret2 rfl (rv_cell ty49 rfl) (rv_tmp rfl rfl) hAt
theorem ok_f_base_Mod (N : Nat) (x0 : Int) (x1 : Int) (r : Int) (H : f_base_Mod N x0 x1 = some r) : FnOk Try.prog 36 [fV r_i64 x0, fV r_i64 x1] (fV r_i64 r) := by
  unfold f_base_Mod at H
  refine fn_enter Try.func36 rfl rfl (by kernel_rfl) ?_
  intro κ B h0 F a w hAt
  refine wp_seq ?_
  refine reg [⟨fV r_i64 0, [], [], []⟩] [0, 1] [] hAt
      ⟨ok_assign rfl opdI, trivial⟩ (by kernel_rfl) ?_
  clear hAt
  intro a w hAt
  replace hAt : At B h0 (mkG [(0, fV r_i64 x0), (1, fV r_i64 x1)]) (mkO []) F 15 a w := hAt
  refine then_n ?_
  refine wp_seq ?_
  obtain ⟨v1, hv1, H⟩ := bindE H
  refine reg [⟨fV r_i64 x0, [], [(0, none)], []⟩,
      ⟨fV r_i64 x1, [], [(1, none)], []⟩,
      ⟨fV r_i64 v1, [], [(6, some 0), (7, some 1)], []⟩,
      ⟨fV r_i64 v1, [], [(8, some 2)], []⟩] [1, 5] [] hAt
      ⟨ok_move rfl opd0,
      ok_move rfl opd0,
      ok_rem hv1 rfl opd0 opd1,
      ok_assign rfl opd0, trivial⟩ (by kernel_rfl) ?_
  clear hAt
  intro a w hAt
  replace hAt : At B h0 (mkG [(1, fV r_i64 x1), (5, fV r_i64 v1)]) (mkO []) F 15 a w := hAt
  refine then_n ?_
  refine wp_seq ?_
  refine wp_seq ?_
  refine reg [⟨fV r_i64 v1, [], [(5, none)], []⟩,
      ⟨fV Rep.bool (cmpI .lss v1 0), [], [(9, some 0)], []⟩] [1, 5, 10] [] hAt
      ⟨ok_move rfl opd0,
      ok_cmp (op := .lss) (by simp) rfl rfl opd0 opdI, trivial⟩ (by kernel_rfl) ?_
  clear hAt
  intro a w hAt
  replace hAt : At B h0 (mkG [(1, fV r_i64 x1), (5, fV r_i64 v1), (10, fV Rep.bool (cmpI .lss v1 0))]) (mkO []) F 15 a w := hAt
  refine then_n ?_
  refine wp_if hAt (by rfl) ?_ ?_
  · intro hb2
    have H := iteT hb2 H
    refine reg [⟨fV r_i64 v1, [], [(5, none)], []⟩,
        ⟨fV r_i64 x1, [], [(1, none)], []⟩,
        ⟨fV r_i64 (IntKind.i64.wrap (v1 + x1)), [], [(11, some 0), (12, some 1)], []⟩,
        ⟨fV r_i64 (IntKind.i64.wrap (v1 + x1)), [], [(13, some 2)], []⟩] [5] [] hAt
        ⟨ok_move rfl opd0,
        ok_move rfl opd0,
        ok_add rfl opd0 opd1,
        ok_assign rfl opd0, trivial⟩ (by kernel_rfl) ?_
    clear hAt
    intro a w hAt
    replace hAt : At B h0 (mkG [(5, fV r_i64 (IntKind.i64.wrap (v1 + x1)))]) (mkO []) F 15 a w := hAt
    refine then_n ?_
    refine wp_seq ?_
    refine reg [⟨fV r_i64 (IntKind.i64.wrap (v1 + x1)), [], [(5, none)], []⟩,
        ⟨fV r_i64 (IntKind.i64.wrap (v1 + x1)), [], [(14, some 0)], []⟩] [4] [] hAt
        ⟨ok_move rfl opd0,
        ok_assign rfl opd0, trivial⟩ (by kernel_rfl) ?_
    clear hAt
    intro a w hAt
    replace hAt : At B h0 (mkG [(4, fV r_i64 (IntKind.i64.wrap (v1 + x1)))]) (mkO []) F 15 a w := hAt
    refine then_n ?_
    refine wp_ret ?_
    cases H
    exact ret1 rfl (rv_tmp rfl rfl) hAt
  · intro hb2
    have H := iteF hb2 H
    refine wp_skip ?_
    refine then_n ?_
    refine wp_seq ?_
    refine reg [⟨fV r_i64 v1, [], [(5, none)], []⟩,
        ⟨fV r_i64 v1, [], [(14, some 0)], []⟩] [4] [] hAt
        ⟨ok_move rfl opd0,
        ok_assign rfl opd0, trivial⟩ (by kernel_rfl) ?_
    clear hAt
    intro a w hAt
    replace hAt : At B h0 (mkG [(4, fV r_i64 v1)]) (mkO []) F 15 a w := hAt
    refine then_n ?_
    refine wp_ret ?_
    cases H
    exact ret1 rfl (rv_tmp rfl rfl) hAt
theorem ok_f_law09_SurveyTrends (N : Nat) (x0 : (List GReading)) (x1 : Int) (x2 : Int) (r : Bool) (H : f_law09_SurveyTrends N x0 x1 x2 = some r) : FnOk Try.prog 5 [fV (Rep.slice GReading.rep) x0, fV r_i64 x1, fV r_i64 x2] (fV Rep.bool r) := by
  unfold f_law09_SurveyTrends at H
  refine fn_enter Try.func5 rfl rfl (by kernel_rfl) ?_
  intro κ B h0 F a w hAt
  refine wp_seq ?_
  refine reg [⟨fV Rep.bool false, [], [], []⟩] [0, 1, 2] [] hAt
      ⟨ok_assign rfl opdB, trivial⟩ (by kernel_rfl) ?_
  clear hAt
  intro a w hAt
  replace hAt : At B h0 (mkG [(0, fV (Rep.slice GReading.rep) x0), (1, fV r_i64 x1), (2, fV r_i64 x2)]) (mkO []) F 89 a w := hAt
  refine then_n ?_
  refine wp_seq ?_
  refine wp_seq ?_
  obtain ⟨v1, hv1, H⟩ := bindE H
  refine reg [⟨fV Rep.bool v1, [], [], []⟩,
      ⟨fV Rep.bool (!v1), [], [(15, some 0)], []⟩] [0, 1, 2, 16] [] hAt
      ⟨ok_call (ok_f_law09_awake N _ hv1) Try.func14 (by kernel_rfl) (by kernel_rfl) rfl trivial,
      ok_not rfl opd0, trivial⟩ (by kernel_rfl) ?_
  clear hAt
  intro a w hAt
  replace hAt : At B h0 (mkG [(0, fV (Rep.slice GReading.rep) x0), (1, fV r_i64 x1), (2, fV r_i64 x2), (16, fV Rep.bool (!v1))]) (mkO []) F 89 a w := hAt
  refine then_n ?_
  refine wp_if hAt (by rfl) ?_ ?_
  · intro hb20
    have H := iteT hb20 H
    refine wp_seq ?_
    refine reg [⟨fV Rep.bool false, [], [], []⟩] [6] [] hAt
        ⟨ok_assign rfl opdB, trivial⟩ (by kernel_rfl) ?_
    clear hAt
    intro a w hAt
    replace hAt : At B h0 (mkG [(6, fV Rep.bool false)]) (mkO []) F 89 a w := hAt
    refine then_n ?_
    refine wp_ret ?_
    refine then_r ?_
    cases H
    exact ret1 rfl (rv_tmp rfl rfl) hAt
  · intro hb20
    have H := iteF hb20 H
    refine wp_skip ?_
    refine then_n ?_
    refine wp_seq ?_
    refine wp_seq ?_
    refine reg [⟨fV (Rep.slice GReading.rep) x0, [], [(0, none)], []⟩,
        ⟨fV r_i64 (List.length x0 : Int), [], [(17, some 0)], []⟩,
        ⟨fV Rep.bool (cmpI .gtr (List.length x0 : Int) 45), [], [(18, some 1)], []⟩] [0, 1, 2, 19] [] hAt
        ⟨ok_move rfl opd0,
        ok_len un58 rfl opd0,
        ok_cmp (op := .gtr) (by simp) rfl rfl opd0 opdI, trivial⟩ (by kernel_rfl) ?_
    clear hAt
    intro a w hAt
    replace hAt : At B h0 (mkG [(0, fV (Rep.slice GReading.rep) x0), (1, fV r_i64 x1), (2, fV r_i64 x2), (19, fV Rep.bool (cmpI .gtr (List.length x0 : Int) 45))]) (mkO []) F 89 a w := hAt
    refine then_n ?_
    refine wp_if hAt (by rfl) ?_ ?_
    · intro hb19
      have H := iteT hb19 H
      refine wp_seq ?_
      refine reg [⟨fV Rep.bool true, [], [], []⟩] [6] [] hAt
          ⟨ok_assign rfl opdB, trivial⟩ (by kernel_rfl) ?_
      clear hAt
      intro a w hAt
      replace hAt : At B h0 (mkG [(6, fV Rep.bool true)]) (mkO []) F 89 a w := hAt
      refine then_n ?_
      refine wp_ret ?_
      refine then_r ?_
      cases H
      exact ret1 rfl (rv_tmp rfl rfl) hAt
    · intro hb19
      have H := iteF hb19 H
      refine wp_skip ?_
      refine then_n ?_
      refine wp_seq ?_
      obtain ⟨v2, hv2, H⟩ := bindE H
      refine reg [⟨fV (Rep.slice GReading.rep) x0, [], [(0, none)], []⟩,
          ⟨fT2 (fV GRat.rep v2.1) (fV r_i64 v2.2), [], [(21, some 0)], []⟩,
          ⟨fT2 (fV GRat.rep v2.1) (fV r_i64 v2.2), [], [(22, some 1)], []⟩,
          ⟨fV GRat.rep v2.1, [], [(20, some 2)], []⟩,
          ⟨fV r_i64 v2.2, [], [(20, some 2)], []⟩,
          ⟨Fact.triv, [(7, some (boxE 49 GRat.rep (⟨(⟨false, []⟩ : GInt), (⟨false, []⟩ : GInt)⟩ : GRat)))], [], []⟩,
          ⟨Fact.triv, [(7, some (boxE 49 GRat.rep v2.1))], [(23, some 3)], [(7, some 5)]⟩,
          ⟨fV r_i64 v2.2, [], [(24, some 4)], []⟩] [0, 1, 2, 8] [7] hAt
          ⟨ok_move rfl opd0,
          ok_call (ok_f_survey_Trend N x0 _ hv2) Try.func34 (by kernel_rfl) (by kernel_rfl) rfl ⟨opd0, trivial⟩,
          ok_move rfl opd0,
          ok_ext20 rfl rfl opd0,
          ok_ext21 rfl rfl opd0,
          ok_alloc ty49 rfl rfl,
          ok_storeBox ty49 rfl rfl opd0,
          ok_assign rfl opd0, trivial⟩ (by kernel_rfl) ?_
      clear hAt
      intro a w hAt
      replace hAt : At B h0 (mkG [(0, fV (Rep.slice GReading.rep) x0), (1, fV r_i64 x1), (2, fV r_i64 x2), (8, fV r_i64 v2.2)]) (mkO [(7, boxE 49 GRat.rep v2.1)]) F 89 a w := hAt
      refine then_n ?_
      refine wp_seq ?_
      obtain ⟨v3, hv3, H⟩ := bindE H
      refine reg [⟨fV (Rep.slice GReading.rep) x0, [], [(0, none)], []⟩,
          ⟨fT2 (fV GRat.rep v3.1) (fV r_i64 v3.2), [], [(26, some 0)], []⟩,
          ⟨fT2 (fV GRat.rep v3.1) (fV r_i64 v3.2), [], [(27, some 1)], []⟩,
          ⟨fV GRat.rep v3.1, [], [(25, some 2)], []⟩,
          ⟨fV r_i64 v3.2, [], [(25, some 2)], []⟩,
          ⟨Fact.triv, [(9, some (boxE 49 GRat.rep (⟨(⟨false, []⟩ : GInt), (⟨false, []⟩ : GInt)⟩ : GRat)))], [], []⟩,
          ⟨Fact.triv, [(9, some (boxE 49 GRat.rep v3.1))], [(28, some 3)], [(9, some 5)]⟩,
          ⟨fV r_i64 v3.2, [], [(29, some 4)], []⟩] [0, 1, 2, 8, 10] [7, 9] hAt
          ⟨ok_move rfl opd0,
          ok_call (ok_f_ref09_Trend N x0 _ hv3) Try.func35 (by kernel_rfl) (by kernel_rfl) rfl ⟨opd0, trivial⟩,
          ok_move rfl opd0,
          ok_ext20 rfl rfl opd0,
          ok_ext21 rfl rfl opd0,
          ok_alloc ty49 rfl rfl,
          ok_storeBox ty49 rfl rfl opd0,
          ok_assign rfl opd0, trivial⟩ (by kernel_rfl) ?_
      clear hAt
      intro a w hAt
      replace hAt : At B h0 (mkG [(0, fV (Rep.slice GReading.rep) x0), (1, fV r_i64 x1), (2, fV r_i64 x2), (8, fV r_i64 v2.2), (10, fV r_i64 v3.2)]) (mkO [(7, boxE 49 GRat.rep v2.1), (9, boxE 49 GRat.rep v3.1)]) F 89 a w := hAt
      refine then_n ?_
      refine wp_seq ?_
      refine wp_seq ?_
      obtain ⟨v4, hv4, H⟩ := bindE H
      refine reg [⟨fV GRat.rep v2.1, [], [], [(7, none)]⟩,
          ⟨fV GRat.rep v3.1, [], [], [(9, none)]⟩,
          ⟨fV Rep.bool v4, [], [(30, some 0), (31, some 1)], []⟩,
          ⟨fV Rep.bool (!v4), [], [(32, some 2)], []⟩,
          ⟨fV Rep.bool (!v4), [], [(33, some 3)], []⟩,
          ⟨Fact.when ((!(!v4)) = true) (fV r_i64 v2.2), [], [(34, some 4), (8, none)], []⟩,
          ⟨Fact.when ((!(!v4)) = true) (fV r_i64 v3.2), [], [(34, some 4), (10, none)], []⟩,
          ⟨Fact.when ((!(!v4)) = true) (fV Rep.bool (cmpI .neq v2.2 v3.2)), [], [(34, some 4), (35, some 5), (36, some 6)], []⟩,
          ⟨fV Rep.bool ((!v4) || (cmpI .neq v2.2 v3.2)), [], [(34, some 4), (37, some 7)], []⟩] [0, 1, 2, 10, 38] [] hAt
          ⟨ok_loadBox ty49 rfl,
          ok_loadBox ty49 rfl,
          ok_call (ok_f_base_SameRat N v2.1 v3.1 _ hv4) Try.func30 (by kernel_rfl) (by kernel_rfl) rfl ⟨opd0, ⟨opd1, trivial⟩⟩,
          ok_not rfl opd0,
          ok_move rfl opd0,
          obl_tf rfl rfl rfl rfl rfl rfl rfl (fun hg => ok_move rfl opd1),
          obl_tf rfl rfl rfl rfl rfl rfl rfl (fun hg => ok_move rfl opd1),
          obl_tf rfl rfl rfl rfl rfl rfl rfl (fun hg => ok_cmp (op := .neq) (by simp) rfl rfl (opd1.on hg) (opd2.on hg)),
          ok_or rfl opd0 (fun e => (opd1.on (notT e))), trivial⟩ (by kernel_rfl) ?_
      clear hAt
      intro a w hAt
      replace hAt : At B h0 (mkG [(0, fV (Rep.slice GReading.rep) x0), (1, fV r_i64 x1), (2, fV r_i64 x2), (10, fV r_i64 v3.2), (38, fV Rep.bool ((!v4) || (cmpI .neq v2.2 v3.2)))]) (mkO []) F 89 a w := hAt
      refine then_n ?_
      refine wp_if hAt (by rfl) ?_ ?_
      · intro hb18
        have H := iteT hb18 H
        refine wp_seq ?_
        refine reg [⟨fV Rep.bool false, [], [], []⟩] [6] [] hAt
            ⟨ok_assign rfl opdB, trivial⟩ (by kernel_rfl) ?_
        clear hAt
        intro a w hAt
        replace hAt : At B h0 (mkG [(6, fV Rep.bool false)]) (mkO []) F 89 a w := hAt
        refine then_n ?_
        refine wp_ret ?_
        refine then_r ?_
        cases H
        exact ret1 rfl (rv_tmp rfl rfl) hAt
      · intro hb18
        have H := iteF hb18 H
        refine wp_skip ?_
        refine then_n ?_
        refine wp_seq ?_
        obtain ⟨v5, hv5, H⟩ := bindE H
        obtain ⟨v6, hv6, H⟩ := bindE H
        refine reg [⟨fV r_i64 x1, [], [(1, none)], []⟩,
            ⟨fV r_i64 v5, [], [(39, some 0)], []⟩,
            ⟨fV r_i64 x2, [], [(2, none)], []⟩,
            ⟨fV r_i64 v6, [], [(41, some 2)], []⟩,
            ⟨fV r_i64 (IntKind.i64.wrap (v6 - 4)), [], [(42, some 3)], []⟩,
            ⟨fV r_i64 v5, [], [(40, some 1)], []⟩,
            ⟨fV r_i64 (IntKind.i64.wrap (v6 - 4)), [], [(43, some 4)], []⟩] [0, 1, 2, 10] [] hAt
            ⟨ok_move rfl opd0,
            ok_call (ok_f_base_Mod N x1 1000 _ hv5) Try.func36 (by kernel_rfl) (by kernel_rfl) rfl ⟨opd0, ⟨opdI, trivial⟩⟩,
            ok_move rfl opd0,
            ok_call (ok_f_base_Mod N x2 9 _ hv6) Try.func36 (by kernel_rfl) (by kernel_rfl) rfl ⟨opd0, ⟨opdI, trivial⟩⟩,
            ok_sub rfl opd0 opdI,
            ok_assign rfl opd0,
            ok_assign rfl opd0, trivial⟩ (by kernel_rfl) ?_
        clear hAt
        intro a w hAt
        replace hAt : At B h0 (mkG [(0, fV (Rep.slice GReading.rep) x0), (1, fV r_i64 v5), (2, fV r_i64 (IntKind.i64.wrap (v6 - 4))), (10, fV r_i64 v3.2)]) (mkO []) F 89 a w := hAt
        refine then_n ?_
        refine wp_seq ?_
        refine reg [⟨fV (Rep.slice GReading.rep) [], [(11, some (tipE 64 GReading.rep.sz))], [], []⟩] [0, 1, 2, 10, 11] [11] hAt
            ⟨ok_nilTip rfl (.inl rfl), trivial⟩ (by kernel_rfl) ?_
        clear hAt
        intro a w hAt
        replace hAt : At B h0 (mkG [(0, fV (Rep.slice GReading.rep) x0), (1, fV r_i64 v5), (2, fV r_i64 (IntKind.i64.wrap (v6 - 4))), (10, fV r_i64 v3.2), (11, fV (Rep.slice GReading.rep) [])]) (mkO [(11, tipE 64 GReading.rep.sz)]) F 89 a w := hAt
        refine then_n ?_
        refine wp_seq ?_
        refine wp_seq ?_
        refine reg [⟨fV r_i64 0, [], [], []⟩] [0, 1, 2, 10, 11, 12] [11] hAt
            ⟨ok_assign rfl opdI, trivial⟩ (by kernel_rfl) ?_
        clear hAt
        intro a w hAt
        replace hAt : At B h0 (mkG [(0, fV (Rep.slice GReading.rep) x0), (1, fV r_i64 v5), (2, fV r_i64 (IntKind.i64.wrap (v6 - 4))), (10, fV r_i64 v3.2), (11, fV (Rep.slice GReading.rep) []), (12, fV r_i64 0)]) (mkO [(11, tipE 64 GReading.rep.sz)]) F 89 a w := hAt
        refine then_n ?_
        refine wp_block ?_
        obtain ⟨o12, hl13, H⟩ := bindE H
        refine wp_mono (wp_loopN (f := f_law09_SurveyTrends_L1 N x0 v3 v5 v6) (fun (s7 : ((List GReading) × Int)) a w => At B h0 (mkG [(0, fV (Rep.slice GReading.rep) x0), (1, fV r_i64 v5), (2, fV r_i64 (IntKind.i64.wrap (v6 - 4))), (10, fV r_i64 v3.2), (11, fV (Rep.slice GReading.rep) s7.1), (12, fV r_i64 s7.2)]) (mkO [(11, tipE 64 GReading.rep.sz)]) F 89 a w) (fun o e a w => (fun v => e = .exit 0 ∧ At B h0 (mkG [(2, fV r_i64 (IntKind.i64.wrap (v6 - 4))), (10, fV r_i64 v3.2), (11, fV (Rep.slice GReading.rep) v)]) (mkO [(11, tipE 64 GReading.rep.sz)]) F 89 a w) o) ?_ N ([], 0) o12 _ _ hl13 ?_) ?_
        · clear H hAt hl13
          intro s7 r17 a w H hAt
          unfold f_law09_SurveyTrends_L1 at H
          refine wp_seq ?_
          refine wp_seq ?_
          refine reg [⟨fV r_i64 s7.2, [], [(12, none)], []⟩,
              ⟨fV (Rep.slice GReading.rep) x0, [], [(0, none)], []⟩,
              ⟨fV r_i64 (List.length x0 : Int), [], [(45, some 1)], []⟩,
              ⟨fV Rep.bool (cmpI .lss s7.2 (List.length x0 : Int)), [], [(44, some 0), (46, some 2)], []⟩,
              ⟨fV Rep.bool (cmpI .lss s7.2 (List.length x0 : Int)), [], [(47, some 3)], []⟩,
              ⟨Fact.when ((cmpI .lss s7.2 (List.length x0 : Int)) = true) (fV r_i64 v3.2), [], [(48, some 4), (10, none)], []⟩,
              ⟨Fact.when ((cmpI .lss s7.2 (List.length x0 : Int)) = true) (fV Rep.bool (cmpI .eql v3.2 0)), [], [(48, some 4), (49, some 5)], []⟩,
              ⟨fV Rep.bool ((cmpI .lss s7.2 (List.length x0 : Int)) && (cmpI .eql v3.2 0)), [], [(48, some 4), (50, some 6)], []⟩] [0, 1, 2, 10, 11, 12, 51] [11] hAt
              ⟨ok_move rfl opd0,
              ok_move rfl opd0,
              ok_len un58 rfl opd0,
              ok_cmp (op := .lss) (by simp) rfl rfl opd0 opd1,
              ok_move rfl opd0,
              obl_tt rfl rfl rfl rfl rfl rfl rfl (fun hg => ok_move rfl opd1),
              obl_tt rfl rfl rfl rfl rfl rfl rfl (fun hg => ok_cmp (op := .eql) (by simp) rfl rfl (opd1.on hg) opdI),
              ok_and rfl opd0 (fun e => (opd1.on e)), trivial⟩ (by kernel_rfl) ?_
          clear hAt
          intro a w hAt
          replace hAt : At B h0 (mkG [(0, fV (Rep.slice GReading.rep) x0), (1, fV r_i64 v5), (2, fV r_i64 (IntKind.i64.wrap (v6 - 4))), (10, fV r_i64 v3.2), (11, fV (Rep.slice GReading.rep) s7.1), (12, fV r_i64 s7.2), (51, fV Rep.bool ((cmpI .lss s7.2 (List.length x0 : Int)) && (cmpI .eql v3.2 0)))]) (mkO [(11, tipE 64 GReading.rep.sz)]) F 89 a w := hAt
          refine then_n ?_
          refine wp_if hAt (by rfl) ?_ ?_
          · intro hb11
            have H := iteT hb11 H
            refine wp_skip ?_
            refine then_n ?_
            refine wp_seq ?_
            refine wp_block ?_
            obtain ⟨v8, hv8, H⟩ := bindE H
            obtain ⟨v9, hv9, H⟩ := bindE H
            obtain ⟨v10, hv10, H⟩ := bindE H
            refine regd [⟨fV (Rep.slice GReading.rep) s7.1, [(11, none), (54, some (tipE 64 GReading.rep.sz))], [(11, none)], [(11, none)]⟩,
                ⟨fV (Rep.slice GReading.rep) x0, [], [(0, none)], []⟩,
                ⟨fV r_i64 s7.2, [], [(12, none)], []⟩,
                ⟨fRef GReading.rep v8, [], [(55, some 1), (56, some 2)], []⟩,
                ⟨fRef r_i64 v8.Day, [], [(57, some 3)], []⟩,
                ⟨fV r_i64 v8.Day, [], [(58, some 4)], []⟩,
                ⟨fV r_i64 v5, [], [(1, none)], []⟩,
                ⟨fV r_i64 (IntKind.i64.wrap (v6 - 4)), [], [(2, none)], []⟩,
                ⟨fV (Rep.slice GReading.rep) x0, [], [(0, none)], []⟩,
                ⟨fV r_i64 s7.2, [], [(12, none)], []⟩,
                ⟨fRef GReading.rep v9, [], [(62, some 8), (63, some 9)], []⟩,
                ⟨fRef r_i64 v9.Day, [], [(64, some 10)], []⟩,
                ⟨fV r_i64 v9.Day, [], [(65, some 11)], []⟩,
                ⟨fV r_i64 (IntKind.i64.wrap ((IntKind.i64.wrap (v6 - 4)) * v9.Day)), [], [(61, some 7), (66, some 12)], []⟩,
                ⟨fV r_i64 (IntKind.i64.wrap (v5 + (IntKind.i64.wrap ((IntKind.i64.wrap (v6 - 4)) * v9.Day)))), [], [(60, some 6), (67, some 13)], []⟩,
                ⟨fV GReading.rep (⟨v8.Day, (IntKind.i64.wrap (v5 + (IntKind.i64.wrap ((IntKind.i64.wrap (v6 - 4)) * v9.Day))))⟩ : GReading), [], [(59, some 5), (68, some 14)], []⟩,
                ⟨fV (Rep.slice GReading.rep) [(⟨v8.Day, (IntKind.i64.wrap (v5 + (IntKind.i64.wrap ((IntKind.i64.wrap (v6 - 4)) * v9.Day))))⟩ : GReading)], [], [(69, some 15)], []⟩,
                ⟨fV (Rep.slice GReading.rep) v10, [(54, none), (71, some (tipE 64 GReading.rep.sz))], [(54, some 0), (70, some 16)], [(54, some 0)]⟩,
                ⟨fV (Rep.slice GReading.rep) v10, [(71, none), (11, some (tipE 64 GReading.rep.sz))], [(71, some 17)], [(71, some 17)]⟩] [0, 1, 2, 3, 4, 5, 6, 7, 8, 9, 10, 11, 12, 13, 14, 15, 16, 17, 18] [0, 1, 2, 3, 4, 5, 6, 7, 8, 9, 10, 11, 12, 13, 14, 15, 16, 17, 18] [0, 1, 2, 10, 11, 12] [11] hAt
                ⟨ok_moveOwn rfl rfl (.inl rfl) opd0,
                ok_move rfl opd0,
                ok_move rfl opd0,
                ok_index ty64 un58 hv8 rfl opd0 opd1,
                ok_field GReading.l0 fo64_0 rfl opd0,
                ok_load ty3 rfl opd0,
                ok_move rfl opd0,
                ok_move rfl opd0,
                ok_move rfl opd0,
                ok_move rfl opd0,
                ok_index ty64 un58 hv9 rfl opd0 opd1,
                ok_field GReading.l0 fo64_0 rfl opd0,
                ok_load ty3 rfl opd0,
                ok_mul rfl opd0 opd1,
                ok_add rfl opd0 opd1,
                ok_build ty64 rfl pl64 rfl (fillC GReading.l0 rfl opd0 (fillC GReading.l1 rfl opd1 fillN)),
                ok_buildSlice ty64 un58 rfl rfl (fillC (Lens.arr _ _ 0 (by decide)) rfl opd0 fillN),
                ok_append hv10 el64 un58 rfl rfl rfl opd0 opd1,
                ok_moveOwn rfl rfl (.inr rfl) opd0, trivial⟩ (by kernel_rfl) ?_
            clear hAt
            intro a w hAt
            replace hAt : At B h0 (mkG [(0, fV (Rep.slice GReading.rep) x0), (1, fV r_i64 v5), (2, fV r_i64 (IntKind.i64.wrap (v6 - 4))), (10, fV r_i64 v3.2), (11, fV (Rep.slice GReading.rep) v10), (12, fV r_i64 s7.2)]) (mkO [(11, tipE 64 GReading.rep.sz)]) F 89 a w := hAt
            refine blk_n ?_
            refine then_n ?_
            refine reg [⟨fV r_i64 s7.2, [], [(12, none)], []⟩,
                ⟨fV r_i64 (IntKind.i64.wrap (s7.2 + 1)), [], [(52, some 0)], []⟩,
                ⟨fV r_i64 (IntKind.i64.wrap (s7.2 + 1)), [], [(53, some 1)], []⟩] [0, 1, 2, 10, 11, 12] [11] hAt
                ⟨ok_move rfl opd0,
                ok_add rfl opd0 opdI,
                ok_assign rfl opd0, trivial⟩ (by kernel_rfl) ?_
            clear hAt
            intro a w hAt
            replace hAt : At B h0 (mkG [(0, fV (Rep.slice GReading.rep) x0), (1, fV r_i64 v5), (2, fV r_i64 (IntKind.i64.wrap (v6 - 4))), (10, fV r_i64 v3.2), (11, fV (Rep.slice GReading.rep) v10), (12, fV r_i64 (IntKind.i64.wrap (s7.2 + 1)))]) (mkO [(11, tipE 64 GReading.rep.sz)]) F 89 a w := hAt
            cases H
            exact ⟨rfl, hAt.pick [0, 1, 2, 10, 11, 12] [11]⟩
          · intro hb11
            have H := iteF hb11 H
            refine wp_exit ?_
            refine then_x ?_
            cases H
            exact ⟨ex_ne, rfl, hAt.pick [2, 10, 11] [11]⟩
        · exact hAt.pick [0, 1, 2, 10, 11, 12] [11]
        · clear hAt
          intro e a w hp
          obtain ⟨rfl, hAt⟩ := hp
          refine blk_eq ?_
          refine then_n ?_
          refine wp_seq ?_
          obtain ⟨v14, hv14, H⟩ := bindE H
          refine reg [⟨fV (Rep.slice GReading.rep) o12, [], [(11, none)], []⟩,
              ⟨fT2 (fV GRat.rep v14.1) (fV r_i64 v14.2), [], [(73, some 0)], []⟩,
              ⟨fT2 (fV GRat.rep v14.1) (fV r_i64 v14.2), [], [(74, some 1)], []⟩,
              ⟨fV GRat.rep v14.1, [], [(72, some 2)], []⟩,
              ⟨fV r_i64 v14.2, [], [(72, some 2)], []⟩,
              ⟨Fact.triv, [(13, some (boxE 49 GRat.rep (⟨(⟨false, []⟩ : GInt), (⟨false, []⟩ : GInt)⟩ : GRat)))], [], []⟩,
              ⟨Fact.triv, [(13, some (boxE 49 GRat.rep v14.1))], [(75, some 3)], [(13, some 5)]⟩,
              ⟨fV r_i64 v14.2, [], [(76, some 4)], []⟩] [2, 10, 14] [13] hAt
              ⟨ok_move rfl opd0,
              ok_call (ok_f_survey_Trend N o12 _ hv14) Try.func34 (by kernel_rfl) (by kernel_rfl) rfl ⟨opd0, trivial⟩,
              ok_move rfl opd0,
              ok_ext20 rfl rfl opd0,
              ok_ext21 rfl rfl opd0,
              ok_alloc ty49 rfl rfl,
              ok_storeBox ty49 rfl rfl opd0,
              ok_assign rfl opd0, trivial⟩ (by kernel_rfl) ?_
          clear hAt
          intro a w hAt
          replace hAt : At B h0 (mkG [(2, fV r_i64 (IntKind.i64.wrap (v6 - 4))), (10, fV r_i64 v3.2), (14, fV r_i64 v14.2)]) (mkO [(13, boxE 49 GRat.rep v14.1)]) F 89 a w := hAt
          refine then_n ?_
          refine wp_seq ?_
          obtain ⟨v15, hv15, H⟩ := bindE H
          obtain ⟨v16, hv16, H⟩ := bindE H
          refine regd [⟨fV r_i64 v3.2, [], [(10, none)], []⟩,
              ⟨fV Rep.bool (cmpI .neq v3.2 0), [], [(77, some 0)], []⟩,
              ⟨fV Rep.bool (cmpI .neq v3.2 0), [], [(78, some 1)], []⟩,
              ⟨Fact.when ((!(cmpI .neq v3.2 0)) = true) (fV r_i64 v14.2), [], [(79, some 2), (14, none)], []⟩,
              ⟨Fact.when ((!(cmpI .neq v3.2 0)) = true) (fV Rep.bool (cmpI .eql v14.2 0)), [], [(79, some 2), (80, some 3)], []⟩,
              ⟨Fact.when ((!(cmpI .neq v3.2 0)) = true) (fV Rep.bool (cmpI .eql v14.2 0)), [], [(79, some 2), (81, some 4)], []⟩,
              ⟨Fact.when (((!(cmpI .neq v3.2 0)) && (cmpI .eql v14.2 0)) = true) (fV GRat.rep v14.1), [], [(82, some 5)], [(13, none)]⟩,
              ⟨Fact.when (((!(cmpI .neq v3.2 0)) && (cmpI .eql v14.2 0)) = true) (fV r_i64 (IntKind.i64.wrap (v6 - 4))), [], [(82, some 5), (2, none)], []⟩,
              ⟨Fact.when (((!(cmpI .neq v3.2 0)) && (cmpI .eql v14.2 0)) = true) (fV GRat.rep v15), [], [(82, some 5), (84, some 7)], []⟩,
              ⟨Fact.when (((!(cmpI .neq v3.2 0)) && (cmpI .eql v14.2 0)) = true) (fV Rep.bool v16), [], [(82, some 5), (83, some 6), (85, some 8)], []⟩,
              ⟨Fact.when ((!(cmpI .neq v3.2 0)) = true) (fV Rep.bool ((cmpI .eql v14.2 0) && v16)), [], [(79, some 2), (82, some 5), (86, some 9)], []⟩,
              ⟨fV Rep.bool ((cmpI .neq v3.2 0) || ((cmpI .eql v14.2 0) && v16)), [], [(79, some 2), (87, some 10)], []⟩,
              ⟨fV Rep.bool ((cmpI .neq v3.2 0) || ((cmpI .eql v14.2 0) && v16)), [], [(88, some 11)], []⟩] [0, 1, 2, 3, 4, 5, 6, 7, 8, 9, 10, 11, 12] [0, 1, 2, 3, 4, 5, 6, 7, 8, 9, 10, 11, 12] [6] [] hAt
              ⟨ok_move rfl opd0,
              ok_cmp (op := .neq) (by simp) rfl rfl opd0 opdI,
              ok_move rfl opd0,
              obl_tf rfl rfl rfl rfl rfl rfl rfl (fun hg => ok_move rfl opd1),
              obl_tf rfl rfl rfl rfl rfl rfl rfl (fun hg => ok_cmp (op := .eql) (by simp) rfl rfl (opd1.on hg) opdI),
              obl_tf rfl rfl rfl rfl rfl rfl rfl (fun hg => ok_move rfl (opd1.on hg)),
              obl_wt rfl rfl rfl rfl rfl rfl rfl (fun hg => ok_loadBox ty49 rfl),
              obl_wt rfl rfl rfl rfl rfl rfl rfl (fun hg => ok_move rfl opd1),
              obl_wt rfl rfl rfl rfl rfl rfl rfl (fun hg => ok_call (ok_f_base_W N (IntKind.i64.wrap (v6 - 4)) _ (iteT hg hv15)) Try.func37 (by kernel_rfl) (by kernel_rfl) rfl ⟨(opd1.on hg), trivial⟩),
              obl_wt rfl rfl rfl rfl rfl rfl rfl (fun hg => ok_call (ok_f_base_SameRat N v14.1 v15 _ (iteT hg hv16)) Try.func30 (by kernel_rfl) (by kernel_rfl) rfl ⟨(opd1.on hg), ⟨(opd2.on hg), trivial⟩⟩),
              obl_tf rfl rfl rfl rfl rfl rfl rfl (fun hg => ok_and rfl (opd1.on hg) (fun e => (opd2.on (andT hg e)))),
              ok_or rfl opd0 (fun e => (opd1.on (notT e))),
              ok_assign rfl opd0, trivial⟩ (by kernel_rfl) ?_
          clear hAt
          intro a w hAt
          replace hAt : At B h0 (mkG [(6, fV Rep.bool ((cmpI .neq v3.2 0) || ((cmpI .eql v14.2 0) && v16)))]) (mkO []) F 89 a w := hAt
          refine then_n ?_
          refine wp_ret ?_
          cases H
          exact ret1 rfl (rv_tmp rfl rfl) hAt
end Go.KB
