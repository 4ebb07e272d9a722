/- The Go functions compute what the plain functions compute. Printed by a program. No condition. -/
import Derived.Test.YtcpcedbnpieebaaGProof4
namespace Go.KB
open Go.Proofs
set_option maxRecDepth 100000
set_option linter.unusedVariables false
theorem ok_f_survey_checkTable (N : Nat) (x0 : (List GTolerance)) (r : Int) (H : f_survey_checkTable N x0 = some r) : FnOk Try.prog 85 [fV (Rep.slice GTolerance.rep) x0] (fV r_i64 r) := by
  unfold f_survey_checkTable at H
  refine fn_enter Try.func85 rfl rfl (by kernel_rfl) ?_
  intro κ B h0 F a w hAt
  refine wp_seq ?_
  refine reg [⟨fV r_i64 0, [], [], []⟩] [0] [] hAt
      ⟨ok_assign rfl opdI, trivial⟩ (by kernel_rfl) ?_
  clear hAt
  intro a w hAt
  replace hAt : At B h0 (mkG [(0, fV (Rep.slice GTolerance.rep) x0)]) (mkO []) F 43 a w := hAt
  refine then_n ?_
  refine wp_seq ?_
  refine wp_block ?_
  refine wp_seq ?_
  refine reg [⟨fV (Rep.slice GTolerance.rep) x0, [], [(0, none)], []⟩,
      ⟨fV r_i64 (List.length x0 : Int), [], [(6, some 0)], []⟩,
      ⟨fV Rep.bool (cmpI .gtr (List.length x0 : Int) 40), [], [(7, some 1)], []⟩,
      ⟨fV Rep.bool (cmpI .gtr (List.length x0 : Int) 40), [], [(8, some 2)], []⟩] [0, 5] [] hAt
      ⟨ok_move rfl opd0,
      ok_len un81 rfl opd0,
      ok_cmp (op := .gtr) (by simp) rfl rfl opd0 opdI,
      ok_assign rfl opd0, trivial⟩ (by kernel_rfl) ?_
  clear hAt
  intro a w hAt
  replace hAt : At B h0 (mkG [(0, fV (Rep.slice GTolerance.rep) x0), (5, fV Rep.bool (cmpI .gtr (List.length x0 : Int) 40))]) (mkO []) F 43 a w := hAt
  refine then_n ?_
  refine wp_if hAt (by rfl) ?_ ?_
  · intro hb14
    have H := iteT hb14 H
    refine wp_seq ?_
    refine reg [⟨fV r_i64 8, [], [], []⟩] [2] [] hAt
        ⟨ok_assign rfl opdI, trivial⟩ (by kernel_rfl) ?_
    clear hAt
    intro a w hAt
    replace hAt : At B h0 (mkG [(2, fV r_i64 8)]) (mkO []) F 43 a w := hAt
    refine then_n ?_
    refine wp_ret ?_
    refine blk_r ?_
    refine then_r ?_
    cases H
    exact ret1 rfl (rv_tmp rfl rfl) hAt
  · intro hb14
    have H := iteF hb14 H
    refine wp_seq ?_
    refine reg [⟨fV (Rep.slice GTolerance.rep) x0, [], [(0, none)], []⟩,
        ⟨fV r_i64 (List.length x0 : Int), [], [(10, some 0)], []⟩,
        ⟨fV Rep.bool (cmpI .eql (List.length x0 : Int) 0), [], [(11, some 1)], []⟩,
        ⟨fV Rep.bool (cmpI .eql (List.length x0 : Int) 0), [], [(12, some 2)], []⟩] [0, 9] [] hAt
        ⟨ok_move rfl opd0,
        ok_len un81 rfl opd0,
        ok_cmp (op := .eql) (by simp) rfl rfl opd0 opdI,
        ok_assign rfl opd0, trivial⟩ (by kernel_rfl) ?_
    clear hAt
    intro a w hAt
    replace hAt : At B h0 (mkG [(0, fV (Rep.slice GTolerance.rep) x0), (9, fV Rep.bool (cmpI .eql (List.length x0 : Int) 0))]) (mkO []) F 43 a w := hAt
    refine then_n ?_
    refine wp_if hAt (by rfl) ?_ ?_
    · intro hb13
      have H := iteT hb13 H
      refine wp_seq ?_
      refine reg [⟨fV r_i64 11, [], [], []⟩] [2] [] hAt
          ⟨ok_assign rfl opdI, trivial⟩ (by kernel_rfl) ?_
      clear hAt
      intro a w hAt
      replace hAt : At B h0 (mkG [(2, fV r_i64 11)]) (mkO []) F 43 a w := hAt
      refine then_n ?_
      refine wp_ret ?_
      refine blk_r ?_
      refine then_r ?_
      cases H
      exact ret1 rfl (rv_tmp rfl rfl) hAt
    · intro hb13
      have H := iteF hb13 H
      refine wp_skip ?_
      refine blk_n ?_
      refine then_n ?_
      refine wp_seq ?_
      refine wp_seq ?_
      refine reg [⟨fV (Rep.slice GTolerance.rep) x0, [], [(0, none)], []⟩,
          ⟨fV r_i64 (List.length x0 : Int), [], [(13, some 0)], []⟩,
          ⟨fV r_i64 0, [], [], []⟩] [0, 13, 14, 15] [] hAt
          ⟨ok_move rfl opd0,
          ok_len un81 rfl opd0,
          ok_move rfl opdI, trivial⟩ (by kernel_rfl) ?_
      clear hAt
      intro a w hAt
      replace hAt : At B h0 (mkG [(0, fV (Rep.slice GTolerance.rep) x0), (13, fV (Rep.slice GTolerance.rep) x0), (14, fV r_i64 (List.length x0 : Int)), (15, fV r_i64 0)]) (mkO []) F 43 a w := hAt
      refine then_n ?_
      refine wp_block ?_
      obtain ⟨o8, hl9, H⟩ := bindE H
      refine wp_mono (wp_loopN (f := f_survey_checkTable_L1 N x0) (fun (s1 : Int) a w => At B h0 (mkG [(0, fV (Rep.slice GTolerance.rep) x0), (13, fV (Rep.slice GTolerance.rep) x0), (14, fV r_i64 (List.length x0 : Int)), (15, fV r_i64 s1)]) (mkO []) F 43 a w) (fun o e a w => (Sum.elim (fun v => e = .exit 1 ∧ At B h0 (mkG []) (mkO []) F 43 a w) (fun v => e = .ret ∧ At B h0 (mkG [(2, fV r_i64 v)]) (mkO []) F 43 a w)) o) ?_ N 0 o8 _ _ hl9 ?_) ?_
      · clear H hAt hl9
        intro s1 r12 a w H hAt
        unfold f_survey_checkTable_L1 at H
        refine wp_seq ?_
        refine reg [⟨fV Rep.bool (cmpI .lss s1 (List.length x0 : Int)), [], [(15, none), (14, none)], []⟩] [0, 13, 14, 15, 16] [] hAt
            ⟨ok_cmp (op := .lss) (by simp) rfl rfl opd0 opd1, trivial⟩ (by kernel_rfl) ?_
        clear hAt
        intro a w hAt
        replace hAt : At B h0 (mkG [(0, fV (Rep.slice GTolerance.rep) x0), (13, fV (Rep.slice GTolerance.rep) x0), (14, fV r_i64 (List.length x0 : Int)), (15, fV r_i64 s1), (16, fV Rep.bool (cmpI .lss s1 (List.length x0 : Int)))]) (mkO []) F 43 a w := hAt
        refine then_n ?_
        refine wp_seq ?_
        refine wp_if hAt (by rfl) ?_ ?_
        · intro hb7
          have H := iteT hb7 H
          refine wp_skip ?_
          refine then_n ?_
          refine wp_seq ?_
          refine wp_block ?_
          refine wp_seq ?_
          obtain ⟨v2, hv2, H⟩ := bindE H
          refine reg [⟨fV r_i64 s1, [], [(15, none)], []⟩,
              ⟨fRef GTolerance.rep v2, [], [(13, none), (15, none)], []⟩,
              ⟨fV GTolerance.rep v2, [], [(18, some 1)], []⟩,
              ⟨Fact.triv, [(4, some (boxE 146 GTolerance.rep (⟨0, 0⟩ : GTolerance)))], [], []⟩,
              ⟨fV r_i64 s1, [], [(17, some 0)], []⟩,
              ⟨Fact.triv, [(4, some (boxE 146 GTolerance.rep v2))], [(19, some 2)], [(4, some 3)]⟩] [0, 3, 13, 14, 15] [4] hAt
              ⟨ok_move rfl opd0,
              ok_index ty146 un81 hv2 rfl opd0 opd1,
              ok_load ty146 rfl opd0,
              ok_alloc ty146 rfl rfl,
              ok_assign rfl opd0,
              ok_storeBox ty146 rfl rfl opd0, trivial⟩ (by kernel_rfl) ?_
          clear hAt
          intro a w hAt
          replace hAt : At B h0 (mkG [(0, fV (Rep.slice GTolerance.rep) x0), (3, fV r_i64 s1), (13, fV (Rep.slice GTolerance.rep) x0), (14, fV r_i64 (List.length x0 : Int)), (15, fV r_i64 s1)]) (mkO [(4, boxE 146 GTolerance.rep v2)]) F 43 a w := hAt
          refine then_n ?_
          refine wp_block ?_
          refine wp_seq ?_
          obtain ⟨v3, hv3, H⟩ := bindE H
          refine reg [⟨fOff 4 0, [], [], [(4, none)]⟩,
              ⟨fV r_i64 v2.From, [], [(21, some 0)], [(4, none)]⟩,
              ⟨fOff 4 1, [], [], [(4, none)]⟩,
              ⟨fV r_i64 v2.Most, [], [(23, some 2)], [(4, none)]⟩,
              ⟨fV (Rep.slice r_i64) [v2.From, v2.Most], [], [(22, some 1), (24, some 3)], []⟩,
              ⟨fV Rep.bool v3, [], [(25, some 4)], []⟩,
              ⟨fV Rep.bool (!v3), [], [(26, some 5)], []⟩,
              ⟨fV Rep.bool (!v3), [], [(27, some 6)], []⟩] [0, 3, 13, 14, 15, 20] [4] hAt
              ⟨ok_fieldOwn fo146_0 rfl,
              ok_loadOwn GTolerance.l0 ty3 rfl opd0,
              ok_fieldOwn fo146_1 rfl,
              ok_loadOwn GTolerance.l1 ty3 rfl opd0,
              ok_buildSlice ty3 un22 rfl rfl (fillC (Lens.arr _ _ 0 (by decide)) rfl opd0 (fillC (Lens.arr _ _ 1 (by decide)) rfl opd1 fillN)),
              ok_call (ok_f_survey_inside N 0 1000000 [v2.From, v2.Most] _ hv3) Try.func71 (by kernel_rfl) (by kernel_rfl) rfl ⟨opdI, ⟨opdI, ⟨opd0, trivial⟩⟩⟩,
              ok_not rfl opd0,
              ok_assign rfl opd0, trivial⟩ (by kernel_rfl) ?_
          clear hAt
          intro a w hAt
          replace hAt : At B h0 (mkG [(0, fV (Rep.slice GTolerance.rep) x0), (3, fV r_i64 s1), (13, fV (Rep.slice GTolerance.rep) x0), (14, fV r_i64 (List.length x0 : Int)), (15, fV r_i64 s1), (20, fV Rep.bool (!v3))]) (mkO [(4, boxE 146 GTolerance.rep v2)]) F 43 a w := hAt
          refine then_n ?_
          refine wp_if hAt (by rfl) ?_ ?_
          · intro hb6
            have H := iteT hb6 H
            refine wp_seq ?_
            refine reg [⟨fV r_i64 2, [], [], []⟩] [2] [] hAt
                ⟨ok_assign rfl opdI, trivial⟩ (by kernel_rfl) ?_
            clear hAt
            intro a w hAt
            replace hAt : At B h0 (mkG [(2, fV r_i64 2)]) (mkO []) F 43 a w := hAt
            refine then_n ?_
            refine wp_ret ?_
            refine blk_r ?_
            refine blk_r ?_
            refine then_r ?_
            cases H
            exact ⟨ret_ne, rfl, hAt.pick [2] []⟩
          · intro hb6
            have H := iteF hb6 H
            refine wp_seq ?_
            obtain ⟨v4, hv4, H⟩ := bindE H
            refine regd [⟨fV r_i64 s1, [], [(3, none)], []⟩,
                ⟨fV Rep.bool (cmpI .gtr s1 0), [], [(29, some 0)], []⟩,
                ⟨fV Rep.bool (cmpI .gtr s1 0), [], [(30, some 1)], []⟩,
                ⟨Fact.when ((cmpI .gtr s1 0) = true) (fOff 4 0), [], [(31, some 2)], [(4, none)]⟩,
                ⟨Fact.when ((cmpI .gtr s1 0) = true) (fV r_i64 v2.From), [], [(31, some 2), (32, some 3)], [(4, none)]⟩,
                ⟨Fact.when ((cmpI .gtr s1 0) = true) (fV (Rep.slice GTolerance.rep) x0), [], [(31, some 2), (0, none)], []⟩,
                ⟨Fact.when ((cmpI .gtr s1 0) = true) (fV r_i64 s1), [], [(31, some 2), (3, none)], []⟩,
                ⟨Fact.when ((cmpI .gtr s1 0) = true) (fV r_i64 (IntKind.i64.wrap (s1 - 1))), [], [(31, some 2), (35, some 6)], []⟩,
                ⟨Fact.when ((cmpI .gtr s1 0) = true) (fRef GTolerance.rep v4), [], [(31, some 2), (34, some 5), (36, some 7)], []⟩,
                ⟨Fact.when ((cmpI .gtr s1 0) = true) (fRef r_i64 v4.From), [], [(31, some 2), (37, some 8)], []⟩,
                ⟨Fact.when ((cmpI .gtr s1 0) = true) (fV r_i64 v4.From), [], [(31, some 2), (38, some 9)], []⟩,
                ⟨Fact.when ((cmpI .gtr s1 0) = true) (fV Rep.bool (cmpI .leq v2.From v4.From)), [], [(31, some 2), (33, some 4), (39, some 10)], []⟩,
                ⟨fV Rep.bool ((cmpI .gtr s1 0) && (cmpI .leq v2.From v4.From)), [], [(31, some 2), (40, some 11)], []⟩,
                ⟨fV Rep.bool ((cmpI .gtr s1 0) && (cmpI .leq v2.From v4.From)), [], [(41, some 12)], []⟩] [0, 1, 2, 3, 4, 5, 6, 7, 8, 9, 10, 11, 12, 13] [0, 1, 2, 3, 4, 5, 6, 7, 8, 9, 10, 11, 12, 13] [0, 13, 14, 15, 28] [] hAt
                ⟨ok_move rfl opd0,
                ok_cmp (op := .gtr) (by simp) rfl rfl opd0 opdI,
                ok_move rfl opd0,
                obl_tt rfl rfl rfl rfl rfl rfl rfl (fun hg => ok_fieldOwn fo146_0 rfl),
                obl_tt rfl rfl rfl rfl rfl rfl rfl (fun hg => ok_loadOwn GTolerance.l0 ty3 rfl (opd1.on hg)),
                obl_tt rfl rfl rfl rfl rfl rfl rfl (fun hg => ok_move rfl opd1),
                obl_tt rfl rfl rfl rfl rfl rfl rfl (fun hg => ok_move rfl opd1),
                obl_tt rfl rfl rfl rfl rfl rfl rfl (fun hg => ok_sub rfl (opd1.on hg) opdI),
                obl_tt rfl rfl rfl rfl rfl rfl rfl (fun hg => ok_index ty146 un81 (iteT hg hv4) rfl (opd1.on hg) (opd2.on hg)),
                obl_tt rfl rfl rfl rfl rfl rfl rfl (fun hg => ok_field GTolerance.l0 fo146_0 rfl (opd1.on hg)),
                obl_tt rfl rfl rfl rfl rfl rfl rfl (fun hg => ok_load ty3 rfl (opd1.on hg)),
                obl_tt rfl rfl rfl rfl rfl rfl rfl (fun hg => ok_cmp (op := .leq) (by simp) rfl rfl (opd1.on hg) (opd2.on hg)),
                ok_and rfl opd0 (fun e => (opd1.on e)),
                ok_assign rfl opd0, trivial⟩ (by kernel_rfl) ?_
            clear hAt
            intro a w hAt
            replace hAt : At B h0 (mkG [(0, fV (Rep.slice GTolerance.rep) x0), (13, fV (Rep.slice GTolerance.rep) x0), (14, fV r_i64 (List.length x0 : Int)), (15, fV r_i64 s1), (28, fV Rep.bool ((cmpI .gtr s1 0) && (cmpI .leq v2.From v4.From)))]) (mkO []) F 43 a w := hAt
            refine then_n ?_
            refine wp_if hAt (by rfl) ?_ ?_
            · intro hb5
              have H := iteT hb5 H
              refine wp_seq ?_
              refine reg [⟨fV r_i64 10, [], [], []⟩] [2] [] hAt
                  ⟨ok_assign rfl opdI, trivial⟩ (by kernel_rfl) ?_
              clear hAt
              intro a w hAt
              replace hAt : At B h0 (mkG [(2, fV r_i64 10)]) (mkO []) F 43 a w := hAt
              refine then_n ?_
              refine wp_ret ?_
              refine blk_r ?_
              refine blk_r ?_
              refine then_r ?_
              cases H
              exact ⟨ret_ne, rfl, hAt.pick [2] []⟩
            · intro hb5
              have H := iteF hb5 H
              refine wp_skip ?_
              refine blk_n ?_
              refine blk_n ?_
              refine then_n ?_
              refine reg [⟨fV r_i64 (IntKind.i64.wrap (s1 + 1)), [], [(15, none)], []⟩,
                  ⟨fV r_i64 (IntKind.i64.wrap (s1 + 1)), [], [(42, some 0)], []⟩] [0, 13, 14, 15] [] hAt
                  ⟨ok_add rfl opd0 opdI,
                  ok_move rfl opd0, trivial⟩ (by kernel_rfl) ?_
              clear hAt
              intro a w hAt
              replace hAt : At B h0 (mkG [(0, fV (Rep.slice GTolerance.rep) x0), (13, fV (Rep.slice GTolerance.rep) x0), (14, fV r_i64 (List.length x0 : Int)), (15, fV r_i64 (IntKind.i64.wrap (s1 + 1)))]) (mkO []) F 43 a w := hAt
              cases H
              exact ⟨rfl, hAt.pick [0, 13, 14, 15] []⟩
        · intro hb7
          have H := iteF hb7 H
          refine wp_exit ?_
          refine then_x ?_
          cases H
          exact ⟨ex_ne, rfl, hAt.pick [] []⟩
      · exact hAt.pick [0, 13, 14, 15] []
      · clear hAt
        intro e a w hp
        cases o8 with
        | inl l10 =>
          rw [Sum.elim_inl] at H
          obtain ⟨rfl, hAt⟩ := hp
          refine blk_eq ?_
          refine then_n ?_
          refine wp_seq ?_
          refine reg [⟨fV r_i64 0, [], [], []⟩] [2] [] hAt
              ⟨ok_assign rfl opdI, trivial⟩ (by kernel_rfl) ?_
          clear hAt
          intro a w hAt
          replace hAt : At B h0 (mkG [(2, fV r_i64 0)]) (mkO []) F 43 a w := hAt
          refine then_n ?_
          refine wp_ret ?_
          cases H
          exact ret1 rfl (rv_tmp rfl rfl) hAt
        | inr r11 =>
          rw [Sum.elim_inr] at H
          replace hp := hp
          obtain ⟨rfl, hAt⟩ := hp
          refine blk_r ?_
          refine then_r ?_
          cases H
          exact ret1 rfl (rv_tmp rfl rfl) hAt
theorem ok_f_survey_Allowed_1 (N : Nat) (x0 : GTolerance) (c0 : Int) (r : Bool) (H : f_survey_Allowed_1 N x0 c0 = some r) : FnOk Try.prog 87 [fV GTolerance.rep x0, fRef r_i64 c0] (fV Rep.bool r) := by
  unfold f_survey_Allowed_1 at H
  refine fn_enter Try.func87 rfl rfl (by kernel_rfl) ?_
  intro κ B h0 F a w hAt
  refine wp_seq ?_
  refine reg [⟨fRef GTolerance.rep x0, [], [(0, none)], []⟩,
      ⟨fV Rep.bool false, [], [], []⟩] [1, 2] [] hAt
      ⟨ok_box rfl opd0,
      ok_assign rfl opdB, trivial⟩ (by kernel_rfl) ?_
  clear hAt
  intro a w hAt
  replace hAt : At B h0 (mkG [(1, fRef r_i64 c0), (2, fRef GTolerance.rep x0)]) (mkO []) F 8 a w := hAt
  refine then_n ?_
  refine wp_seq ?_
  refine reg [⟨fRef r_i64 x0.From, [], [(2, none)], []⟩,
      ⟨fV r_i64 x0.From, [], [(4, some 0)], []⟩,
      ⟨fV r_i64 c0, [], [(1, none)], []⟩,
      ⟨fV Rep.bool (cmpI .gtr x0.From c0), [], [(5, some 1), (6, some 2)], []⟩,
      ⟨fV Rep.bool (cmpI .gtr x0.From c0), [], [(7, some 3)], []⟩] [3] [] hAt
      ⟨ok_field GTolerance.l0 fo146_0 rfl opd0,
      ok_load ty3 rfl opd0,
      ok_load ty3 rfl opd0,
      ok_cmp (op := .gtr) (by simp) rfl rfl opd0 opd1,
      ok_assign rfl opd0, trivial⟩ (by kernel_rfl) ?_
  clear hAt
  intro a w hAt
  replace hAt : At B h0 (mkG [(3, fV Rep.bool (cmpI .gtr x0.From c0))]) (mkO []) F 8 a w := hAt
  refine then_n ?_
  refine wp_ret ?_
  cases H
  exact ret1 rfl (rv_tmp rfl rfl) hAt
theorem ok_f_slices_IndexFunclapi_Tolerance_api_Tolerance (N : Nat) (x0 : (List GTolerance)) (x1 : (GTolerance → Option Bool)) (r : Int) (H : f_slices_IndexFunclapi_Tolerance_api_Tolerance N x0 x1 = some r) : FnOk Try.prog 86 [fV (Rep.slice GTolerance.rep) x0, fF1 Try.prog GTolerance.rep Rep.bool x1] (fV r_i64 r) := by
  unfold f_slices_IndexFunclapi_Tolerance_api_Tolerance at H
  refine fn_enter Try.func86 rfl rfl (by kernel_rfl) ?_
  intro κ B h0 F a w hAt
  refine wp_seq ?_
  refine reg [⟨fV r_i64 0, [], [], []⟩] [0, 1] [] hAt
      ⟨ok_assign rfl opdI, trivial⟩ (by kernel_rfl) ?_
  clear hAt
  intro a w hAt
  replace hAt : At B h0 (mkG [(0, fV (Rep.slice GTolerance.rep) x0), (1, fF1 Try.prog GTolerance.rep Rep.bool x1)]) (mkO []) F 19 a w := hAt
  refine then_n ?_
  refine wp_seq ?_
  refine wp_seq ?_
  refine reg [⟨fV (Rep.slice GTolerance.rep) x0, [], [(0, none)], []⟩,
      ⟨fV r_i64 (List.length x0 : Int), [], [(6, some 0)], []⟩,
      ⟨fV r_i64 0, [], [], []⟩] [0, 1, 7, 8] [] hAt
      ⟨ok_move rfl opd0,
      ok_len un81 rfl opd0,
      ok_move rfl opdI, trivial⟩ (by kernel_rfl) ?_
  clear hAt
  intro a w hAt
  replace hAt : At B h0 (mkG [(0, fV (Rep.slice GTolerance.rep) x0), (1, fF1 Try.prog GTolerance.rep Rep.bool x1), (7, fV r_i64 (List.length x0 : Int)), (8, fV r_i64 0)]) (mkO []) F 19 a w := hAt
  refine then_n ?_
  refine wp_block ?_
  obtain ⟨o6, hl7, H⟩ := bindE H
  refine wp_mono (wp_loopN (f := f_slices_IndexFunclapi_Tolerance_api_Tolerance_L1 N x0 x1) (fun (s1 : Int) a w => At B h0 (mkG [(0, fV (Rep.slice GTolerance.rep) x0), (1, fF1 Try.prog GTolerance.rep Rep.bool x1), (7, fV r_i64 (List.length x0 : Int)), (8, fV r_i64 s1)]) (mkO []) F 19 a w) (fun o e a w => (Sum.elim (fun v => e = .exit 0 ∧ At B h0 (mkG []) (mkO []) F 19 a w) (fun v => e = .ret ∧ At B h0 (mkG [(4, fV r_i64 v)]) (mkO []) F 19 a w)) o) ?_ N 0 o6 _ _ hl7 ?_) ?_
  · clear H hAt hl7
    intro s1 r10 a w H hAt
    unfold f_slices_IndexFunclapi_Tolerance_api_Tolerance_L1 at H
    refine wp_seq ?_
    refine reg [⟨fV Rep.bool (cmpI .lss s1 (List.length x0 : Int)), [], [(8, none), (7, none)], []⟩] [0, 1, 7, 8, 9] [] hAt
        ⟨ok_cmp (op := .lss) (by simp) rfl rfl opd0 opd1, trivial⟩ (by kernel_rfl) ?_
    clear hAt
    intro a w hAt
    replace hAt : At B h0 (mkG [(0, fV (Rep.slice GTolerance.rep) x0), (1, fF1 Try.prog GTolerance.rep Rep.bool x1), (7, fV r_i64 (List.length x0 : Int)), (8, fV r_i64 s1), (9, fV Rep.bool (cmpI .lss s1 (List.length x0 : Int)))]) (mkO []) F 19 a w := hAt
    refine then_n ?_
    refine wp_seq ?_
    refine wp_if hAt (by rfl) ?_ ?_
    · intro hb5
      have H := iteT hb5 H
      refine wp_skip ?_
      refine then_n ?_
      refine wp_seq ?_
      refine wp_block ?_
      refine wp_seq ?_
      refine reg [⟨fV r_i64 s1, [], [(8, none)], []⟩,
          ⟨fV r_i64 s1, [], [(10, some 0)], []⟩] [0, 1, 5, 7, 8] [] hAt
          ⟨ok_move rfl opd0,
          ok_assign rfl opd0, trivial⟩ (by kernel_rfl) ?_
      clear hAt
      intro a w hAt
      replace hAt : At B h0 (mkG [(0, fV (Rep.slice GTolerance.rep) x0), (1, fF1 Try.prog GTolerance.rep Rep.bool x1), (5, fV r_i64 s1), (7, fV r_i64 (List.length x0 : Int)), (8, fV r_i64 s1)]) (mkO []) F 19 a w := hAt
      refine then_n ?_
      refine wp_seq ?_
      obtain ⟨v2, hv2, H⟩ := bindE H
      obtain ⟨v3, hv3, H⟩ := bindE H
      refine reg [⟨fF1 Try.prog GTolerance.rep Rep.bool x1, [], [(1, none)], []⟩,
          ⟨fV (Rep.slice GTolerance.rep) x0, [], [(0, none)], []⟩,
          ⟨fV r_i64 s1, [], [(5, none)], []⟩,
          ⟨fRef GTolerance.rep v2, [], [(12, some 1), (13, some 2)], []⟩,
          ⟨fV GTolerance.rep v2, [], [(14, some 3)], []⟩,
          ⟨fV Rep.bool v3, [], [(11, some 0), (15, some 4)], []⟩] [0, 1, 5, 7, 8, 16] [] hAt
          ⟨ok_move rfl opd0,
          ok_move rfl opd0,
          ok_move rfl opd0,
          ok_index ty146 un81 hv2 rfl opd0 opd1,
          ok_load ty146 rfl opd0,
          ok_callF1 (φ := x1) hv3 rfl opd0 ⟨opd1, trivial⟩, trivial⟩ (by kernel_rfl) ?_
      clear hAt
      intro a w hAt
      replace hAt : At B h0 (mkG [(0, fV (Rep.slice GTolerance.rep) x0), (1, fF1 Try.prog GTolerance.rep Rep.bool x1), (5, fV r_i64 s1), (7, fV r_i64 (List.length x0 : Int)), (8, fV r_i64 s1), (16, fV Rep.bool v3)]) (mkO []) F 19 a w := hAt
      refine then_n ?_
      refine wp_if hAt (by rfl) ?_ ?_
      · intro hb4
        have H := iteT hb4 H
        refine wp_seq ?_
        refine reg [⟨fV r_i64 s1, [], [(5, none)], []⟩,
            ⟨fV r_i64 s1, [], [(17, some 0)], []⟩] [4] [] hAt
            ⟨ok_move rfl opd0,
            ok_assign rfl opd0, trivial⟩ (by kernel_rfl) ?_
        clear hAt
        intro a w hAt
        replace hAt : At B h0 (mkG [(4, fV r_i64 s1)]) (mkO []) F 19 a w := hAt
        refine then_n ?_
        refine wp_ret ?_
        refine blk_r ?_
        refine then_r ?_
        cases H
        exact ⟨ret_ne, rfl, hAt.pick [4] []⟩
      · intro hb4
        have H := iteF hb4 H
        refine wp_skip ?_
        refine blk_n ?_
        refine then_n ?_
        refine reg [⟨fV r_i64 (IntKind.i64.wrap (s1 + 1)), [], [(8, none)], []⟩,
            ⟨fV r_i64 (IntKind.i64.wrap (s1 + 1)), [], [(18, some 0)], []⟩] [0, 1, 7, 8] [] hAt
            ⟨ok_add rfl opd0 opdI,
            ok_move rfl opd0, trivial⟩ (by kernel_rfl) ?_
        clear hAt
        intro a w hAt
        replace hAt : At B h0 (mkG [(0, fV (Rep.slice GTolerance.rep) x0), (1, fF1 Try.prog GTolerance.rep Rep.bool x1), (7, fV r_i64 (List.length x0 : Int)), (8, fV r_i64 (IntKind.i64.wrap (s1 + 1)))]) (mkO []) F 19 a w := hAt
        cases H
        exact ⟨rfl, hAt.pick [0, 1, 7, 8] []⟩
    · intro hb5
      have H := iteF hb5 H
      refine wp_exit ?_
      refine then_x ?_
      cases H
      exact ⟨ex_ne, rfl, hAt.pick [] []⟩
  · exact hAt.pick [0, 1, 7, 8] []
  · clear hAt
    intro e a w hp
    cases o6 with
    | inl l8 =>
      rw [Sum.elim_inl] at H
      obtain ⟨rfl, hAt⟩ := hp
      refine blk_eq ?_
      refine then_n ?_
      refine wp_seq ?_
      refine reg [⟨fV r_i64 (-1), [], [], []⟩] [4] [] hAt
          ⟨ok_assign rfl opdI, trivial⟩ (by kernel_rfl) ?_
      clear hAt
      intro a w hAt
      replace hAt : At B h0 (mkG [(4, fV r_i64 (-1))]) (mkO []) F 19 a w := hAt
      refine then_n ?_
      refine wp_ret ?_
      cases H
      exact ret1 rfl (rv_tmp rfl rfl) hAt
    | inr r9 =>
      rw [Sum.elim_inr] at H
      replace hp := hp
      obtain ⟨rfl, hAt⟩ := hp
      refine blk_r ?_
      refine then_r ?_
      cases H
      exact ret1 rfl (rv_tmp rfl rfl) hAt
theorem ok_f_survey_Allowed (N : Nat) (x0 : (List GTolerance)) (x1 : Int) (r : Int × Int) (H : f_survey_Allowed N x0 x1 = some r) : FnOk Try.prog 45 [fV (Rep.slice GTolerance.rep) x0, fV r_i64 x1] (fT2 (fV r_i64 (r.1)) (fV r_i64 (r.2))) := by
  unfold f_survey_Allowed at H
  refine fn_enter Try.func45 rfl rfl (by kernel_rfl) ?_
  intro κ B h0 F a w hAt
  refine wp_seq ?_
  refine reg [⟨fRef r_i64 x1, [], [(1, none)], []⟩,
      ⟨fV r_i64 0, [], [], []⟩,
      ⟨fV r_i64 0, [], [], []⟩] [0, 3] [] hAt
      ⟨ok_box rfl opd0,
      ok_assign rfl opdI,
      ok_assign rfl opdI, trivial⟩ (by kernel_rfl) ?_
  clear hAt
  intro a w hAt
  replace hAt : At B h0 (mkG [(0, fV (Rep.slice GTolerance.rep) x0), (3, fRef r_i64 x1)]) (mkO []) F 38 a w := hAt
  refine then_n ?_
  refine wp_seq ?_
  refine wp_seq ?_
  obtain ⟨v1, hv1, H⟩ := bindE H
  refine reg [⟨fV (Rep.slice GTolerance.rep) x0, [], [(0, none)], []⟩,
      ⟨fV r_i64 v1, [], [(8, some 0)], []⟩,
      ⟨fV r_i64 v1, [], [(9, some 1)], []⟩] [0, 3, 6] [] hAt
      ⟨ok_move rfl opd0,
      ok_call (ok_f_survey_checkTable N x0 _ hv1) Try.func85 (by kernel_rfl) (by kernel_rfl) rfl ⟨opd0, trivial⟩,
      ok_assign rfl opd0, trivial⟩ (by kernel_rfl) ?_
  clear hAt
  intro a w hAt
  replace hAt : At B h0 (mkG [(0, fV (Rep.slice GTolerance.rep) x0), (3, fRef r_i64 x1), (6, fV r_i64 v1)]) (mkO []) F 38 a w := hAt
  refine then_n ?_
  refine wp_seq ?_
  refine reg [⟨fV r_i64 v1, [], [(6, none)], []⟩,
      ⟨fV Rep.bool (cmpI .neq v1 0), [], [(10, some 0)], []⟩] [0, 3, 6, 11] [] hAt
      ⟨ok_move rfl opd0,
      ok_cmp (op := .neq) (by simp) rfl rfl opd0 opdI, trivial⟩ (by kernel_rfl) ?_
  clear hAt
  intro a w hAt
  replace hAt : At B h0 (mkG [(0, fV (Rep.slice GTolerance.rep) x0), (3, fRef r_i64 x1), (6, fV r_i64 v1), (11, fV Rep.bool (cmpI .neq v1 0))]) (mkO []) F 38 a w := hAt
  refine then_n ?_
  refine wp_if hAt (by rfl) ?_ ?_
  · intro hb10
    have H := iteT hb10 H
    refine wp_seq ?_
    refine reg [⟨fV r_i64 v1, [], [(6, none)], []⟩,
        ⟨fV r_i64 0, [], [], []⟩,
        ⟨fV r_i64 v1, [], [(12, some 0)], []⟩] [4, 5] [] hAt
        ⟨ok_move rfl opd0,
        ok_assign rfl opdI,
        ok_assign rfl opd0, trivial⟩ (by kernel_rfl) ?_
    clear hAt
    intro a w hAt
    replace hAt : At B h0 (mkG [(4, fV r_i64 0), (5, fV r_i64 v1)]) (mkO []) F 38 a w := hAt
    refine then_n ?_
    refine wp_ret ?_
    refine then_r ?_
    cases H
    exact ret2 rfl (rv_tmp rfl rfl) (rv_tmp rfl rfl) hAt
  · intro hb10
    have H := iteF hb10 H
    refine wp_skip ?_
    refine then_n ?_
    refine wp_seq ?_
    refine wp_block ?_
    refine wp_seq ?_
    obtain ⟨v2, hv2, H⟩ := bindE H
    refine reg [⟨fV r_i64 x1, [], [(3, none)], []⟩,
        ⟨fV (Rep.slice r_i64) [x1], [], [(14, some 0)], []⟩,
        ⟨fV Rep.bool v2, [], [(15, some 1)], []⟩,
        ⟨fV Rep.bool (!v2), [], [(16, some 2)], []⟩,
        ⟨fV Rep.bool (!v2), [], [(17, some 3)], []⟩] [0, 3, 13] [] hAt
        ⟨ok_load ty3 rfl opd0,
        ok_buildSlice ty3 un22 rfl rfl (fillC (Lens.arr _ _ 0 (by decide)) rfl opd0 fillN),
        ok_call (ok_f_survey_inside N 0 1000000 [x1] _ hv2) Try.func71 (by kernel_rfl) (by kernel_rfl) rfl ⟨opdI, ⟨opdI, ⟨opd0, trivial⟩⟩⟩,
        ok_not rfl opd0,
        ok_assign rfl opd0, trivial⟩ (by kernel_rfl) ?_
    clear hAt
    intro a w hAt
    replace hAt : At B h0 (mkG [(0, fV (Rep.slice GTolerance.rep) x0), (3, fRef r_i64 x1), (13, fV Rep.bool (!v2))]) (mkO []) F 38 a w := hAt
    refine then_n ?_
    refine wp_if hAt (by rfl) ?_ ?_
    · intro hb9
      have H := iteT hb9 H
      refine wp_seq ?_
      refine reg [⟨fV r_i64 0, [], [], []⟩,
          ⟨fV r_i64 2, [], [], []⟩] [4, 5] [] hAt
          ⟨ok_assign rfl opdI,
          ok_assign rfl opdI, trivial⟩ (by kernel_rfl) ?_
      clear hAt
      intro a w hAt
      replace hAt : At B h0 (mkG [(4, fV r_i64 0), (5, fV r_i64 2)]) (mkO []) F 38 a w := hAt
      refine then_n ?_
      refine wp_ret ?_
      refine blk_r ?_
      refine then_r ?_
      cases H
      exact ret2 rfl (rv_tmp rfl rfl) (rv_tmp rfl rfl) hAt
    · intro hb9
      have H := iteF hb9 H
      refine wp_seq ?_
      obtain ⟨v3, hv3, H⟩ := bindE H
      refine regd [⟨fV (Rep.slice GTolerance.rep) x0, [], [(0, none)], []⟩,
          ⟨fRef GTolerance.rep v3, [], [(19, some 0)], []⟩,
          ⟨fRef r_i64 v3.From, [], [(20, some 1)], []⟩,
          ⟨fV r_i64 v3.From, [], [(21, some 2)], []⟩,
          ⟨fV r_i64 x1, [], [(3, none)], []⟩,
          ⟨fV Rep.bool (cmpI .gtr v3.From x1), [], [(22, some 3), (23, some 4)], []⟩,
          ⟨fV Rep.bool (cmpI .gtr v3.From x1), [], [(24, some 5)], []⟩] [0, 1, 2, 3, 4, 5, 6] [0, 1, 2, 3, 4, 5, 6] [0, 3, 18] [] hAt
          ⟨ok_move rfl opd0,
          ok_index ty146 un81 hv3 rfl opd0 opdI,
          ok_field GTolerance.l0 fo146_0 rfl opd0,
          ok_load ty3 rfl opd0,
          ok_load ty3 rfl opd0,
          ok_cmp (op := .gtr) (by simp) rfl rfl opd0 opd1,
          ok_assign rfl opd0, trivial⟩ (by kernel_rfl) ?_
      clear hAt
      intro a w hAt
      replace hAt : At B h0 (mkG [(0, fV (Rep.slice GTolerance.rep) x0), (3, fRef r_i64 x1), (18, fV Rep.bool (cmpI .gtr v3.From x1))]) (mkO []) F 38 a w := hAt
      refine then_n ?_
      refine wp_if hAt (by rfl) ?_ ?_
      · intro hb8
        have H := iteT hb8 H
        refine wp_seq ?_
        refine reg [⟨fV r_i64 0, [], [], []⟩,
            ⟨fV r_i64 6, [], [], []⟩] [4, 5] [] hAt
            ⟨ok_assign rfl opdI,
            ok_assign rfl opdI, trivial⟩ (by kernel_rfl) ?_
        clear hAt
        intro a w hAt
        replace hAt : At B h0 (mkG [(4, fV r_i64 0), (5, fV r_i64 6)]) (mkO []) F 38 a w := hAt
        refine then_n ?_
        refine wp_ret ?_
        refine blk_r ?_
        refine then_r ?_
        cases H
        exact ret2 rfl (rv_tmp rfl rfl) (rv_tmp rfl rfl) hAt
      · intro hb8
        have H := iteF hb8 H
        refine wp_skip ?_
        refine blk_n ?_
        refine then_n ?_
        refine wp_seq ?_
        obtain ⟨v4, hv4, H⟩ := bindE H
        refine reg [⟨fV (Rep.slice GTolerance.rep) x0, [], [(0, none)], []⟩,
            ⟨fF1 Try.prog GTolerance.rep Rep.bool (fun y0 => f_survey_Allowed_1 N y0 x1), [], [(3, none)], []⟩,
            ⟨fV r_i64 v4, [], [(25, some 0), (26, some 1)], []⟩,
            ⟨fV r_i64 v4, [], [(27, some 2)], []⟩] [0, 7] [] hAt
            ⟨ok_move rfl opd0,
            ok_mkF1 (φ := fun y0 => f_survey_Allowed_1 N y0 x1) (fun y0 r H => ok_f_survey_Allowed_1 N y0 x1 r H) Try.func87 (by kernel_rfl) (by kernel_rfl) rfl ⟨opd0, trivial⟩,
            ok_call (ok_f_slices_IndexFunclapi_Tolerance_api_Tolerance N x0 (fun y0 => f_survey_Allowed_1 N y0 x1) _ hv4) Try.func86 (by kernel_rfl) (by kernel_rfl) rfl ⟨opd0, ⟨opd1, trivial⟩⟩,
            ok_assign rfl opd0, trivial⟩ (by kernel_rfl) ?_
        clear hAt
        intro a w hAt
        replace hAt : At B h0 (mkG [(0, fV (Rep.slice GTolerance.rep) x0), (7, fV r_i64 v4)]) (mkO []) F 38 a w := hAt
        refine then_n ?_
        refine wp_seq ?_
        refine wp_seq ?_
        refine reg [⟨fV r_i64 v4, [], [(7, none)], []⟩,
            ⟨fV Rep.bool (cmpI .lss v4 0), [], [(28, some 0)], []⟩] [0, 7, 29] [] hAt
            ⟨ok_move rfl opd0,
            ok_cmp (op := .lss) (by simp) rfl rfl opd0 opdI, trivial⟩ (by kernel_rfl) ?_
        clear hAt
        intro a w hAt
        replace hAt : At B h0 (mkG [(0, fV (Rep.slice GTolerance.rep) x0), (7, fV r_i64 v4), (29, fV Rep.bool (cmpI .lss v4 0))]) (mkO []) F 38 a w := hAt
        refine then_n ?_
        refine wp_if hAt (by rfl) ?_ ?_
        · intro hb7
          have H := iteT hb7 H
          refine reg [⟨fV (Rep.slice GTolerance.rep) x0, [], [(0, none)], []⟩,
              ⟨fV r_i64 (List.length x0 : Int), [], [(30, some 0)], []⟩,
              ⟨fV r_i64 (List.length x0 : Int), [], [(31, some 1)], []⟩] [0, 7] [] hAt
              ⟨ok_move rfl opd0,
              ok_len un81 rfl opd0,
              ok_assign rfl opd0, trivial⟩ (by kernel_rfl) ?_
          clear hAt
          intro a w hAt
          replace hAt : At B h0 (mkG [(0, fV (Rep.slice GTolerance.rep) x0), (7, fV r_i64 (List.length x0 : Int))]) (mkO []) F 38 a w := hAt
          refine then_n ?_
          refine wp_seq ?_
          obtain ⟨v5, hv5, H⟩ := bindE H
          refine reg [⟨fV (Rep.slice GTolerance.rep) x0, [], [(0, none)], []⟩,
              ⟨fV r_i64 (List.length x0 : Int), [], [(7, none)], []⟩,
              ⟨fV r_i64 (IntKind.i64.wrap ((List.length x0 : Int) - 1)), [], [(33, some 1)], []⟩,
              ⟨fRef GTolerance.rep v5, [], [(32, some 0), (34, some 2)], []⟩,
              ⟨fRef r_i64 v5.Most, [], [(35, some 3)], []⟩,
              ⟨fV r_i64 v5.Most, [], [(36, some 4)], []⟩,
              ⟨fV r_i64 v5.Most, [], [(37, some 5)], []⟩,
              ⟨fV r_i64 0, [], [], []⟩] [4, 5] [] hAt
              ⟨ok_move rfl opd0,
              ok_move rfl opd0,
              ok_sub rfl opd0 opdI,
              ok_index ty146 un81 hv5 rfl opd0 opd1,
              ok_field GTolerance.l1 fo146_1 rfl opd0,
              ok_load ty3 rfl opd0,
              ok_assign rfl opd0,
              ok_assign rfl opdI, trivial⟩ (by kernel_rfl) ?_
          clear hAt
          intro a w hAt
          replace hAt : At B h0 (mkG [(4, fV r_i64 v5.Most), (5, fV r_i64 0)]) (mkO []) F 38 a w := hAt
          refine then_n ?_
          refine wp_ret ?_
          cases H
          exact ret2 rfl (rv_tmp rfl rfl) (rv_tmp rfl rfl) hAt
        · intro hb7
          have H := iteF hb7 H
          refine wp_skip ?_
          refine then_n ?_
          refine wp_seq ?_
          obtain ⟨v6, hv6, H⟩ := bindE H
          refine reg [⟨fV (Rep.slice GTolerance.rep) x0, [], [(0, none)], []⟩,
              ⟨fV r_i64 v4, [], [(7, none)], []⟩,
              ⟨fV r_i64 (IntKind.i64.wrap (v4 - 1)), [], [(33, some 1)], []⟩,
              ⟨fRef GTolerance.rep v6, [], [(32, some 0), (34, some 2)], []⟩,
              ⟨fRef r_i64 v6.Most, [], [(35, some 3)], []⟩,
              ⟨fV r_i64 v6.Most, [], [(36, some 4)], []⟩,
              ⟨fV r_i64 v6.Most, [], [(37, some 5)], []⟩,
              ⟨fV r_i64 0, [], [], []⟩] [4, 5] [] hAt
              ⟨ok_move rfl opd0,
              ok_move rfl opd0,
              ok_sub rfl opd0 opdI,
              ok_index ty146 un81 hv6 rfl opd0 opd1,
              ok_field GTolerance.l1 fo146_1 rfl opd0,
              ok_load ty3 rfl opd0,
              ok_assign rfl opd0,
              ok_assign rfl opdI, trivial⟩ (by kernel_rfl) ?_
          clear hAt
          intro a w hAt
          replace hAt : At B h0 (mkG [(4, fV r_i64 v6.Most), (5, fV r_i64 0)]) (mkO []) F 38 a w := hAt
          refine then_n ?_
          refine wp_ret ?_
          cases H
          exact ret2 rfl (rv_tmp rfl rfl) (rv_tmp rfl rfl) hAt
theorem ok_f_ref09_within (N : Nat) (x0 : Int) (x1 : Int) (x2 : Int) (r : Bool) (H : f_ref09_within N x0 x1 x2 = some r) : FnOk Try.prog 69 [fV r_i64 x0, fV r_i64 x1, fV r_i64 x2] (fV Rep.bool r) := by
  unfold f_ref09_within at H
  refine fn_enter Try.func69 rfl rfl (by kernel_rfl) ?_
  intro κ B h0 F a w hAt
  refine wp_seq ?_
  refine reg [⟨fV Rep.bool false, [], [], []⟩] [0, 1, 2] [] hAt
      ⟨ok_assign rfl opdB, trivial⟩ (by kernel_rfl) ?_
  clear hAt
  intro a w hAt
  replace hAt : At B h0 (mkG [(0, fV r_i64 x0), (1, fV r_i64 x1), (2, fV r_i64 x2)]) (mkO []) F 15 a w := hAt
  refine then_n ?_
  refine wp_seq ?_
  refine reg [⟨fV r_i64 x0, [], [(0, none)], []⟩,
      ⟨fV r_i64 x1, [], [(1, none)], []⟩,
      ⟨fV Rep.bool (cmpI .geq x0 x1), [], [(7, some 0), (8, some 1)], []⟩,
      ⟨fV Rep.bool (cmpI .geq x0 x1), [], [(9, some 2)], []⟩,
      ⟨Fact.when ((cmpI .geq x0 x1) = true) (fV r_i64 x0), [], [(10, some 3), (0, none)], []⟩,
      ⟨Fact.when ((cmpI .geq x0 x1) = true) (fV r_i64 x2), [], [(10, some 3), (2, none)], []⟩,
      ⟨Fact.when ((cmpI .geq x0 x1) = true) (fV Rep.bool (cmpI .leq x0 x2)), [], [(10, some 3), (11, some 4), (12, some 5)], []⟩,
      ⟨fV Rep.bool ((cmpI .geq x0 x1) && (cmpI .leq x0 x2)), [], [(10, some 3), (13, some 6)], []⟩,
      ⟨fV Rep.bool ((cmpI .geq x0 x1) && (cmpI .leq x0 x2)), [], [(14, some 7)], []⟩] [6] [] hAt
      ⟨ok_move rfl opd0,
      ok_move rfl opd0,
      ok_cmp (op := .geq) (by simp) rfl rfl opd0 opd1,
      ok_move rfl opd0,
      obl_tt rfl rfl rfl rfl rfl rfl rfl (fun hg => ok_move rfl opd1),
      obl_tt rfl rfl rfl rfl rfl rfl rfl (fun hg => ok_move rfl opd1),
      obl_tt rfl rfl rfl rfl rfl rfl rfl (fun hg => ok_cmp (op := .leq) (by simp) rfl rfl (opd1.on hg) (opd2.on hg)),
      ok_and rfl opd0 (fun e => (opd1.on e)),
      ok_assign rfl opd0, trivial⟩ (by kernel_rfl) ?_
  clear hAt
  intro a w hAt
  replace hAt : At B h0 (mkG [(6, fV Rep.bool ((cmpI .geq x0 x1) && (cmpI .leq x0 x2)))]) (mkO []) F 15 a w := hAt
  refine then_n ?_
  refine wp_ret ?_
  cases H
  exact ret1 rfl (rv_tmp rfl rfl) hAt
theorem ok_f_ref09_CheckTolerances (N : Nat) (x0 : (List GTolerance)) (r : Int) (H : f_ref09_CheckTolerances N x0 = some r) : FnOk Try.prog 88 [fV (Rep.slice GTolerance.rep) x0] (fV r_i64 r) := by
  unfold f_ref09_CheckTolerances at H
  refine fn_enter Try.func88 rfl rfl (by kernel_rfl) ?_
  intro κ B h0 F a w hAt
  refine wp_seq ?_
  refine reg [⟨fV r_i64 0, [], [], []⟩] [0] [] hAt
      ⟨ok_assign rfl opdI, trivial⟩ (by kernel_rfl) ?_
  clear hAt
  intro a w hAt
  replace hAt : At B h0 (mkG [(0, fV (Rep.slice GTolerance.rep) x0)]) (mkO []) F 48 a w := hAt
  refine then_n ?_
  refine wp_seq ?_
  refine wp_seq ?_
  refine reg [⟨fV (Rep.slice GTolerance.rep) x0, [], [(0, none)], []⟩,
      ⟨fV r_i64 (List.length x0 : Int), [], [(4, some 0)], []⟩,
      ⟨fV Rep.bool (cmpI .gtr (List.length x0 : Int) 40), [], [(5, some 1)], []⟩] [0, 6] [] hAt
      ⟨ok_move rfl opd0,
      ok_len un81 rfl opd0,
      ok_cmp (op := .gtr) (by simp) rfl rfl opd0 opdI, trivial⟩ (by kernel_rfl) ?_
  clear hAt
  intro a w hAt
  replace hAt : At B h0 (mkG [(0, fV (Rep.slice GTolerance.rep) x0), (6, fV Rep.bool (cmpI .gtr (List.length x0 : Int) 40))]) (mkO []) F 48 a w := hAt
  refine then_n ?_
  refine wp_if hAt (by rfl) ?_ ?_
  · intro hb17
    have H := iteT hb17 H
    refine wp_seq ?_
    refine reg [⟨fV r_i64 8, [], [], []⟩] [2] [] hAt
        ⟨ok_assign rfl opdI, trivial⟩ (by kernel_rfl) ?_
    clear hAt
    intro a w hAt
    replace hAt : At B h0 (mkG [(2, fV r_i64 8)]) (mkO []) F 48 a w := hAt
    refine then_n ?_
    refine wp_ret ?_
    refine then_r ?_
    cases H
    exact ret1 rfl (rv_tmp rfl rfl) hAt
  · intro hb17
    have H := iteF hb17 H
    refine wp_skip ?_
    refine then_n ?_
    refine wp_seq ?_
    refine wp_seq ?_
    refine reg [⟨fV (Rep.slice GTolerance.rep) x0, [], [(0, none)], []⟩,
        ⟨fV r_i64 (List.length x0 : Int), [], [(7, some 0)], []⟩,
        ⟨fV Rep.bool (cmpI .eql (List.length x0 : Int) 0), [], [(8, some 1)], []⟩] [0, 9] [] hAt
        ⟨ok_move rfl opd0,
        ok_len un81 rfl opd0,
        ok_cmp (op := .eql) (by simp) rfl rfl opd0 opdI, trivial⟩ (by kernel_rfl) ?_
    clear hAt
    intro a w hAt
    replace hAt : At B h0 (mkG [(0, fV (Rep.slice GTolerance.rep) x0), (9, fV Rep.bool (cmpI .eql (List.length x0 : Int) 0))]) (mkO []) F 48 a w := hAt
    refine then_n ?_
    refine wp_if hAt (by rfl) ?_ ?_
    · intro hb16
      have H := iteT hb16 H
      refine wp_seq ?_
      refine reg [⟨fV r_i64 11, [], [], []⟩] [2] [] hAt
          ⟨ok_assign rfl opdI, trivial⟩ (by kernel_rfl) ?_
      clear hAt
      intro a w hAt
      replace hAt : At B h0 (mkG [(2, fV r_i64 11)]) (mkO []) F 48 a w := hAt
      refine then_n ?_
      refine wp_ret ?_
      refine then_r ?_
      cases H
      exact ret1 rfl (rv_tmp rfl rfl) hAt
    · intro hb16
      have H := iteF hb16 H
      refine wp_skip ?_
      refine then_n ?_
      refine wp_seq ?_
      refine wp_seq ?_
      refine reg [⟨fV r_i64 0, [], [], []⟩] [0, 3] [] hAt
          ⟨ok_assign rfl opdI, trivial⟩ (by kernel_rfl) ?_
      clear hAt
      intro a w hAt
      replace hAt : At B h0 (mkG [(0, fV (Rep.slice GTolerance.rep) x0), (3, fV r_i64 0)]) (mkO []) F 48 a w := hAt
      refine then_n ?_
      refine wp_block ?_
      obtain ⟨o11, hl12, H⟩ := bindE H
      refine wp_mono (wp_loopN (f := f_ref09_CheckTolerances_L1 N x0) (fun (s1 : Int) a w => At B h0 (mkG [(0, fV (Rep.slice GTolerance.rep) x0), (3, fV r_i64 s1)]) (mkO []) F 48 a w) (fun o e a w => (Sum.elim (fun v => e = .exit 0 ∧ At B h0 (mkG []) (mkO []) F 48 a w) (fun v => e = .ret ∧ At B h0 (mkG [(2, fV r_i64 v)]) (mkO []) F 48 a w)) o) ?_ N 0 o11 _ _ hl12 ?_) ?_
      · clear H hAt hl12
        intro s1 r15 a w H hAt
        unfold f_ref09_CheckTolerances_L1 at H
        refine wp_seq ?_
        refine wp_seq ?_
        refine reg [⟨fV r_i64 s1, [], [(3, none)], []⟩,
            ⟨fV (Rep.slice GTolerance.rep) x0, [], [(0, none)], []⟩,
            ⟨fV r_i64 (List.length x0 : Int), [], [(11, some 1)], []⟩,
            ⟨fV Rep.bool (cmpI .lss s1 (List.length x0 : Int)), [], [(10, some 0), (12, some 2)], []⟩] [0, 3, 13] [] hAt
            ⟨ok_move rfl opd0,
            ok_move rfl opd0,
            ok_len un81 rfl opd0,
            ok_cmp (op := .lss) (by simp) rfl rfl opd0 opd1, trivial⟩ (by kernel_rfl) ?_
        clear hAt
        intro a w hAt
        replace hAt : At B h0 (mkG [(0, fV (Rep.slice GTolerance.rep) x0), (3, fV r_i64 s1), (13, fV Rep.bool (cmpI .lss s1 (List.length x0 : Int)))]) (mkO []) F 48 a w := hAt
        refine then_n ?_
        refine wp_if hAt (by rfl) ?_ ?_
        · intro hb10
          have H := iteT hb10 H
          refine wp_skip ?_
          refine then_n ?_
          refine wp_seq ?_
          refine wp_block ?_
          refine wp_seq ?_
          refine wp_seq ?_
          obtain ⟨v2, hv2, H⟩ := bindE H
          obtain ⟨v3, hv3, H⟩ := bindE H
          obtain ⟨v4, hv4, H⟩ := bindE H
          obtain ⟨v5, hv5, H⟩ := bindE H
          refine reg [⟨fV (Rep.slice GTolerance.rep) x0, [], [(0, none)], []⟩,
              ⟨fV r_i64 s1, [], [(3, none)], []⟩,
              ⟨fRef GTolerance.rep v2, [], [(16, some 0), (17, some 1)], []⟩,
              ⟨fRef r_i64 v2.From, [], [(18, some 2)], []⟩,
              ⟨fV r_i64 v2.From, [], [(19, some 3)], []⟩,
              ⟨fV Rep.bool v3, [], [(20, some 4)], []⟩,
              ⟨fV Rep.bool (!v3), [], [(21, some 5)], []⟩,
              ⟨fV Rep.bool (!v3), [], [(22, some 6)], []⟩,
              ⟨Fact.when ((!(!v3)) = true) (fV (Rep.slice GTolerance.rep) x0), [], [(23, some 7), (0, none)], []⟩,
              ⟨Fact.when ((!(!v3)) = true) (fV r_i64 s1), [], [(23, some 7), (3, none)], []⟩,
              ⟨Fact.when ((!(!v3)) = true) (fRef GTolerance.rep v4), [], [(23, some 7), (24, some 8), (25, some 9)], []⟩,
              ⟨Fact.when ((!(!v3)) = true) (fRef r_i64 v4.Most), [], [(23, some 7), (26, some 10)], []⟩,
              ⟨Fact.when ((!(!v3)) = true) (fV r_i64 v4.Most), [], [(23, some 7), (27, some 11)], []⟩,
              ⟨Fact.when ((!(!v3)) = true) (fV Rep.bool v5), [], [(23, some 7), (28, some 12)], []⟩,
              ⟨Fact.when ((!(!v3)) = true) (fV Rep.bool (!v5)), [], [(23, some 7), (29, some 13)], []⟩,
              ⟨fV Rep.bool ((!v3) || (!v5)), [], [(23, some 7), (30, some 14)], []⟩] [0, 3, 31] [] hAt
              ⟨ok_move rfl opd0,
              ok_move rfl opd0,
              ok_index ty146 un81 hv2 rfl opd0 opd1,
              ok_field GTolerance.l0 fo146_0 rfl opd0,
              ok_load ty3 rfl opd0,
              ok_call (ok_f_ref09_within N v2.From 0 1000000 _ hv3) Try.func69 (by kernel_rfl) (by kernel_rfl) rfl ⟨opd0, ⟨opdI, ⟨opdI, trivial⟩⟩⟩,
              ok_not rfl opd0,
              ok_move rfl opd0,
              obl_tf rfl rfl rfl rfl rfl rfl rfl (fun hg => ok_move rfl opd1),
              obl_tf rfl rfl rfl rfl rfl rfl rfl (fun hg => ok_move rfl opd1),
              obl_tf rfl rfl rfl rfl rfl rfl rfl (fun hg => ok_index ty146 un81 (iteT hg hv4) rfl (opd1.on hg) (opd2.on hg)),
              obl_tf rfl rfl rfl rfl rfl rfl rfl (fun hg => ok_field GTolerance.l1 fo146_1 rfl (opd1.on hg)),
              obl_tf rfl rfl rfl rfl rfl rfl rfl (fun hg => ok_load ty3 rfl (opd1.on hg)),
              obl_tf rfl rfl rfl rfl rfl rfl rfl (fun hg => ok_call (ok_f_ref09_within N v4.Most 0 1000000 _ (iteT hg hv5)) Try.func69 (by kernel_rfl) (by kernel_rfl) rfl ⟨(opd1.on hg), ⟨opdI, ⟨opdI, trivial⟩⟩⟩),
              obl_tf rfl rfl rfl rfl rfl rfl rfl (fun hg => ok_not rfl (opd1.on hg)),
              ok_or rfl opd0 (fun e => (opd1.on (notT e))), trivial⟩ (by kernel_rfl) ?_
          clear hAt
          intro a w hAt
          replace hAt : At B h0 (mkG [(0, fV (Rep.slice GTolerance.rep) x0), (3, fV r_i64 s1), (31, fV Rep.bool ((!v3) || (!v5)))]) (mkO []) F 48 a w := hAt
          refine then_n ?_
          refine wp_if hAt (by rfl) ?_ ?_
          · intro hb9
            have H := iteT hb9 H
            refine wp_seq ?_
            refine reg [⟨fV r_i64 2, [], [], []⟩] [2] [] hAt
                ⟨ok_assign rfl opdI, trivial⟩ (by kernel_rfl) ?_
            clear hAt
            intro a w hAt
            replace hAt : At B h0 (mkG [(2, fV r_i64 2)]) (mkO []) F 48 a w := hAt
            refine then_n ?_
            refine wp_ret ?_
            refine then_r ?_
            refine blk_r ?_
            refine then_r ?_
            cases H
            exact ⟨ret_ne, rfl, hAt.pick [2] []⟩
          · intro hb9
            have H := iteF hb9 H
            refine wp_skip ?_
            refine then_n ?_
            refine wp_seq ?_
            obtain ⟨v6, hv6, H⟩ := bindE H
            obtain ⟨v7, hv7, H⟩ := bindE H
            refine regd [⟨fV r_i64 s1, [], [(3, none)], []⟩,
                ⟨fV Rep.bool (cmpI .gtr s1 0), [], [(32, some 0)], []⟩,
                ⟨fV Rep.bool (cmpI .gtr s1 0), [], [(33, some 1)], []⟩,
                ⟨Fact.when ((cmpI .gtr s1 0) = true) (fV (Rep.slice GTolerance.rep) x0), [], [(34, some 2), (0, none)], []⟩,
                ⟨Fact.when ((cmpI .gtr s1 0) = true) (fV r_i64 s1), [], [(34, some 2), (3, none)], []⟩,
                ⟨Fact.when ((cmpI .gtr s1 0) = true) (fRef GTolerance.rep v6), [], [(34, some 2), (35, some 3), (36, some 4)], []⟩,
                ⟨Fact.when ((cmpI .gtr s1 0) = true) (fRef r_i64 v6.From), [], [(34, some 2), (37, some 5)], []⟩,
                ⟨Fact.when ((cmpI .gtr s1 0) = true) (fV r_i64 v6.From), [], [(34, some 2), (38, some 6)], []⟩,
                ⟨Fact.when ((cmpI .gtr s1 0) = true) (fV (Rep.slice GTolerance.rep) x0), [], [(34, some 2), (0, none)], []⟩,
                ⟨Fact.when ((cmpI .gtr s1 0) = true) (fV r_i64 s1), [], [(34, some 2), (3, none)], []⟩,
                ⟨Fact.when ((cmpI .gtr s1 0) = true) (fV r_i64 (IntKind.i64.wrap (s1 - 1))), [], [(34, some 2), (41, some 9)], []⟩,
                ⟨Fact.when ((cmpI .gtr s1 0) = true) (fRef GTolerance.rep v7), [], [(34, some 2), (40, some 8), (42, some 10)], []⟩,
                ⟨Fact.when ((cmpI .gtr s1 0) = true) (fRef r_i64 v7.From), [], [(34, some 2), (43, some 11)], []⟩,
                ⟨Fact.when ((cmpI .gtr s1 0) = true) (fV r_i64 v7.From), [], [(34, some 2), (44, some 12)], []⟩,
                ⟨Fact.when ((cmpI .gtr s1 0) = true) (fV Rep.bool (cmpI .leq v6.From v7.From)), [], [(34, some 2), (39, some 7), (45, some 13)], []⟩,
                ⟨fV Rep.bool ((cmpI .gtr s1 0) && (cmpI .leq v6.From v7.From)), [], [(34, some 2), (46, some 14)], []⟩] [0, 1, 2, 3, 4, 5, 6, 7, 8, 9, 10, 11, 12, 13, 14, 15] [0, 1, 2, 3, 4, 5, 6, 7, 8, 9, 10, 11, 12, 13, 14, 15] [0, 3, 47] [] hAt
                ⟨ok_move rfl opd0,
                ok_cmp (op := .gtr) (by simp) rfl rfl opd0 opdI,
                ok_move rfl opd0,
                obl_tt rfl rfl rfl rfl rfl rfl rfl (fun hg => ok_move rfl opd1),
                obl_tt rfl rfl rfl rfl rfl rfl rfl (fun hg => ok_move rfl opd1),
                obl_tt rfl rfl rfl rfl rfl rfl rfl (fun hg => ok_index ty146 un81 (iteT hg hv6) rfl (opd1.on hg) (opd2.on hg)),
                obl_tt rfl rfl rfl rfl rfl rfl rfl (fun hg => ok_field GTolerance.l0 fo146_0 rfl (opd1.on hg)),
                obl_tt rfl rfl rfl rfl rfl rfl rfl (fun hg => ok_load ty3 rfl (opd1.on hg)),
                obl_tt rfl rfl rfl rfl rfl rfl rfl (fun hg => ok_move rfl opd1),
                obl_tt rfl rfl rfl rfl rfl rfl rfl (fun hg => ok_move rfl opd1),
                obl_tt rfl rfl rfl rfl rfl rfl rfl (fun hg => ok_sub rfl (opd1.on hg) opdI),
                obl_tt rfl rfl rfl rfl rfl rfl rfl (fun hg => ok_index ty146 un81 (iteT hg hv7) rfl (opd1.on hg) (opd2.on hg)),
                obl_tt rfl rfl rfl rfl rfl rfl rfl (fun hg => ok_field GTolerance.l0 fo146_0 rfl (opd1.on hg)),
                obl_tt rfl rfl rfl rfl rfl rfl rfl (fun hg => ok_load ty3 rfl (opd1.on hg)),
                obl_tt rfl rfl rfl rfl rfl rfl rfl (fun hg => ok_cmp (op := .leq) (by simp) rfl rfl (opd1.on hg) (opd2.on hg)),
                ok_and rfl opd0 (fun e => (opd1.on e)), trivial⟩ (by kernel_rfl) ?_
            clear hAt
            intro a w hAt
            replace hAt : At B h0 (mkG [(0, fV (Rep.slice GTolerance.rep) x0), (3, fV r_i64 s1), (47, fV Rep.bool ((cmpI .gtr s1 0) && (cmpI .leq v6.From v7.From)))]) (mkO []) F 48 a w := hAt
            refine then_n ?_
            refine wp_if hAt (by rfl) ?_ ?_
            · intro hb8
              have H := iteT hb8 H
              refine wp_seq ?_
              refine reg [⟨fV r_i64 10, [], [], []⟩] [2] [] hAt
                  ⟨ok_assign rfl opdI, trivial⟩ (by kernel_rfl) ?_
              clear hAt
              intro a w hAt
              replace hAt : At B h0 (mkG [(2, fV r_i64 10)]) (mkO []) F 48 a w := hAt
              refine then_n ?_
              refine wp_ret ?_
              refine blk_r ?_
              refine then_r ?_
              cases H
              exact ⟨ret_ne, rfl, hAt.pick [2] []⟩
            · intro hb8
              have H := iteF hb8 H
              refine wp_skip ?_
              refine blk_n ?_
              refine then_n ?_
              refine reg [⟨fV r_i64 s1, [], [(3, none)], []⟩,
                  ⟨fV r_i64 (IntKind.i64.wrap (s1 + 1)), [], [(14, some 0)], []⟩,
                  ⟨fV r_i64 (IntKind.i64.wrap (s1 + 1)), [], [(15, some 1)], []⟩] [0, 3] [] hAt
                  ⟨ok_move rfl opd0,
                  ok_add rfl opd0 opdI,
                  ok_assign rfl opd0, trivial⟩ (by kernel_rfl) ?_
              clear hAt
              intro a w hAt
              replace hAt : At B h0 (mkG [(0, fV (Rep.slice GTolerance.rep) x0), (3, fV r_i64 (IntKind.i64.wrap (s1 + 1)))]) (mkO []) F 48 a w := hAt
              cases H
              exact ⟨rfl, hAt.pick [0, 3] []⟩
        · intro hb10
          have H := iteF hb10 H
          refine wp_exit ?_
          refine then_x ?_
          cases H
          exact ⟨ex_ne, rfl, hAt.pick [] []⟩
      · exact hAt.pick [0, 3] []
      · clear hAt
        intro e a w hp
        cases o11 with
        | inl l13 =>
          rw [Sum.elim_inl] at H
          obtain ⟨rfl, hAt⟩ := hp
          refine blk_eq ?_
          refine then_n ?_
          refine wp_seq ?_
          refine reg [⟨fV r_i64 0, [], [], []⟩] [2] [] hAt
              ⟨ok_assign rfl opdI, trivial⟩ (by kernel_rfl) ?_
          clear hAt
          intro a w hAt
          replace hAt : At B h0 (mkG [(2, fV r_i64 0)]) (mkO []) F 48 a w := hAt
          refine then_n ?_
          refine wp_ret ?_
          cases H
          exact ret1 rfl (rv_tmp rfl rfl) hAt
        | inr r14 =>
          rw [Sum.elim_inr] at H
          replace hp := hp
          obtain ⟨rfl, hAt⟩ := hp
          refine blk_r ?_
          refine then_r ?_
          cases H
          exact ret1 rfl (rv_tmp rfl rfl) hAt
theorem ok_f_ref09_Allowed (N : Nat) (x0 : (List GTolerance)) (x1 : Int) (r : Int × Int) (H : f_ref09_Allowed N x0 x1 = some r) : FnOk Try.prog 46 [fV (Rep.slice GTolerance.rep) x0, fV r_i64 x1] (fT2 (fV r_i64 (r.1)) (fV r_i64 (r.2))) := by
  unfold f_ref09_Allowed at H
  refine fn_enter Try.func46 rfl rfl (by kernel_rfl) ?_
  intro κ B h0 F a w hAt
  refine wp_seq ?_
  refine reg [⟨fV r_i64 0, [], [], []⟩,
      ⟨fV r_i64 0, [], [], []⟩] [0, 1] [] hAt
      ⟨ok_assign rfl opdI,
      ok_assign rfl opdI, trivial⟩ (by kernel_rfl) ?_
  clear hAt
  intro a w hAt
  replace hAt : At B h0 (mkG [(0, fV (Rep.slice GTolerance.rep) x0), (1, fV r_i64 x1)]) (mkO []) F 42 a w := hAt
  refine then_n ?_
  refine wp_seq ?_
  refine wp_seq ?_
  obtain ⟨v1, hv1, H⟩ := bindE H
  refine reg [⟨fV (Rep.slice GTolerance.rep) x0, [], [(0, none)], []⟩,
      ⟨fV r_i64 v1, [], [(9, some 0)], []⟩,
      ⟨fV r_i64 v1, [], [(10, some 1)], []⟩] [0, 1, 6] [] hAt
      ⟨ok_move rfl opd0,
      ok_call (ok_f_ref09_CheckTolerances N x0 _ hv1) Try.func88 (by kernel_rfl) (by kernel_rfl) rfl ⟨opd0, trivial⟩,
      ok_assign rfl opd0, trivial⟩ (by kernel_rfl) ?_
  clear hAt
  intro a w hAt
  replace hAt : At B h0 (mkG [(0, fV (Rep.slice GTolerance.rep) x0), (1, fV r_i64 x1), (6, fV r_i64 v1)]) (mkO []) F 42 a w := hAt
  refine then_n ?_
  refine wp_seq ?_
  refine reg [⟨fV r_i64 v1, [], [(6, none)], []⟩,
      ⟨fV Rep.bool (cmpI .neq v1 0), [], [(11, some 0)], []⟩] [0, 1, 6, 12] [] hAt
      ⟨ok_move rfl opd0,
      ok_cmp (op := .neq) (by simp) rfl rfl opd0 opdI, trivial⟩ (by kernel_rfl) ?_
  clear hAt
  intro a w hAt
  replace hAt : At B h0 (mkG [(0, fV (Rep.slice GTolerance.rep) x0), (1, fV r_i64 x1), (6, fV r_i64 v1), (12, fV Rep.bool (cmpI .neq v1 0))]) (mkO []) F 42 a w := hAt
  refine then_n ?_
  refine wp_if hAt (by rfl) ?_ ?_
  · intro hb14
    have H := iteT hb14 H
    refine wp_seq ?_
    refine reg [⟨fV r_i64 v1, [], [(6, none)], []⟩,
        ⟨fV r_i64 0, [], [], []⟩,
        ⟨fV r_i64 v1, [], [(13, some 0)], []⟩] [4, 5] [] hAt
        ⟨ok_move rfl opd0,
        ok_assign rfl opdI,
        ok_assign rfl opd0, trivial⟩ (by kernel_rfl) ?_
    clear hAt
    intro a w hAt
    replace hAt : At B h0 (mkG [(4, fV r_i64 0), (5, fV r_i64 v1)]) (mkO []) F 42 a w := hAt
    refine then_n ?_
    refine wp_ret ?_
    refine then_r ?_
    cases H
    exact ret2 rfl (rv_tmp rfl rfl) (rv_tmp rfl rfl) hAt
  · intro hb14
    have H := iteF hb14 H
    refine wp_skip ?_
    refine then_n ?_
    refine wp_seq ?_
    refine wp_seq ?_
    obtain ⟨v2, hv2, H⟩ := bindE H
    refine reg [⟨fV r_i64 x1, [], [(1, none)], []⟩,
        ⟨fV Rep.bool v2, [], [(14, some 0)], []⟩,
        ⟨fV Rep.bool (!v2), [], [(15, some 1)], []⟩] [0, 1, 16] [] hAt
        ⟨ok_move rfl opd0,
        ok_call (ok_f_ref09_within N x1 0 1000000 _ hv2) Try.func69 (by kernel_rfl) (by kernel_rfl) rfl ⟨opd0, ⟨opdI, ⟨opdI, trivial⟩⟩⟩,
        ok_not rfl opd0, trivial⟩ (by kernel_rfl) ?_
    clear hAt
    intro a w hAt
    replace hAt : At B h0 (mkG [(0, fV (Rep.slice GTolerance.rep) x0), (1, fV r_i64 x1), (16, fV Rep.bool (!v2))]) (mkO []) F 42 a w := hAt
    refine then_n ?_
    refine wp_if hAt (by rfl) ?_ ?_
    · intro hb13
      have H := iteT hb13 H
      refine wp_seq ?_
      refine reg [⟨fV r_i64 0, [], [], []⟩,
          ⟨fV r_i64 2, [], [], []⟩] [4, 5] [] hAt
          ⟨ok_assign rfl opdI,
          ok_assign rfl opdI, trivial⟩ (by kernel_rfl) ?_
      clear hAt
      intro a w hAt
      replace hAt : At B h0 (mkG [(4, fV r_i64 0), (5, fV r_i64 2)]) (mkO []) F 42 a w := hAt
      refine then_n ?_
      refine wp_ret ?_
      refine then_r ?_
      cases H
      exact ret2 rfl (rv_tmp rfl rfl) (rv_tmp rfl rfl) hAt
    · intro hb13
      have H := iteF hb13 H
      refine wp_skip ?_
      refine then_n ?_
      refine wp_seq ?_
      refine wp_seq ?_
      obtain ⟨v3, hv3, H⟩ := bindE H
      refine reg [⟨fV (Rep.slice GTolerance.rep) x0, [], [(0, none)], []⟩,
          ⟨fRef GTolerance.rep v3, [], [(17, some 0)], []⟩,
          ⟨fRef r_i64 v3.From, [], [(18, some 1)], []⟩,
          ⟨fV r_i64 v3.From, [], [(19, some 2)], []⟩,
          ⟨fV r_i64 x1, [], [(1, none)], []⟩,
          ⟨fV Rep.bool (cmpI .gtr v3.From x1), [], [(20, some 3), (21, some 4)], []⟩] [0, 1, 22] [] hAt
          ⟨ok_move rfl opd0,
          ok_index ty146 un81 hv3 rfl opd0 opdI,
          ok_field GTolerance.l0 fo146_0 rfl opd0,
          ok_load ty3 rfl opd0,
          ok_move rfl opd0,
          ok_cmp (op := .gtr) (by simp) rfl rfl opd0 opd1, trivial⟩ (by kernel_rfl) ?_
      clear hAt
      intro a w hAt
      replace hAt : At B h0 (mkG [(0, fV (Rep.slice GTolerance.rep) x0), (1, fV r_i64 x1), (22, fV Rep.bool (cmpI .gtr v3.From x1))]) (mkO []) F 42 a w := hAt
      refine then_n ?_
      refine wp_if hAt (by rfl) ?_ ?_
      · intro hb12
        have H := iteT hb12 H
        refine wp_seq ?_
        refine reg [⟨fV r_i64 0, [], [], []⟩,
            ⟨fV r_i64 6, [], [], []⟩] [4, 5] [] hAt
            ⟨ok_assign rfl opdI,
            ok_assign rfl opdI, trivial⟩ (by kernel_rfl) ?_
        clear hAt
        intro a w hAt
        replace hAt : At B h0 (mkG [(4, fV r_i64 0), (5, fV r_i64 6)]) (mkO []) F 42 a w := hAt
        refine then_n ?_
        refine wp_ret ?_
        refine then_r ?_
        cases H
        exact ret2 rfl (rv_tmp rfl rfl) (rv_tmp rfl rfl) hAt
      · intro hb12
        have H := iteF hb12 H
        refine wp_skip ?_
        refine then_n ?_
        refine wp_seq ?_
        refine reg [⟨fV r_i64 0, [], [], []⟩] [0, 1, 7] [] hAt
            ⟨ok_assign rfl opdI, trivial⟩ (by kernel_rfl) ?_
        clear hAt
        intro a w hAt
        replace hAt : At B h0 (mkG [(0, fV (Rep.slice GTolerance.rep) x0), (1, fV r_i64 x1), (7, fV r_i64 0)]) (mkO []) F 42 a w := hAt
        refine then_n ?_
        refine wp_seq ?_
        refine wp_seq ?_
        refine reg [⟨fV r_i64 0, [], [], []⟩] [0, 1, 7, 8] [] hAt
            ⟨ok_assign rfl opdI, trivial⟩ (by kernel_rfl) ?_
        clear hAt
        intro a w hAt
        replace hAt : At B h0 (mkG [(0, fV (Rep.slice GTolerance.rep) x0), (1, fV r_i64 x1), (7, fV r_i64 0), (8, fV r_i64 0)]) (mkO []) F 42 a w := hAt
        refine then_n ?_
        refine wp_block ?_
        obtain ⟨o9, hl10, H⟩ := bindE H
        refine wp_mono (wp_loopN (f := f_ref09_Allowed_L1 N x0 x1) (fun (s4 : (Int × Int)) a w => At B h0 (mkG [(0, fV (Rep.slice GTolerance.rep) x0), (1, fV r_i64 x1), (7, fV r_i64 s4.1), (8, fV r_i64 s4.2)]) (mkO []) F 42 a w) (fun o e a w => (fun v => e = .exit 0 ∧ At B h0 (mkG [(7, fV r_i64 v)]) (mkO []) F 42 a w) o) ?_ N (0, 0) o9 _ _ hl10 ?_) ?_
        · clear H hAt hl10
          intro s4 r11 a w H hAt
          unfold f_ref09_Allowed_L1 at H
          refine wp_seq ?_
          refine wp_seq ?_
          refine reg [⟨fV r_i64 s4.2, [], [(8, none)], []⟩,
              ⟨fV (Rep.slice GTolerance.rep) x0, [], [(0, none)], []⟩,
              ⟨fV r_i64 (List.length x0 : Int), [], [(24, some 1)], []⟩,
              ⟨fV Rep.bool (cmpI .lss s4.2 (List.length x0 : Int)), [], [(23, some 0), (25, some 2)], []⟩] [0, 1, 7, 8, 26] [] hAt
              ⟨ok_move rfl opd0,
              ok_move rfl opd0,
              ok_len un81 rfl opd0,
              ok_cmp (op := .lss) (by simp) rfl rfl opd0 opd1, trivial⟩ (by kernel_rfl) ?_
          clear hAt
          intro a w hAt
          replace hAt : At B h0 (mkG [(0, fV (Rep.slice GTolerance.rep) x0), (1, fV r_i64 x1), (7, fV r_i64 s4.1), (8, fV r_i64 s4.2), (26, fV Rep.bool (cmpI .lss s4.2 (List.length x0 : Int)))]) (mkO []) F 42 a w := hAt
          refine then_n ?_
          refine wp_if hAt (by rfl) ?_ ?_
          · intro hb8
            have H := iteT hb8 H
            refine wp_skip ?_
            refine then_n ?_
            refine wp_seq ?_
            refine wp_block ?_
            refine wp_seq ?_
            obtain ⟨v5, hv5, H⟩ := bindE H
            refine reg [⟨fV (Rep.slice GTolerance.rep) x0, [], [(0, none)], []⟩,
                ⟨fV r_i64 s4.2, [], [(8, none)], []⟩,
                ⟨fRef GTolerance.rep v5, [], [(29, some 0), (30, some 1)], []⟩,
                ⟨fRef r_i64 v5.From, [], [(31, some 2)], []⟩,
                ⟨fV r_i64 v5.From, [], [(32, some 3)], []⟩,
                ⟨fV r_i64 x1, [], [(1, none)], []⟩,
                ⟨fV Rep.bool (cmpI .leq v5.From x1), [], [(33, some 4), (34, some 5)], []⟩] [0, 1, 7, 8, 35] [] hAt
                ⟨ok_move rfl opd0,
                ok_move rfl opd0,
                ok_index ty146 un81 hv5 rfl opd0 opd1,
                ok_field GTolerance.l0 fo146_0 rfl opd0,
                ok_load ty3 rfl opd0,
                ok_move rfl opd0,
                ok_cmp (op := .leq) (by simp) rfl rfl opd0 opd1, trivial⟩ (by kernel_rfl) ?_
            clear hAt
            intro a w hAt
            replace hAt : At B h0 (mkG [(0, fV (Rep.slice GTolerance.rep) x0), (1, fV r_i64 x1), (7, fV r_i64 s4.1), (8, fV r_i64 s4.2), (35, fV Rep.bool (cmpI .leq v5.From x1))]) (mkO []) F 42 a w := hAt
            refine then_n ?_
            refine wp_if hAt (by rfl) ?_ ?_
            · intro hb7
              have H := iteT hb7 H
              obtain ⟨v6, hv6, H⟩ := bindE H
              refine reg [⟨fV (Rep.slice GTolerance.rep) x0, [], [(0, none)], []⟩,
                  ⟨fV r_i64 s4.2, [], [(8, none)], []⟩,
                  ⟨fRef GTolerance.rep v6, [], [(36, some 0), (37, some 1)], []⟩,
                  ⟨fRef r_i64 v6.Most, [], [(38, some 2)], []⟩,
                  ⟨fV r_i64 v6.Most, [], [(39, some 3)], []⟩,
                  ⟨fV r_i64 v6.Most, [], [(40, some 4)], []⟩] [0, 1, 7, 8] [] hAt
                  ⟨ok_move rfl opd0,
                  ok_move rfl opd0,
                  ok_index ty146 un81 hv6 rfl opd0 opd1,
                  ok_field GTolerance.l1 fo146_1 rfl opd0,
                  ok_load ty3 rfl opd0,
                  ok_assign rfl opd0, trivial⟩ (by kernel_rfl) ?_
              clear hAt
              intro a w hAt
              replace hAt : At B h0 (mkG [(0, fV (Rep.slice GTolerance.rep) x0), (1, fV r_i64 x1), (7, fV r_i64 v6.Most), (8, fV r_i64 s4.2)]) (mkO []) F 42 a w := hAt
              refine blk_n ?_
              refine then_n ?_
              refine reg [⟨fV r_i64 s4.2, [], [(8, none)], []⟩,
                  ⟨fV r_i64 (IntKind.i64.wrap (s4.2 + 1)), [], [(27, some 0)], []⟩,
                  ⟨fV r_i64 (IntKind.i64.wrap (s4.2 + 1)), [], [(28, some 1)], []⟩] [0, 1, 7, 8] [] hAt
                  ⟨ok_move rfl opd0,
                  ok_add rfl opd0 opdI,
                  ok_assign rfl opd0, trivial⟩ (by kernel_rfl) ?_
              clear hAt
              intro a w hAt
              replace hAt : At B h0 (mkG [(0, fV (Rep.slice GTolerance.rep) x0), (1, fV r_i64 x1), (7, fV r_i64 v6.Most), (8, fV r_i64 (IntKind.i64.wrap (s4.2 + 1)))]) (mkO []) F 42 a w := hAt
              cases H
              exact ⟨rfl, hAt.pick [0, 1, 7, 8] []⟩
            · intro hb7
              have H := iteF hb7 H
              refine wp_skip ?_
              refine blk_n ?_
              refine then_n ?_
              refine reg [⟨fV r_i64 s4.2, [], [(8, none)], []⟩,
                  ⟨fV r_i64 (IntKind.i64.wrap (s4.2 + 1)), [], [(27, some 0)], []⟩,
                  ⟨fV r_i64 (IntKind.i64.wrap (s4.2 + 1)), [], [(28, some 1)], []⟩] [0, 1, 7, 8] [] hAt
                  ⟨ok_move rfl opd0,
                  ok_add rfl opd0 opdI,
                  ok_assign rfl opd0, trivial⟩ (by kernel_rfl) ?_
              clear hAt
              intro a w hAt
              replace hAt : At B h0 (mkG [(0, fV (Rep.slice GTolerance.rep) x0), (1, fV r_i64 x1), (7, fV r_i64 s4.1), (8, fV r_i64 (IntKind.i64.wrap (s4.2 + 1)))]) (mkO []) F 42 a w := hAt
              cases H
              exact ⟨rfl, hAt.pick [0, 1, 7, 8] []⟩
          · intro hb8
            have H := iteF hb8 H
            refine wp_exit ?_
            refine then_x ?_
            cases H
            exact ⟨ex_ne, rfl, hAt.pick [7] []⟩
        · exact hAt.pick [0, 1, 7, 8] []
        · clear hAt
          intro e a w hp
          obtain ⟨rfl, hAt⟩ := hp
          refine blk_eq ?_
          refine then_n ?_
          refine wp_seq ?_
          refine reg [⟨fV r_i64 o9, [], [(7, none)], []⟩,
              ⟨fV r_i64 o9, [], [(41, some 0)], []⟩,
              ⟨fV r_i64 0, [], [], []⟩] [4, 5] [] hAt
              ⟨ok_move rfl opd0,
              ok_assign rfl opd0,
              ok_assign rfl opdI, trivial⟩ (by kernel_rfl) ?_
          clear hAt
          intro a w hAt
          replace hAt : At B h0 (mkG [(4, fV r_i64 o9), (5, fV r_i64 0)]) (mkO []) F 42 a w := hAt
          refine then_n ?_
          refine wp_ret ?_
          cases H
          exact ret2 rfl (rv_tmp rfl rfl) (rv_tmp rfl rfl) hAt
theorem ok_f_survey_Clearances (N : Nat) (x0 : (List GTolerance)) (x1 : (List GBearing)) (r : (List Int) × Int) (H : f_survey_Clearances N x0 x1 = some r) : FnOk Try.prog 47 [fV (Rep.slice GTolerance.rep) x0, fV (Rep.slice GBearing.rep) x1] (fT2 (fV (Rep.slice r_i64) (r.1)) (fV r_i64 (r.2))) := by
  unfold f_survey_Clearances at H
  refine fn_enter Try.func47 rfl rfl (by kernel_rfl) ?_
  intro κ B h0 F a w hAt
  refine wp_seq ?_
  refine reg [⟨fV (Rep.slice r_i64) [], [(4, some (tipE 3 r_i64.sz))], [], []⟩,
      ⟨fV r_i64 0, [], [], []⟩] [0, 1] [] hAt
      ⟨ok_nilTip rfl (.inl rfl),
      ok_assign rfl opdI, trivial⟩ (by kernel_rfl) ?_
  clear hAt
  intro a w hAt
  replace hAt : At B h0 (mkG [(0, fV (Rep.slice GTolerance.rep) x0), (1, fV (Rep.slice GBearing.rep) x1)]) (mkO []) F 86 a w := hAt
  refine then_n ?_
  refine wp_seq ?_
  refine wp_seq ?_
  obtain ⟨v1, hv1, H⟩ := bindE H
  refine reg [⟨fV (Rep.slice GTolerance.rep) x0, [], [(0, none)], []⟩,
      ⟨fV r_i64 v1, [], [(14, some 0)], []⟩,
      ⟨fV r_i64 v1, [], [(15, some 1)], []⟩] [0, 1, 6] [] hAt
      ⟨ok_move rfl opd0,
      ok_call (ok_f_survey_checkTable N x0 _ hv1) Try.func85 (by kernel_rfl) (by kernel_rfl) rfl ⟨opd0, trivial⟩,
      ok_assign rfl opd0, trivial⟩ (by kernel_rfl) ?_
  clear hAt
  intro a w hAt
  replace hAt : At B h0 (mkG [(0, fV (Rep.slice GTolerance.rep) x0), (1, fV (Rep.slice GBearing.rep) x1), (6, fV r_i64 v1)]) (mkO []) F 86 a w := hAt
  refine then_n ?_
  refine wp_seq ?_
  refine reg [⟨fV r_i64 v1, [], [(6, none)], []⟩,
      ⟨fV Rep.bool (cmpI .neq v1 0), [], [(16, some 0)], []⟩] [0, 1, 6, 17] [] hAt
      ⟨ok_move rfl opd0,
      ok_cmp (op := .neq) (by simp) rfl rfl opd0 opdI, trivial⟩ (by kernel_rfl) ?_
  clear hAt
  intro a w hAt
  replace hAt : At B h0 (mkG [(0, fV (Rep.slice GTolerance.rep) x0), (1, fV (Rep.slice GBearing.rep) x1), (6, fV r_i64 v1), (17, fV Rep.bool (cmpI .neq v1 0))]) (mkO []) F 86 a w := hAt
  refine then_n ?_
  refine wp_if hAt (by rfl) ?_ ?_
  · intro hb23
    have H := iteT hb23 H
    refine wp_seq ?_
    refine reg [⟨fV r_i64 v1, [], [(6, none)], []⟩,
        ⟨fV (Rep.slice r_i64) [], [(4, some (tipE 3 r_i64.sz))], [], []⟩,
        ⟨fV r_i64 v1, [], [(18, some 0)], []⟩] [4, 5] [4] hAt
        ⟨ok_move rfl opd0,
        ok_nilTip rfl (.inl rfl),
        ok_assign rfl opd0, trivial⟩ (by kernel_rfl) ?_
    clear hAt
    intro a w hAt
    replace hAt : At B h0 (mkG [(4, fV (Rep.slice r_i64) []), (5, fV r_i64 v1)]) (mkO [(4, tipE 3 r_i64.sz)]) F 86 a w := hAt
    refine then_n ?_
    refine wp_ret ?_
    refine then_r ?_
    cases H
    exact ret2 rfl (rv_tmp rfl rfl) (rv_tmp rfl rfl) hAt
  · intro hb23
    have H := iteF hb23 H
    refine wp_skip ?_
    refine then_n ?_
    refine wp_seq ?_
    refine wp_seq ?_
    refine reg [⟨fV (Rep.slice GBearing.rep) x1, [], [(1, none)], []⟩,
        ⟨fV r_i64 (List.length x1 : Int), [], [(19, some 0)], []⟩,
        ⟨fV Rep.bool (cmpI .gtr (List.length x1 : Int) 40), [], [(20, some 1)], []⟩] [0, 1, 21] [] hAt
        ⟨ok_move rfl opd0,
        ok_len un82 rfl opd0,
        ok_cmp (op := .gtr) (by simp) rfl rfl opd0 opdI, trivial⟩ (by kernel_rfl) ?_
    clear hAt
    intro a w hAt
    replace hAt : At B h0 (mkG [(0, fV (Rep.slice GTolerance.rep) x0), (1, fV (Rep.slice GBearing.rep) x1), (21, fV Rep.bool (cmpI .gtr (List.length x1 : Int) 40))]) (mkO []) F 86 a w := hAt
    refine then_n ?_
    refine wp_if hAt (by rfl) ?_ ?_
    · intro hb22
      have H := iteT hb22 H
      refine wp_seq ?_
      refine reg [⟨fV (Rep.slice r_i64) [], [(4, some (tipE 3 r_i64.sz))], [], []⟩,
          ⟨fV r_i64 8, [], [], []⟩] [4, 5] [4] hAt
          ⟨ok_nilTip rfl (.inl rfl),
          ok_assign rfl opdI, trivial⟩ (by kernel_rfl) ?_
      clear hAt
      intro a w hAt
      replace hAt : At B h0 (mkG [(4, fV (Rep.slice r_i64) []), (5, fV r_i64 8)]) (mkO [(4, tipE 3 r_i64.sz)]) F 86 a w := hAt
      refine then_n ?_
      refine wp_ret ?_
      refine then_r ?_
      cases H
      exact ret2 rfl (rv_tmp rfl rfl) (rv_tmp rfl rfl) hAt
    · intro hb22
      have H := iteF hb22 H
      refine wp_skip ?_
      refine then_n ?_
      refine wp_seq ?_
      refine reg [⟨fV (Rep.slice r_i64) [], [(7, some (tipE 3 r_i64.sz))], [], []⟩] [0, 1, 7] [7] hAt
          ⟨ok_nilTip rfl (.inl rfl), trivial⟩ (by kernel_rfl) ?_
      clear hAt
      intro a w hAt
      replace hAt : At B h0 (mkG [(0, fV (Rep.slice GTolerance.rep) x0), (1, fV (Rep.slice GBearing.rep) x1), (7, fV (Rep.slice r_i64) [])]) (mkO [(7, tipE 3 r_i64.sz)]) F 86 a w := hAt
      refine then_n ?_
      refine wp_seq ?_
      refine reg [⟨Fact.triv, [(22, some (mapE kStr Rep.bool ([] : (List (Str × Bool)))))], [], []⟩,
          ⟨Fact.triv, [(22, none), (8, some (mapE kStr Rep.bool ([] : (List (Str × Bool)))))], [], [(22, some 0)]⟩] [0, 1, 7] [7, 8] hAt
          ⟨ok_makeMap rfl rfl,
          (ok_moveOwn (f := Fact.triv) rfl rfl (.inr rfl) (fun _ _ _ => trivial)), trivial⟩ (by kernel_rfl) ?_
      clear hAt
      intro a w hAt
      replace hAt : At B h0 (mkG [(0, fV (Rep.slice GTolerance.rep) x0), (1, fV (Rep.slice GBearing.rep) x1), (7, fV (Rep.slice r_i64) [])]) (mkO [(7, tipE 3 r_i64.sz), (8, mapE kStr Rep.bool ([] : (List (Str × Bool))))]) F 86 a w := hAt
      refine then_n ?_
      refine wp_seq ?_
      refine wp_seq ?_
      refine reg [⟨fV (Rep.slice GBearing.rep) x1, [], [(1, none)], []⟩,
          ⟨fV r_i64 (List.length x1 : Int), [], [(23, some 0)], []⟩,
          ⟨fV r_i64 0, [], [], []⟩] [0, 7, 23, 24, 25] [7, 8] hAt
          ⟨ok_move rfl opd0,
          ok_len un82 rfl opd0,
          ok_move rfl opdI, trivial⟩ (by kernel_rfl) ?_
      clear hAt
      intro a w hAt
      replace hAt : At B h0 (mkG [(0, fV (Rep.slice GTolerance.rep) x0), (7, fV (Rep.slice r_i64) []), (23, fV (Rep.slice GBearing.rep) x1), (24, fV r_i64 (List.length x1 : Int)), (25, fV r_i64 0)]) (mkO [(7, tipE 3 r_i64.sz), (8, mapE kStr Rep.bool ([] : (List (Str × Bool))))]) F 86 a w := hAt
      refine then_n ?_
      refine wp_block ?_
      obtain ⟨o17, hl18, H⟩ := bindE H
      refine wp_mono (wp_loopN (f := f_survey_Clearances_L1 N x0 x1) (fun (s2 : ((List Int) × (List (Str × Bool)) × Int)) a w => At B h0 (mkG [(0, fV (Rep.slice GTolerance.rep) x0), (7, fV (Rep.slice r_i64) s2.1), (23, fV (Rep.slice GBearing.rep) x1), (24, fV r_i64 (List.length x1 : Int)), (25, fV r_i64 s2.2.2)]) (mkO [(7, tipE 3 r_i64.sz), (8, mapE kStr Rep.bool s2.2.1)]) F 86 a w) (fun o e a w => (Sum.elim (fun v => e = .exit 0 ∧ At B h0 (mkG [(7, fV (Rep.slice r_i64) v)]) (mkO [(7, tipE 3 r_i64.sz)]) F 86 a w) (fun v => e = .ret ∧ At B h0 (mkG [(4, fV (Rep.slice r_i64) v.1), (5, fV r_i64 v.2)]) (mkO [(4, tipE 3 r_i64.sz)]) F 86 a w)) o) ?_ N ([], ([] : (List (Str × Bool))), 0) o17 _ _ hl18 ?_) ?_
      · clear H hAt hl18
        intro s2 r21 a w H hAt
        unfold f_survey_Clearances_L1 at H
        refine wp_seq ?_
        refine reg [⟨fV Rep.bool (cmpI .lss s2.2.2 (List.length x1 : Int)), [], [(25, none), (24, none)], []⟩] [0, 7, 23, 24, 25, 26] [7, 8] hAt
            ⟨ok_cmp (op := .lss) (by simp) rfl rfl opd0 opd1, trivial⟩ (by kernel_rfl) ?_
        clear hAt
        intro a w hAt
        replace hAt : At B h0 (mkG [(0, fV (Rep.slice GTolerance.rep) x0), (7, fV (Rep.slice r_i64) s2.1), (23, fV (Rep.slice GBearing.rep) x1), (24, fV r_i64 (List.length x1 : Int)), (25, fV r_i64 s2.2.2), (26, fV Rep.bool (cmpI .lss s2.2.2 (List.length x1 : Int)))]) (mkO [(7, tipE 3 r_i64.sz), (8, mapE kStr Rep.bool s2.2.1)]) F 86 a w := hAt
        refine then_n ?_
        refine wp_seq ?_
        refine wp_if hAt (by rfl) ?_ ?_
        · intro hb16
          have H := iteT hb16 H
          refine wp_skip ?_
          refine then_n ?_
          refine wp_seq ?_
          refine wp_block ?_
          refine wp_seq ?_
          obtain ⟨v3, hv3, H⟩ := bindE H
          refine reg [⟨fRef GBearing.rep v3, [], [(23, none), (25, none)], []⟩,
              ⟨fV GBearing.rep v3, [], [(27, some 0)], []⟩,
              ⟨Fact.triv, [(10, some (boxE 84 GBearing.rep (⟨[], 0, 0, 0⟩ : GBearing)))], [], []⟩,
              ⟨Fact.triv, [(10, some (boxE 84 GBearing.rep v3))], [(28, some 1)], [(10, some 2)]⟩] [0, 7, 23, 24, 25] [7, 8, 10] hAt
              ⟨ok_index ty84 un82 hv3 rfl opd0 opd1,
              ok_load ty84 rfl opd0,
              ok_alloc ty84 rfl rfl,
              ok_storeBox ty84 rfl rfl opd0, trivial⟩ (by kernel_rfl) ?_
          clear hAt
          intro a w hAt
          replace hAt : At B h0 (mkG [(0, fV (Rep.slice GTolerance.rep) x0), (7, fV (Rep.slice r_i64) s2.1), (23, fV (Rep.slice GBearing.rep) x1), (24, fV r_i64 (List.length x1 : Int)), (25, fV r_i64 s2.2.2)]) (mkO [(7, tipE 3 r_i64.sz), (8, mapE kStr Rep.bool s2.2.1), (10, boxE 84 GBearing.rep v3)]) F 86 a w := hAt
          refine then_n ?_
          refine wp_seq ?_
          refine wp_block ?_
          refine wp_seq ?_
          obtain ⟨v4, hv4, H⟩ := bindE H
          refine reg [⟨fOff 10 0, [], [], [(10, none)]⟩,
              ⟨fV Rep.str v3.Name, [], [(30, some 0)], [(10, none)]⟩,
              ⟨fV Rep.bool v4, [], [(31, some 1)], []⟩,
              ⟨fV Rep.bool (!v4), [], [(32, some 2)], []⟩,
              ⟨fV Rep.bool (!v4), [], [(33, some 3)], []⟩] [0, 7, 23, 24, 25, 29] [7, 8, 10] hAt
              ⟨ok_fieldOwn fo84_0 rfl,
              ok_loadOwn GBearing.l0 ty9 rfl opd0,
              ok_call (ok_f_survey_name N v3.Name _ hv4) Try.func70 (by kernel_rfl) (by kernel_rfl) rfl ⟨opd0, trivial⟩,
              ok_not rfl opd0,
              ok_assign rfl opd0, trivial⟩ (by kernel_rfl) ?_
          clear hAt
          intro a w hAt
          replace hAt : At B h0 (mkG [(0, fV (Rep.slice GTolerance.rep) x0), (7, fV (Rep.slice r_i64) s2.1), (23, fV (Rep.slice GBearing.rep) x1), (24, fV r_i64 (List.length x1 : Int)), (25, fV r_i64 s2.2.2), (29, fV Rep.bool (!v4))]) (mkO [(7, tipE 3 r_i64.sz), (8, mapE kStr Rep.bool s2.2.1), (10, boxE 84 GBearing.rep v3)]) F 86 a w := hAt
          refine then_n ?_
          refine wp_if hAt (by rfl) ?_ ?_
          · intro hb15
            have H := iteT hb15 H
            refine wp_seq ?_
            refine reg [⟨fV (Rep.slice r_i64) [], [(4, some (tipE 3 r_i64.sz))], [], []⟩,
                ⟨fV r_i64 4, [], [], []⟩] [4, 5] [4] hAt
                ⟨ok_nilTip rfl (.inl rfl),
                ok_assign rfl opdI, trivial⟩ (by kernel_rfl) ?_
            clear hAt
            intro a w hAt
            replace hAt : At B h0 (mkG [(4, fV (Rep.slice r_i64) []), (5, fV r_i64 4)]) (mkO [(4, tipE 3 r_i64.sz)]) F 86 a w := hAt
            refine then_n ?_
            refine wp_ret ?_
            refine blk_r ?_
            refine then_r ?_
            refine blk_r ?_
            refine then_r ?_
            cases H
            exact ⟨ret_ne, rfl, hAt.pick [4, 5] [4]⟩
          · intro hb15
            have H := iteF hb15 H
            refine wp_seq ?_
            refine reg [⟨fCp 8, [], [], []⟩,
                ⟨fOff 10 0, [], [], [(10, none)]⟩,
                ⟨fV Rep.str v3.Name, [], [(36, some 1)], [(10, none)]⟩,
                ⟨fV Rep.bool (mget false s2.2.1 v3.Name), [], [(35, some 0), (37, some 2)], [(8, none)]⟩,
                ⟨fV Rep.bool (mget false s2.2.1 v3.Name), [], [(38, some 3)], []⟩] [0, 7, 23, 24, 25, 34] [7, 8, 10] hAt
                ⟨ok_cp rfl,
                ok_fieldOwn fo84_0 rfl,
                ok_loadOwn GBearing.l0 ty9 rfl opd0,
                ok_lookup ko9 ty4 un150 rfl opd0 opd1,
                ok_assign rfl opd0, trivial⟩ (by kernel_rfl) ?_
            clear hAt
            intro a w hAt
            replace hAt : At B h0 (mkG [(0, fV (Rep.slice GTolerance.rep) x0), (7, fV (Rep.slice r_i64) s2.1), (23, fV (Rep.slice GBearing.rep) x1), (24, fV r_i64 (List.length x1 : Int)), (25, fV r_i64 s2.2.2), (34, fV Rep.bool (mget false s2.2.1 v3.Name))]) (mkO [(7, tipE 3 r_i64.sz), (8, mapE kStr Rep.bool s2.2.1), (10, boxE 84 GBearing.rep v3)]) F 86 a w := hAt
            refine then_n ?_
            refine wp_if hAt (by rfl) ?_ ?_
            · intro hb14
              have H := iteT hb14 H
              refine wp_seq ?_
              refine reg [⟨fV (Rep.slice r_i64) [], [(4, some (tipE 3 r_i64.sz))], [], []⟩,
                  ⟨fV r_i64 5, [], [], []⟩] [4, 5] [4] hAt
                  ⟨ok_nilTip rfl (.inl rfl),
                  ok_assign rfl opdI, trivial⟩ (by kernel_rfl) ?_
              clear hAt
              intro a w hAt
              replace hAt : At B h0 (mkG [(4, fV (Rep.slice r_i64) []), (5, fV r_i64 5)]) (mkO [(4, tipE 3 r_i64.sz)]) F 86 a w := hAt
              refine then_n ?_
              refine wp_ret ?_
              refine blk_r ?_
              refine then_r ?_
              refine blk_r ?_
              refine then_r ?_
              cases H
              exact ⟨ret_ne, rfl, hAt.pick [4, 5] [4]⟩
            · intro hb14
              have H := iteF hb14 H
              refine wp_seq ?_
              obtain ⟨v5, hv5, H⟩ := bindE H
              refine reg [⟨fOff 10 2, [], [], [(10, none)]⟩,
                  ⟨fV r_i64 v3.Up, [], [(40, some 0)], [(10, none)]⟩,
                  ⟨fOff 10 3, [], [], [(10, none)]⟩,
                  ⟨fV r_i64 v3.Across, [], [(42, some 2)], [(10, none)]⟩,
                  ⟨fV (Rep.slice r_i64) [v3.Up, v3.Across], [], [(41, some 1), (43, some 3)], []⟩,
                  ⟨fV Rep.bool v5, [], [(44, some 4)], []⟩,
                  ⟨fV Rep.bool (!v5), [], [(45, some 5)], []⟩,
                  ⟨fV Rep.bool (!v5), [], [(46, some 6)], []⟩] [0, 7, 23, 24, 25, 39] [7, 8, 10] hAt
                  ⟨ok_fieldOwn fo84_2 rfl,
                  ok_loadOwn GBearing.l2 ty3 rfl opd0,
                  ok_fieldOwn fo84_3 rfl,
                  ok_loadOwn GBearing.l3 ty3 rfl opd0,
                  ok_buildSlice ty3 un22 rfl rfl (fillC (Lens.arr _ _ 0 (by decide)) rfl opd0 (fillC (Lens.arr _ _ 1 (by decide)) rfl opd1 fillN)),
                  ok_call (ok_f_survey_inside N 0 1000000 [v3.Up, v3.Across] _ hv5) Try.func71 (by kernel_rfl) (by kernel_rfl) rfl ⟨opdI, ⟨opdI, ⟨opd0, trivial⟩⟩⟩,
                  ok_not rfl opd0,
                  ok_assign rfl opd0, trivial⟩ (by kernel_rfl) ?_
              clear hAt
              intro a w hAt
              replace hAt : At B h0 (mkG [(0, fV (Rep.slice GTolerance.rep) x0), (7, fV (Rep.slice r_i64) s2.1), (23, fV (Rep.slice GBearing.rep) x1), (24, fV r_i64 (List.length x1 : Int)), (25, fV r_i64 s2.2.2), (39, fV Rep.bool (!v5))]) (mkO [(7, tipE 3 r_i64.sz), (8, mapE kStr Rep.bool s2.2.1), (10, boxE 84 GBearing.rep v3)]) F 86 a w := hAt
              refine then_n ?_
              refine wp_if hAt (by rfl) ?_ ?_
              · intro hb13
                have H := iteT hb13 H
                refine wp_seq ?_
                refine reg [⟨fV (Rep.slice r_i64) [], [(4, some (tipE 3 r_i64.sz))], [], []⟩,
                    ⟨fV r_i64 2, [], [], []⟩] [4, 5] [4] hAt
                    ⟨ok_nilTip rfl (.inl rfl),
                    ok_assign rfl opdI, trivial⟩ (by kernel_rfl) ?_
                clear hAt
                intro a w hAt
                replace hAt : At B h0 (mkG [(4, fV (Rep.slice r_i64) []), (5, fV r_i64 2)]) (mkO [(4, tipE 3 r_i64.sz)]) F 86 a w := hAt
                refine then_n ?_
                refine wp_ret ?_
                refine blk_r ?_
                refine then_r ?_
                refine blk_r ?_
                refine then_r ?_
                cases H
                exact ⟨ret_ne, rfl, hAt.pick [4, 5] [4]⟩
              · intro hb13
                have H := iteF hb13 H
                refine wp_skip ?_
                refine blk_n ?_
                refine then_n ?_
                refine wp_seq ?_
                refine reg [⟨fCp 8, [], [], []⟩,
                    ⟨fOff 10 0, [], [], [(10, none)]⟩,
                    ⟨fV Rep.str v3.Name, [], [(48, some 1)], [(10, none)]⟩,
                    ⟨Fact.triv, [(8, some (mapE kStr Rep.bool (mset s2.2.1 v3.Name true)))], [(47, some 0), (49, some 2)], [(8, none)]⟩] [0, 7, 23, 24, 25] [7, 8, 10] hAt
                    ⟨ok_cp rfl,
                    ok_fieldOwn fo84_0 rfl,
                    ok_loadOwn GBearing.l0 ty9 rfl opd0,
                    ok_mapUpdate ko9 un150 rfl rfl opd0 opd1 opdB, trivial⟩ (by kernel_rfl) ?_
                clear hAt
                intro a w hAt
                replace hAt : At B h0 (mkG [(0, fV (Rep.slice GTolerance.rep) x0), (7, fV (Rep.slice r_i64) s2.1), (23, fV (Rep.slice GBearing.rep) x1), (24, fV r_i64 (List.length x1 : Int)), (25, fV r_i64 s2.2.2)]) (mkO [(7, tipE 3 r_i64.sz), (8, mapE kStr Rep.bool (mset s2.2.1 v3.Name true)), (10, boxE 84 GBearing.rep v3)]) F 86 a w := hAt
                refine then_n ?_
                refine wp_seq ?_
                obtain ⟨v6, hv6, H⟩ := bindE H
                refine reg [⟨fV (Rep.slice GTolerance.rep) x0, [], [(0, none)], []⟩,
                    ⟨fOff 10 1, [], [], [(10, none)]⟩,
                    ⟨fV r_i64 v3.Diameter, [], [(52, some 1)], [(10, none)]⟩,
                    ⟨fT2 (fV r_i64 v6.1) (fV r_i64 v6.2), [], [(51, some 0), (53, some 2)], []⟩,
                    ⟨fT2 (fV r_i64 v6.1) (fV r_i64 v6.2), [], [(54, some 3)], []⟩,
                    ⟨fV r_i64 v6.1, [], [(50, some 4)], []⟩,
                    ⟨fV r_i64 v6.2, [], [(50, some 4)], []⟩,
                    ⟨fV r_i64 v6.1, [], [(55, some 5)], []⟩,
                    ⟨fV r_i64 v6.2, [], [(56, some 6)], []⟩] [0, 7, 11, 12, 23, 24, 25] [7, 8, 10] hAt
                    ⟨ok_move rfl opd0,
                    ok_fieldOwn fo84_1 rfl,
                    ok_loadOwn GBearing.l1 ty3 rfl opd0,
                    ok_call (ok_f_survey_Allowed N x0 v3.Diameter _ hv6) Try.func45 (by kernel_rfl) (by kernel_rfl) rfl ⟨opd0, ⟨opd1, trivial⟩⟩,
                    ok_move rfl opd0,
                    ok_ext20 rfl rfl opd0,
                    ok_ext21 rfl rfl opd0,
                    ok_assign rfl opd0,
                    ok_assign rfl opd0, trivial⟩ (by kernel_rfl) ?_
                clear hAt
                intro a w hAt
                replace hAt : At B h0 (mkG [(0, fV (Rep.slice GTolerance.rep) x0), (7, fV (Rep.slice r_i64) s2.1), (11, fV r_i64 v6.1), (12, fV r_i64 v6.2), (23, fV (Rep.slice GBearing.rep) x1), (24, fV r_i64 (List.length x1 : Int)), (25, fV r_i64 s2.2.2)]) (mkO [(7, tipE 3 r_i64.sz), (8, mapE kStr Rep.bool (mset s2.2.1 v3.Name true)), (10, boxE 84 GBearing.rep v3)]) F 86 a w := hAt
                refine then_n ?_
                refine wp_seq ?_
                refine wp_seq ?_
                refine reg [⟨fV r_i64 v6.2, [], [(12, none)], []⟩,
                    ⟨fV Rep.bool (cmpI .neq v6.2 0), [], [(57, some 0)], []⟩] [0, 7, 11, 12, 23, 24, 25, 58] [7, 8, 10] hAt
                    ⟨ok_move rfl opd0,
                    ok_cmp (op := .neq) (by simp) rfl rfl opd0 opdI, trivial⟩ (by kernel_rfl) ?_
                clear hAt
                intro a w hAt
                replace hAt : At B h0 (mkG [(0, fV (Rep.slice GTolerance.rep) x0), (7, fV (Rep.slice r_i64) s2.1), (11, fV r_i64 v6.1), (12, fV r_i64 v6.2), (23, fV (Rep.slice GBearing.rep) x1), (24, fV r_i64 (List.length x1 : Int)), (25, fV r_i64 s2.2.2), (58, fV Rep.bool (cmpI .neq v6.2 0))]) (mkO [(7, tipE 3 r_i64.sz), (8, mapE kStr Rep.bool (mset s2.2.1 v3.Name true)), (10, boxE 84 GBearing.rep v3)]) F 86 a w := hAt
                refine then_n ?_
                refine wp_if hAt (by rfl) ?_ ?_
                · intro hb12
                  have H := iteT hb12 H
                  refine wp_seq ?_
                  refine reg [⟨fV r_i64 v6.2, [], [(12, none)], []⟩,
                      ⟨fV (Rep.slice r_i64) [], [(4, some (tipE 3 r_i64.sz))], [], []⟩,
                      ⟨fV r_i64 v6.2, [], [(59, some 0)], []⟩] [4, 5] [4] hAt
                      ⟨ok_move rfl opd0,
                      ok_nilTip rfl (.inl rfl),
                      ok_assign rfl opd0, trivial⟩ (by kernel_rfl) ?_
                  clear hAt
                  intro a w hAt
                  replace hAt : At B h0 (mkG [(4, fV (Rep.slice r_i64) []), (5, fV r_i64 v6.2)]) (mkO [(4, tipE 3 r_i64.sz)]) F 86 a w := hAt
                  refine then_n ?_
                  refine wp_ret ?_
                  refine then_r ?_
                  refine blk_r ?_
                  refine then_r ?_
                  cases H
                  exact ⟨ret_ne, rfl, hAt.pick [4, 5] [4]⟩
                · intro hb12
                  have H := iteF hb12 H
                  refine wp_skip ?_
                  refine then_n ?_
                  refine wp_seq ?_
                  refine reg [⟨fOff 10 2, [], [], [(10, none)]⟩,
                      ⟨fV r_i64 v3.Up, [], [(60, some 0)], [(10, none)]⟩,
                      ⟨fOff 10 3, [], [], [(10, none)]⟩,
                      ⟨fV r_i64 v3.Across, [], [(62, some 2)], [(10, none)]⟩,
                      ⟨fV r_i64 (max v3.Up v3.Across), [], [(61, some 1), (63, some 3)], []⟩,
                      ⟨fV r_i64 v6.1, [], [(11, none)], []⟩,
                      ⟨fV r_i64 (IntKind.i64.wrap ((max v3.Up v3.Across) - v6.1)), [], [(64, some 4), (65, some 5)], []⟩,
                      ⟨fV r_i64 (IntKind.i64.wrap ((max v3.Up v3.Across) - v6.1)), [], [(66, some 6)], []⟩] [0, 7, 11, 13, 23, 24, 25] [7, 8] hAt
                      ⟨ok_fieldOwn fo84_2 rfl,
                      ok_loadOwn GBearing.l2 ty3 rfl opd0,
                      ok_fieldOwn fo84_3 rfl,
                      ok_loadOwn GBearing.l3 ty3 rfl opd0,
                      ok_max rfl opd0 opd1,
                      ok_move rfl opd0,
                      ok_sub rfl opd0 opd1,
                      ok_assign rfl opd0, trivial⟩ (by kernel_rfl) ?_
                  clear hAt
                  intro a w hAt
                  replace hAt : At B h0 (mkG [(0, fV (Rep.slice GTolerance.rep) x0), (7, fV (Rep.slice r_i64) s2.1), (11, fV r_i64 v6.1), (13, fV r_i64 (IntKind.i64.wrap ((max v3.Up v3.Across) - v6.1))), (23, fV (Rep.slice GBearing.rep) x1), (24, fV r_i64 (List.length x1 : Int)), (25, fV r_i64 s2.2.2)]) (mkO [(7, tipE 3 r_i64.sz), (8, mapE kStr Rep.bool (mset s2.2.1 v3.Name true))]) F 86 a w := hAt
                  refine then_n ?_
                  refine wp_block ?_
                  refine wp_seq ?_
                  refine reg [⟨fV r_i64 (IntKind.i64.wrap ((max v3.Up v3.Across) - v6.1)), [], [(13, none)], []⟩,
                      ⟨fV Rep.bool (cmpI .leq (IntKind.i64.wrap ((max v3.Up v3.Across) - v6.1)) 0), [], [(71, some 0)], []⟩,
                      ⟨fV Rep.bool (cmpI .leq (IntKind.i64.wrap ((max v3.Up v3.Across) - v6.1)) 0), [], [(72, some 1)], []⟩] [0, 7, 11, 13, 23, 24, 25, 70] [7, 8] hAt
                      ⟨ok_move rfl opd0,
                      ok_cmp (op := .leq) (by simp) rfl rfl opd0 opdI,
                      ok_assign rfl opd0, trivial⟩ (by kernel_rfl) ?_
                  clear hAt
                  intro a w hAt
                  replace hAt : At B h0 (mkG [(0, fV (Rep.slice GTolerance.rep) x0), (7, fV (Rep.slice r_i64) s2.1), (11, fV r_i64 v6.1), (13, fV r_i64 (IntKind.i64.wrap ((max v3.Up v3.Across) - v6.1))), (23, fV (Rep.slice GBearing.rep) x1), (24, fV r_i64 (List.length x1 : Int)), (25, fV r_i64 s2.2.2), (70, fV Rep.bool (cmpI .leq (IntKind.i64.wrap ((max v3.Up v3.Across) - v6.1)) 0))]) (mkO [(7, tipE 3 r_i64.sz), (8, mapE kStr Rep.bool (mset s2.2.1 v3.Name true))]) F 86 a w := hAt
                  refine then_n ?_
                  refine wp_if hAt (by rfl) ?_ ?_
                  · intro hb11
                    have H := iteT hb11 H
                    obtain ⟨v7, hv7, H⟩ := bindE H
                    refine reg [⟨fV (Rep.slice r_i64) s2.1, [(7, none), (73, some (tipE 3 r_i64.sz))], [(7, none)], [(7, none)]⟩,
                        ⟨fV (Rep.slice r_i64) [0], [], [], []⟩,
                        ⟨fV (Rep.slice r_i64) v7, [(73, none), (75, some (tipE 3 r_i64.sz))], [(73, some 0), (74, some 1)], [(73, some 0)]⟩,
                        ⟨fV (Rep.slice r_i64) v7, [(75, none), (7, some (tipE 3 r_i64.sz))], [(75, some 2)], [(75, some 2)]⟩] [0, 7, 23, 24, 25] [7, 8] hAt
                        ⟨ok_moveOwn rfl rfl (.inl rfl) opd0,
                        ok_buildSlice ty3 un22 rfl rfl (fillC (Lens.arr _ _ 0 (by decide)) rfl opdI fillN),
                        ok_append hv7 el3 un22 rfl rfl rfl opd0 opd1,
                        ok_moveOwn rfl rfl (.inr rfl) opd0, trivial⟩ (by kernel_rfl) ?_
                    clear hAt
                    intro a w hAt
                    replace hAt : At B h0 (mkG [(0, fV (Rep.slice GTolerance.rep) x0), (7, fV (Rep.slice r_i64) v7), (23, fV (Rep.slice GBearing.rep) x1), (24, fV r_i64 (List.length x1 : Int)), (25, fV r_i64 s2.2.2)]) (mkO [(7, tipE 3 r_i64.sz), (8, mapE kStr Rep.bool (mset s2.2.1 v3.Name true))]) F 86 a w := hAt
                    refine blk_n ?_
                    refine blk_n ?_
                    refine then_n ?_
                    refine reg [⟨fV r_i64 (IntKind.i64.wrap (s2.2.2 + 1)), [], [(25, none)], []⟩,
                        ⟨fV r_i64 (IntKind.i64.wrap (s2.2.2 + 1)), [], [(84, some 0)], []⟩] [0, 7, 23, 24, 25] [7, 8] hAt
                        ⟨ok_add rfl opd0 opdI,
                        ok_move rfl opd0, trivial⟩ (by kernel_rfl) ?_
                    clear hAt
                    intro a w hAt
                    replace hAt : At B h0 (mkG [(0, fV (Rep.slice GTolerance.rep) x0), (7, fV (Rep.slice r_i64) v7), (23, fV (Rep.slice GBearing.rep) x1), (24, fV r_i64 (List.length x1 : Int)), (25, fV r_i64 (IntKind.i64.wrap (s2.2.2 + 1)))]) (mkO [(7, tipE 3 r_i64.sz), (8, mapE kStr Rep.bool (mset s2.2.1 v3.Name true))]) F 86 a w := hAt
                    cases H
                    exact ⟨rfl, hAt.pick [0, 7, 23, 24, 25] [7, 8]⟩
                  · intro hb11
                    have H := iteF hb11 H
                    refine wp_seq ?_
                    refine reg [⟨fV r_i64 (IntKind.i64.wrap ((max v3.Up v3.Across) - v6.1)), [], [(13, none)], []⟩,
                        ⟨fV r_i64 (IntKind.i64.wrap (4 * (IntKind.i64.wrap ((max v3.Up v3.Across) - v6.1)))), [], [(77, some 0)], []⟩,
                        ⟨fV r_i64 v6.1, [], [(11, none)], []⟩,
                        ⟨fV Rep.bool (cmpI .lss (IntKind.i64.wrap (4 * (IntKind.i64.wrap ((max v3.Up v3.Across) - v6.1)))) v6.1), [], [(78, some 1), (79, some 2)], []⟩,
                        ⟨fV Rep.bool (cmpI .lss (IntKind.i64.wrap (4 * (IntKind.i64.wrap ((max v3.Up v3.Across) - v6.1)))) v6.1), [], [(80, some 3)], []⟩] [0, 7, 23, 24, 25, 76] [7, 8] hAt
                        ⟨ok_move rfl opd0,
                        ok_mul rfl opdI opd0,
                        ok_move rfl opd0,
                        ok_cmp (op := .lss) (by simp) rfl rfl opd0 opd1,
                        ok_assign rfl opd0, trivial⟩ (by kernel_rfl) ?_
                    clear hAt
                    intro a w hAt
                    replace hAt : At B h0 (mkG [(0, fV (Rep.slice GTolerance.rep) x0), (7, fV (Rep.slice r_i64) s2.1), (23, fV (Rep.slice GBearing.rep) x1), (24, fV r_i64 (List.length x1 : Int)), (25, fV r_i64 s2.2.2), (76, fV Rep.bool (cmpI .lss (IntKind.i64.wrap (4 * (IntKind.i64.wrap ((max v3.Up v3.Across) - v6.1)))) v6.1))]) (mkO [(7, tipE 3 r_i64.sz), (8, mapE kStr Rep.bool (mset s2.2.1 v3.Name true))]) F 86 a w := hAt
                    refine then_n ?_
                    refine wp_if hAt (by rfl) ?_ ?_
                    · intro hb10
                      have H := iteT hb10 H
                      obtain ⟨v8, hv8, H⟩ := bindE H
                      refine reg [⟨fV (Rep.slice r_i64) s2.1, [(7, none), (81, some (tipE 3 r_i64.sz))], [(7, none)], [(7, none)]⟩,
                          ⟨fV (Rep.slice r_i64) [1], [], [], []⟩,
                          ⟨fV (Rep.slice r_i64) v8, [(81, none), (83, some (tipE 3 r_i64.sz))], [(81, some 0), (82, some 1)], [(81, some 0)]⟩,
                          ⟨fV (Rep.slice r_i64) v8, [(83, none), (7, some (tipE 3 r_i64.sz))], [(83, some 2)], [(83, some 2)]⟩] [0, 7, 23, 24, 25] [7, 8] hAt
                          ⟨ok_moveOwn rfl rfl (.inl rfl) opd0,
                          ok_buildSlice ty3 un22 rfl rfl (fillC (Lens.arr _ _ 0 (by decide)) rfl opdI fillN),
                          ok_append hv8 el3 un22 rfl rfl rfl opd0 opd1,
                          ok_moveOwn rfl rfl (.inr rfl) opd0, trivial⟩ (by kernel_rfl) ?_
                      clear hAt
                      intro a w hAt
                      replace hAt : At B h0 (mkG [(0, fV (Rep.slice GTolerance.rep) x0), (7, fV (Rep.slice r_i64) v8), (23, fV (Rep.slice GBearing.rep) x1), (24, fV r_i64 (List.length x1 : Int)), (25, fV r_i64 s2.2.2)]) (mkO [(7, tipE 3 r_i64.sz), (8, mapE kStr Rep.bool (mset s2.2.1 v3.Name true))]) F 86 a w := hAt
                      refine blk_n ?_
                      refine blk_n ?_
                      refine then_n ?_
                      refine reg [⟨fV r_i64 (IntKind.i64.wrap (s2.2.2 + 1)), [], [(25, none)], []⟩,
                          ⟨fV r_i64 (IntKind.i64.wrap (s2.2.2 + 1)), [], [(84, some 0)], []⟩] [0, 7, 23, 24, 25] [7, 8] hAt
                          ⟨ok_add rfl opd0 opdI,
                          ok_move rfl opd0, trivial⟩ (by kernel_rfl) ?_
                      clear hAt
                      intro a w hAt
                      replace hAt : At B h0 (mkG [(0, fV (Rep.slice GTolerance.rep) x0), (7, fV (Rep.slice r_i64) v8), (23, fV (Rep.slice GBearing.rep) x1), (24, fV r_i64 (List.length x1 : Int)), (25, fV r_i64 (IntKind.i64.wrap (s2.2.2 + 1)))]) (mkO [(7, tipE 3 r_i64.sz), (8, mapE kStr Rep.bool (mset s2.2.1 v3.Name true))]) F 86 a w := hAt
                      cases H
                      exact ⟨rfl, hAt.pick [0, 7, 23, 24, 25] [7, 8]⟩
                    · intro hb10
                      have H := iteF hb10 H
                      obtain ⟨v9, hv9, H⟩ := bindE H
                      refine reg [⟨fV (Rep.slice r_i64) s2.1, [(7, none), (67, some (tipE 3 r_i64.sz))], [(7, none)], [(7, none)]⟩,
                          ⟨fV (Rep.slice r_i64) [2], [], [], []⟩,
                          ⟨fV (Rep.slice r_i64) v9, [(67, none), (69, some (tipE 3 r_i64.sz))], [(67, some 0), (68, some 1)], [(67, some 0)]⟩,
                          ⟨fV (Rep.slice r_i64) v9, [(69, none), (7, some (tipE 3 r_i64.sz))], [(69, some 2)], [(69, some 2)]⟩] [0, 7, 23, 24, 25] [7, 8] hAt
                          ⟨ok_moveOwn rfl rfl (.inl rfl) opd0,
                          ok_buildSlice ty3 un22 rfl rfl (fillC (Lens.arr _ _ 0 (by decide)) rfl opdI fillN),
                          ok_append hv9 el3 un22 rfl rfl rfl opd0 opd1,
                          ok_moveOwn rfl rfl (.inr rfl) opd0, trivial⟩ (by kernel_rfl) ?_
                      clear hAt
                      intro a w hAt
                      replace hAt : At B h0 (mkG [(0, fV (Rep.slice GTolerance.rep) x0), (7, fV (Rep.slice r_i64) v9), (23, fV (Rep.slice GBearing.rep) x1), (24, fV r_i64 (List.length x1 : Int)), (25, fV r_i64 s2.2.2)]) (mkO [(7, tipE 3 r_i64.sz), (8, mapE kStr Rep.bool (mset s2.2.1 v3.Name true))]) F 86 a w := hAt
                      refine blk_n ?_
                      refine blk_n ?_
                      refine then_n ?_
                      refine reg [⟨fV r_i64 (IntKind.i64.wrap (s2.2.2 + 1)), [], [(25, none)], []⟩,
                          ⟨fV r_i64 (IntKind.i64.wrap (s2.2.2 + 1)), [], [(84, some 0)], []⟩] [0, 7, 23, 24, 25] [7, 8] hAt
                          ⟨ok_add rfl opd0 opdI,
                          ok_move rfl opd0, trivial⟩ (by kernel_rfl) ?_
                      clear hAt
                      intro a w hAt
                      replace hAt : At B h0 (mkG [(0, fV (Rep.slice GTolerance.rep) x0), (7, fV (Rep.slice r_i64) v9), (23, fV (Rep.slice GBearing.rep) x1), (24, fV r_i64 (List.length x1 : Int)), (25, fV r_i64 (IntKind.i64.wrap (s2.2.2 + 1)))]) (mkO [(7, tipE 3 r_i64.sz), (8, mapE kStr Rep.bool (mset s2.2.1 v3.Name true))]) F 86 a w := hAt
                      cases H
                      exact ⟨rfl, hAt.pick [0, 7, 23, 24, 25] [7, 8]⟩
        · intro hb16
          have H := iteF hb16 H
          refine wp_exit ?_
          refine then_x ?_
          cases H
          exact ⟨ex_ne, rfl, hAt.pick [7] [7]⟩
      · exact hAt.pick [0, 7, 23, 24, 25] [7, 8]
      · clear hAt
        intro e a w hp
        cases o17 with
        | inl l19 =>
          rw [Sum.elim_inl] at H
          obtain ⟨rfl, hAt⟩ := hp
          refine blk_eq ?_
          refine then_n ?_
          refine wp_seq ?_
          refine reg [⟨fV (Rep.slice r_i64) l19, [], [(7, none)], []⟩,
              ⟨fV (Rep.slice r_i64) l19, [], [(85, some 0)], []⟩,
              ⟨fV r_i64 0, [], [], []⟩] [4, 5] [] hAt
              ⟨ok_move rfl opd0,
              ok_assign rfl opd0,
              ok_assign rfl opdI, trivial⟩ (by kernel_rfl) ?_
          clear hAt
          intro a w hAt
          replace hAt : At B h0 (mkG [(4, fV (Rep.slice r_i64) l19), (5, fV r_i64 0)]) (mkO []) F 86 a w := hAt
          refine then_n ?_
          refine wp_ret ?_
          cases H
          exact ret2 rfl (rv_tmp rfl rfl) (rv_tmp rfl rfl) hAt
        | inr r20 =>
          rw [Sum.elim_inr] at H
          replace hp := hp
          obtain ⟨rfl, hAt⟩ := hp
          refine blk_r ?_
          refine then_r ?_
          cases H
          exact ret2 rfl (rv_tmp rfl rfl) (rv_tmp rfl rfl) hAt
theorem ok_f_base_IsName (N : Nat) (x0 : Str) (r : Bool) (H : f_base_IsName N x0 = some r) : FnOk Try.prog 68 [fV Rep.str x0] (fV Rep.bool r) := by
  unfold f_base_IsName at H
  refine fn_enter Try.func68 rfl rfl (by kernel_rfl) ?_
  intro κ B h0 F a w hAt
  refine wp_seq ?_
  refine reg [⟨fV Rep.bool false, [], [], []⟩] [0] [] hAt
      ⟨ok_assign rfl opdB, trivial⟩ (by kernel_rfl) ?_
  clear hAt
  intro a w hAt
  replace hAt : At B h0 (mkG [(0, fV Rep.str x0)]) (mkO []) F 55 a w := hAt
  refine then_n ?_
  refine wp_seq ?_
  refine wp_seq ?_
  refine reg [⟨fV Rep.str x0, [], [(0, none)], []⟩,
      ⟨fV r_i64 (List.length x0 : Int), [], [(6, some 0)], []⟩,
      ⟨fV Rep.bool (cmpI .lss (List.length x0 : Int) 1), [], [(7, some 1)], []⟩,
      ⟨fV Rep.bool (cmpI .lss (List.length x0 : Int) 1), [], [(8, some 2)], []⟩,
      ⟨Fact.when ((!(cmpI .lss (List.length x0 : Int) 1)) = true) (fV Rep.str x0), [], [(9, some 3), (0, none)], []⟩,
      ⟨Fact.when ((!(cmpI .lss (List.length x0 : Int) 1)) = true) (fV r_i64 (List.length x0 : Int)), [], [(9, some 3), (10, some 4)], []⟩,
      ⟨Fact.when ((!(cmpI .lss (List.length x0 : Int) 1)) = true) (fV Rep.bool (cmpI .gtr (List.length x0 : Int) 12)), [], [(9, some 3), (11, some 5)], []⟩,
      ⟨fV Rep.bool ((cmpI .lss (List.length x0 : Int) 1) || (cmpI .gtr (List.length x0 : Int) 12)), [], [(9, some 3), (12, some 6)], []⟩] [0, 13] [] hAt
      ⟨ok_move rfl opd0,
      ok_lenS un9 rfl opd0,
      ok_cmp (op := .lss) (by simp) rfl rfl opd0 opdI,
      ok_move rfl opd0,
      obl_tf rfl rfl rfl rfl rfl rfl rfl (fun hg => ok_move rfl opd1),
      obl_tf rfl rfl rfl rfl rfl rfl rfl (fun hg => ok_lenS un9 rfl (opd1.on hg)),
      obl_tf rfl rfl rfl rfl rfl rfl rfl (fun hg => ok_cmp (op := .gtr) (by simp) rfl rfl (opd1.on hg) opdI),
      ok_or rfl opd0 (fun e => (opd1.on (notT e))), trivial⟩ (by kernel_rfl) ?_
  clear hAt
  intro a w hAt
  replace hAt : At B h0 (mkG [(0, fV Rep.str x0), (13, fV Rep.bool ((cmpI .lss (List.length x0 : Int) 1) || (cmpI .gtr (List.length x0 : Int) 12)))]) (mkO []) F 55 a w := hAt
  refine then_n ?_
  refine wp_if hAt (by rfl) ?_ ?_
  · intro hb10
    have H := iteT hb10 H
    refine wp_seq ?_
    refine reg [⟨fV Rep.bool false, [], [], []⟩] [2] [] hAt
        ⟨ok_assign rfl opdB, trivial⟩ (by kernel_rfl) ?_
    clear hAt
    intro a w hAt
    replace hAt : At B h0 (mkG [(2, fV Rep.bool false)]) (mkO []) F 55 a w := hAt
    refine then_n ?_
    refine wp_ret ?_
    refine then_r ?_
    cases H
    exact ret1 rfl (rv_tmp rfl rfl) hAt
  · intro hb10
    have H := iteF hb10 H
    refine wp_skip ?_
    refine then_n ?_
    refine wp_seq ?_
    refine wp_seq ?_
    refine reg [⟨fV r_i64 0, [], [], []⟩] [0, 3] [] hAt
        ⟨ok_assign rfl opdI, trivial⟩ (by kernel_rfl) ?_
    clear hAt
    intro a w hAt
    replace hAt : At B h0 (mkG [(0, fV Rep.str x0), (3, fV r_i64 0)]) (mkO []) F 55 a w := hAt
    refine then_n ?_
    refine wp_block ?_
    obtain ⟨o5, hl6, H⟩ := bindE H
    refine wp_mono (wp_loopN (f := f_base_IsName_L1 N x0) (fun (s1 : Int) a w => At B h0 (mkG [(0, fV Rep.str x0), (3, fV r_i64 s1)]) (mkO []) F 55 a w) (fun o e a w => (Sum.elim (fun v => e = .exit 0 ∧ At B h0 (mkG []) (mkO []) F 55 a w) (fun v => e = .ret ∧ At B h0 (mkG [(2, fV Rep.bool v)]) (mkO []) F 55 a w)) o) ?_ N 0 o5 _ _ hl6 ?_) ?_
    · clear H hAt hl6
      intro s1 r9 a w H hAt
      unfold f_base_IsName_L1 at H
      refine wp_seq ?_
      refine wp_seq ?_
      refine reg [⟨fV r_i64 s1, [], [(3, none)], []⟩,
          ⟨fV Rep.str x0, [], [(0, none)], []⟩,
          ⟨fV r_i64 (List.length x0 : Int), [], [(15, some 1)], []⟩,
          ⟨fV Rep.bool (cmpI .lss s1 (List.length x0 : Int)), [], [(14, some 0), (16, some 2)], []⟩] [0, 3, 17] [] hAt
          ⟨ok_move rfl opd0,
          ok_move rfl opd0,
          ok_lenS un9 rfl opd0,
          ok_cmp (op := .lss) (by simp) rfl rfl opd0 opd1, trivial⟩ (by kernel_rfl) ?_
      clear hAt
      intro a w hAt
      replace hAt : At B h0 (mkG [(0, fV Rep.str x0), (3, fV r_i64 s1), (17, fV Rep.bool (cmpI .lss s1 (List.length x0 : Int)))]) (mkO []) F 55 a w := hAt
      refine then_n ?_
      refine wp_if hAt (by rfl) ?_ ?_
      · intro hb4
        have H := iteT hb4 H
        refine wp_skip ?_
        refine then_n ?_
        refine wp_seq ?_
        refine wp_block ?_
        refine wp_seq ?_
        obtain ⟨v2, hv2, H⟩ := bindE H
        refine reg [⟨fV Rep.str x0, [], [(0, none)], []⟩,
            ⟨fV r_i64 s1, [], [(3, none)], []⟩,
            ⟨fV r_u8 ((UInt8.toNat v2 : Nat) : Int), [], [(20, some 0), (21, some 1)], []⟩,
            ⟨fV r_u8 ((UInt8.toNat v2 : Nat) : Int), [], [(22, some 2)], []⟩] [0, 3, 4] [] hAt
            ⟨ok_move rfl opd0,
            ok_move rfl opd0,
            ok_indexS hv2 un9 rfl opd0 opd1,
            ok_assign rfl opd0, trivial⟩ (by kernel_rfl) ?_
        clear hAt
        intro a w hAt
        replace hAt : At B h0 (mkG [(0, fV Rep.str x0), (3, fV r_i64 s1), (4, fV r_u8 ((UInt8.toNat v2 : Nat) : Int))]) (mkO []) F 55 a w := hAt
        refine then_n ?_
        refine wp_seq ?_
        refine reg [⟨fV r_u8 ((UInt8.toNat v2 : Nat) : Int), [], [(4, none)], []⟩,
            ⟨fV Rep.bool (cmpI .geq ((UInt8.toNat v2 : Nat) : Int) 97), [], [(23, some 0)], []⟩,
            ⟨fV Rep.bool (cmpI .geq ((UInt8.toNat v2 : Nat) : Int) 97), [], [(24, some 1)], []⟩,
            ⟨Fact.when ((cmpI .geq ((UInt8.toNat v2 : Nat) : Int) 97) = true) (fV r_u8 ((UInt8.toNat v2 : Nat) : Int)), [], [(25, some 2), (4, none)], []⟩,
            ⟨Fact.when ((cmpI .geq ((UInt8.toNat v2 : Nat) : Int) 97) = true) (fV Rep.bool (cmpI .leq ((UInt8.toNat v2 : Nat) : Int) 122)), [], [(25, some 2), (26, some 3)], []⟩,
            ⟨fV Rep.bool ((cmpI .geq ((UInt8.toNat v2 : Nat) : Int) 97) && (cmpI .leq ((UInt8.toNat v2 : Nat) : Int) 122)), [], [(25, some 2), (27, some 4)], []⟩,
            ⟨fV Rep.bool ((cmpI .geq ((UInt8.toNat v2 : Nat) : Int) 97) && (cmpI .leq ((UInt8.toNat v2 : Nat) : Int) 122)), [], [(28, some 5)], []⟩,
            ⟨Fact.when ((!((cmpI .geq ((UInt8.toNat v2 : Nat) : Int) 97) && (cmpI .leq ((UInt8.toNat v2 : Nat) : Int) 122))) = true) (fV r_u8 ((UInt8.toNat v2 : Nat) : Int)), [], [(29, some 6), (4, none)], []⟩,
            ⟨Fact.when ((!((cmpI .geq ((UInt8.toNat v2 : Nat) : Int) 97) && (cmpI .leq ((UInt8.toNat v2 : Nat) : Int) 122))) = true) (fV Rep.bool (cmpI .geq ((UInt8.toNat v2 : Nat) : Int) 65)), [], [(29, some 6), (30, some 7)], []⟩,
            ⟨Fact.when ((!((cmpI .geq ((UInt8.toNat v2 : Nat) : Int) 97) && (cmpI .leq ((UInt8.toNat v2 : Nat) : Int) 122))) = true) (fV Rep.bool (cmpI .geq ((UInt8.toNat v2 : Nat) : Int) 65)), [], [(29, some 6), (31, some 8)], []⟩,
            ⟨Fact.when (((!((cmpI .geq ((UInt8.toNat v2 : Nat) : Int) 97) && (cmpI .leq ((UInt8.toNat v2 : Nat) : Int) 122))) && (cmpI .geq ((UInt8.toNat v2 : Nat) : Int) 65)) = true) (fV r_u8 ((UInt8.toNat v2 : Nat) : Int)), [], [(32, some 9), (4, none)], []⟩,
            ⟨Fact.when (((!((cmpI .geq ((UInt8.toNat v2 : Nat) : Int) 97) && (cmpI .leq ((UInt8.toNat v2 : Nat) : Int) 122))) && (cmpI .geq ((UInt8.toNat v2 : Nat) : Int) 65)) = true) (fV Rep.bool (cmpI .leq ((UInt8.toNat v2 : Nat) : Int) 90)), [], [(32, some 9), (33, some 10)], []⟩,
            ⟨Fact.when ((!((cmpI .geq ((UInt8.toNat v2 : Nat) : Int) 97) && (cmpI .leq ((UInt8.toNat v2 : Nat) : Int) 122))) = true) (fV Rep.bool ((cmpI .geq ((UInt8.toNat v2 : Nat) : Int) 65) && (cmpI .leq ((UInt8.toNat v2 : Nat) : Int) 90))), [], [(29, some 6), (32, some 9), (34, some 11)], []⟩,
            ⟨fV Rep.bool (((cmpI .geq ((UInt8.toNat v2 : Nat) : Int) 97) && (cmpI .leq ((UInt8.toNat v2 : Nat) : Int) 122)) || ((cmpI .geq ((UInt8.toNat v2 : Nat) : Int) 65) && (cmpI .leq ((UInt8.toNat v2 : Nat) : Int) 90))), [], [(29, some 6), (35, some 12)], []⟩,
            ⟨fV Rep.bool (((cmpI .geq ((UInt8.toNat v2 : Nat) : Int) 97) && (cmpI .leq ((UInt8.toNat v2 : Nat) : Int) 122)) || ((cmpI .geq ((UInt8.toNat v2 : Nat) : Int) 65) && (cmpI .leq ((UInt8.toNat v2 : Nat) : Int) 90))), [], [(36, some 13)], []⟩] [0, 3, 4, 5] [] hAt
            ⟨ok_move rfl opd0,
            ok_cmp (op := .geq) (by simp) rfl rfl opd0 opdI,
            ok_move rfl opd0,
            obl_tt rfl rfl rfl rfl rfl rfl rfl (fun hg => ok_move rfl opd1),
            obl_tt rfl rfl rfl rfl rfl rfl rfl (fun hg => ok_cmp (op := .leq) (by simp) rfl rfl (opd1.on hg) opdI),
            ok_and rfl opd0 (fun e => (opd1.on e)),
            ok_move rfl opd0,
            obl_tf rfl rfl rfl rfl rfl rfl rfl (fun hg => ok_move rfl opd1),
            obl_tf rfl rfl rfl rfl rfl rfl rfl (fun hg => ok_cmp (op := .geq) (by simp) rfl rfl (opd1.on hg) opdI),
            obl_tf rfl rfl rfl rfl rfl rfl rfl (fun hg => ok_move rfl (opd1.on hg)),
            obl_wt rfl rfl rfl rfl rfl rfl rfl (fun hg => ok_move rfl opd1),
            obl_wt rfl rfl rfl rfl rfl rfl rfl (fun hg => ok_cmp (op := .leq) (by simp) rfl rfl (opd1.on hg) opdI),
            obl_tf rfl rfl rfl rfl rfl rfl rfl (fun hg => ok_and rfl (opd1.on hg) (fun e => (opd2.on (andT hg e)))),
            ok_or rfl opd0 (fun e => (opd1.on (notT e))),
            ok_assign rfl opd0, trivial⟩ (by kernel_rfl) ?_
        clear hAt
        intro a w hAt
        replace hAt : At B h0 (mkG [(0, fV Rep.str x0), (3, fV r_i64 s1), (4, fV r_u8 ((UInt8.toNat v2 : Nat) : Int)), (5, fV Rep.bool (((cmpI .geq ((UInt8.toNat v2 : Nat) : Int) 97) && (cmpI .leq ((UInt8.toNat v2 : Nat) : Int) 122)) || ((cmpI .geq ((UInt8.toNat v2 : Nat) : Int) 65) && (cmpI .leq ((UInt8.toNat v2 : Nat) : Int) 90))))]) (mkO []) F 55 a w := hAt
        refine then_n ?_
        refine wp_seq ?_
        refine reg [⟨fV Rep.bool (((cmpI .geq ((UInt8.toNat v2 : Nat) : Int) 97) && (cmpI .leq ((UInt8.toNat v2 : Nat) : Int) 122)) || ((cmpI .geq ((UInt8.toNat v2 : Nat) : Int) 65) && (cmpI .leq ((UInt8.toNat v2 : Nat) : Int) 90))), [], [(5, none)], []⟩,
            ⟨fV Rep.bool (!(((cmpI .geq ((UInt8.toNat v2 : Nat) : Int) 97) && (cmpI .leq ((UInt8.toNat v2 : Nat) : Int) 122)) || ((cmpI .geq ((UInt8.toNat v2 : Nat) : Int) 65) && (cmpI .leq ((UInt8.toNat v2 : Nat) : Int) 90)))), [], [(37, some 0)], []⟩,
            ⟨fV Rep.bool (!(((cmpI .geq ((UInt8.toNat v2 : Nat) : Int) 97) && (cmpI .leq ((UInt8.toNat v2 : Nat) : Int) 122)) || ((cmpI .geq ((UInt8.toNat v2 : Nat) : Int) 65) && (cmpI .leq ((UInt8.toNat v2 : Nat) : Int) 90)))), [], [(38, some 1)], []⟩,
            ⟨Fact.when ((!(((cmpI .geq ((UInt8.toNat v2 : Nat) : Int) 97) && (cmpI .leq ((UInt8.toNat v2 : Nat) : Int) 122)) || ((cmpI .geq ((UInt8.toNat v2 : Nat) : Int) 65) && (cmpI .leq ((UInt8.toNat v2 : Nat) : Int) 90)))) = true) (fV r_i64 s1), [], [(39, some 2), (3, none)], []⟩,
            ⟨Fact.when ((!(((cmpI .geq ((UInt8.toNat v2 : Nat) : Int) 97) && (cmpI .leq ((UInt8.toNat v2 : Nat) : Int) 122)) || ((cmpI .geq ((UInt8.toNat v2 : Nat) : Int) 65) && (cmpI .leq ((UInt8.toNat v2 : Nat) : Int) 90)))) = true) (fV Rep.bool (cmpI .eql s1 0)), [], [(39, some 2), (40, some 3)], []⟩,
            ⟨Fact.when ((!(((cmpI .geq ((UInt8.toNat v2 : Nat) : Int) 97) && (cmpI .leq ((UInt8.toNat v2 : Nat) : Int) 122)) || ((cmpI .geq ((UInt8.toNat v2 : Nat) : Int) 65) && (cmpI .leq ((UInt8.toNat v2 : Nat) : Int) 90)))) = true) (fV Rep.bool (cmpI .eql s1 0)), [], [(39, some 2), (41, some 4)], []⟩,
            ⟨Fact.when (((!(((cmpI .geq ((UInt8.toNat v2 : Nat) : Int) 97) && (cmpI .leq ((UInt8.toNat v2 : Nat) : Int) 122)) || ((cmpI .geq ((UInt8.toNat v2 : Nat) : Int) 65) && (cmpI .leq ((UInt8.toNat v2 : Nat) : Int) 90)))) && (!(cmpI .eql s1 0))) = true) (fV r_u8 ((UInt8.toNat v2 : Nat) : Int)), [], [(42, some 5), (4, none)], []⟩,
            ⟨Fact.when (((!(((cmpI .geq ((UInt8.toNat v2 : Nat) : Int) 97) && (cmpI .leq ((UInt8.toNat v2 : Nat) : Int) 122)) || ((cmpI .geq ((UInt8.toNat v2 : Nat) : Int) 65) && (cmpI .leq ((UInt8.toNat v2 : Nat) : Int) 90)))) && (!(cmpI .eql s1 0))) = true) (fV Rep.bool (cmpI .neq ((UInt8.toNat v2 : Nat) : Int) 45)), [], [(42, some 5), (43, some 6)], []⟩,
            ⟨Fact.when (((!(((cmpI .geq ((UInt8.toNat v2 : Nat) : Int) 97) && (cmpI .leq ((UInt8.toNat v2 : Nat) : Int) 122)) || ((cmpI .geq ((UInt8.toNat v2 : Nat) : Int) 65) && (cmpI .leq ((UInt8.toNat v2 : Nat) : Int) 90)))) && (!(cmpI .eql s1 0))) = true) (fV Rep.bool (cmpI .neq ((UInt8.toNat v2 : Nat) : Int) 45)), [], [(42, some 5), (44, some 7)], []⟩,
            ⟨Fact.when ((((!(((cmpI .geq ((UInt8.toNat v2 : Nat) : Int) 97) && (cmpI .leq ((UInt8.toNat v2 : Nat) : Int) 122)) || ((cmpI .geq ((UInt8.toNat v2 : Nat) : Int) 65) && (cmpI .leq ((UInt8.toNat v2 : Nat) : Int) 90)))) && (!(cmpI .eql s1 0))) && (cmpI .neq ((UInt8.toNat v2 : Nat) : Int) 45)) = true) (fV r_u8 ((UInt8.toNat v2 : Nat) : Int)), [], [(45, some 8), (4, none)], []⟩,
            ⟨Fact.when ((((!(((cmpI .geq ((UInt8.toNat v2 : Nat) : Int) 97) && (cmpI .leq ((UInt8.toNat v2 : Nat) : Int) 122)) || ((cmpI .geq ((UInt8.toNat v2 : Nat) : Int) 65) && (cmpI .leq ((UInt8.toNat v2 : Nat) : Int) 90)))) && (!(cmpI .eql s1 0))) && (cmpI .neq ((UInt8.toNat v2 : Nat) : Int) 45)) = true) (fV Rep.bool (cmpI .lss ((UInt8.toNat v2 : Nat) : Int) 48)), [], [(45, some 8), (46, some 9)], []⟩,
            ⟨Fact.when ((((!(((cmpI .geq ((UInt8.toNat v2 : Nat) : Int) 97) && (cmpI .leq ((UInt8.toNat v2 : Nat) : Int) 122)) || ((cmpI .geq ((UInt8.toNat v2 : Nat) : Int) 65) && (cmpI .leq ((UInt8.toNat v2 : Nat) : Int) 90)))) && (!(cmpI .eql s1 0))) && (cmpI .neq ((UInt8.toNat v2 : Nat) : Int) 45)) = true) (fV Rep.bool (cmpI .lss ((UInt8.toNat v2 : Nat) : Int) 48)), [], [(45, some 8), (47, some 10)], []⟩,
            ⟨Fact.when (((((!(((cmpI .geq ((UInt8.toNat v2 : Nat) : Int) 97) && (cmpI .leq ((UInt8.toNat v2 : Nat) : Int) 122)) || ((cmpI .geq ((UInt8.toNat v2 : Nat) : Int) 65) && (cmpI .leq ((UInt8.toNat v2 : Nat) : Int) 90)))) && (!(cmpI .eql s1 0))) && (cmpI .neq ((UInt8.toNat v2 : Nat) : Int) 45)) && (!(cmpI .lss ((UInt8.toNat v2 : Nat) : Int) 48))) = true) (fV r_u8 ((UInt8.toNat v2 : Nat) : Int)), [], [(48, some 11), (4, none)], []⟩,
            ⟨Fact.when (((((!(((cmpI .geq ((UInt8.toNat v2 : Nat) : Int) 97) && (cmpI .leq ((UInt8.toNat v2 : Nat) : Int) 122)) || ((cmpI .geq ((UInt8.toNat v2 : Nat) : Int) 65) && (cmpI .leq ((UInt8.toNat v2 : Nat) : Int) 90)))) && (!(cmpI .eql s1 0))) && (cmpI .neq ((UInt8.toNat v2 : Nat) : Int) 45)) && (!(cmpI .lss ((UInt8.toNat v2 : Nat) : Int) 48))) = true) (fV Rep.bool (cmpI .gtr ((UInt8.toNat v2 : Nat) : Int) 57)), [], [(48, some 11), (49, some 12)], []⟩,
            ⟨Fact.when ((((!(((cmpI .geq ((UInt8.toNat v2 : Nat) : Int) 97) && (cmpI .leq ((UInt8.toNat v2 : Nat) : Int) 122)) || ((cmpI .geq ((UInt8.toNat v2 : Nat) : Int) 65) && (cmpI .leq ((UInt8.toNat v2 : Nat) : Int) 90)))) && (!(cmpI .eql s1 0))) && (cmpI .neq ((UInt8.toNat v2 : Nat) : Int) 45)) = true) (fV Rep.bool ((cmpI .lss ((UInt8.toNat v2 : Nat) : Int) 48) || (cmpI .gtr ((UInt8.toNat v2 : Nat) : Int) 57))), [], [(45, some 8), (48, some 11), (50, some 13)], []⟩,
            ⟨Fact.when (((!(((cmpI .geq ((UInt8.toNat v2 : Nat) : Int) 97) && (cmpI .leq ((UInt8.toNat v2 : Nat) : Int) 122)) || ((cmpI .geq ((UInt8.toNat v2 : Nat) : Int) 65) && (cmpI .leq ((UInt8.toNat v2 : Nat) : Int) 90)))) && (!(cmpI .eql s1 0))) = true) (fV Rep.bool ((cmpI .neq ((UInt8.toNat v2 : Nat) : Int) 45) && ((cmpI .lss ((UInt8.toNat v2 : Nat) : Int) 48) || (cmpI .gtr ((UInt8.toNat v2 : Nat) : Int) 57)))), [], [(42, some 5), (45, some 8), (51, some 14)], []⟩,
            ⟨Fact.when ((!(((cmpI .geq ((UInt8.toNat v2 : Nat) : Int) 97) && (cmpI .leq ((UInt8.toNat v2 : Nat) : Int) 122)) || ((cmpI .geq ((UInt8.toNat v2 : Nat) : Int) 65) && (cmpI .leq ((UInt8.toNat v2 : Nat) : Int) 90)))) = true) (fV Rep.bool ((cmpI .eql s1 0) || ((cmpI .neq ((UInt8.toNat v2 : Nat) : Int) 45) && ((cmpI .lss ((UInt8.toNat v2 : Nat) : Int) 48) || (cmpI .gtr ((UInt8.toNat v2 : Nat) : Int) 57))))), [], [(39, some 2), (42, some 5), (52, some 15)], []⟩,
            ⟨fV Rep.bool ((!(((cmpI .geq ((UInt8.toNat v2 : Nat) : Int) 97) && (cmpI .leq ((UInt8.toNat v2 : Nat) : Int) 122)) || ((cmpI .geq ((UInt8.toNat v2 : Nat) : Int) 65) && (cmpI .leq ((UInt8.toNat v2 : Nat) : Int) 90)))) && ((cmpI .eql s1 0) || ((cmpI .neq ((UInt8.toNat v2 : Nat) : Int) 45) && ((cmpI .lss ((UInt8.toNat v2 : Nat) : Int) 48) || (cmpI .gtr ((UInt8.toNat v2 : Nat) : Int) 57))))), [], [(39, some 2), (53, some 16)], []⟩] [0, 3, 54] [] hAt
            ⟨ok_move rfl opd0,
            ok_not rfl opd0,
            ok_move rfl opd0,
            obl_tt rfl rfl rfl rfl rfl rfl rfl (fun hg => ok_move rfl opd1),
            obl_tt rfl rfl rfl rfl rfl rfl rfl (fun hg => ok_cmp (op := .eql) (by simp) rfl rfl (opd1.on hg) opdI),
            obl_tt rfl rfl rfl rfl rfl rfl rfl (fun hg => ok_move rfl (opd1.on hg)),
            obl_wf rfl rfl rfl rfl rfl rfl rfl (fun hg => ok_move rfl opd1),
            obl_wf rfl rfl rfl rfl rfl rfl rfl (fun hg => ok_cmp (op := .neq) (by simp) rfl rfl (opd1.on hg) opdI),
            obl_wf rfl rfl rfl rfl rfl rfl rfl (fun hg => ok_move rfl (opd1.on hg)),
            obl_wt rfl rfl rfl rfl rfl rfl rfl (fun hg => ok_move rfl opd1),
            obl_wt rfl rfl rfl rfl rfl rfl rfl (fun hg => ok_cmp (op := .lss) (by simp) rfl rfl (opd1.on hg) opdI),
            obl_wt rfl rfl rfl rfl rfl rfl rfl (fun hg => ok_move rfl (opd1.on hg)),
            obl_wf rfl rfl rfl rfl rfl rfl rfl (fun hg => ok_move rfl opd1),
            obl_wf rfl rfl rfl rfl rfl rfl rfl (fun hg => ok_cmp (op := .gtr) (by simp) rfl rfl (opd1.on hg) opdI),
            obl_wt rfl rfl rfl rfl rfl rfl rfl (fun hg => ok_or rfl (opd1.on hg) (fun e => (opd2.on (andT hg (notT e))))),
            obl_wf rfl rfl rfl rfl rfl rfl rfl (fun hg => ok_and rfl (opd1.on hg) (fun e => (opd2.on (andT hg e)))),
            obl_tt rfl rfl rfl rfl rfl rfl rfl (fun hg => ok_or rfl (opd1.on hg) (fun e => (opd2.on (andT hg (notT e))))),
            ok_and rfl opd0 (fun e => (opd1.on e)), trivial⟩ (by kernel_rfl) ?_
        clear hAt
        intro a w hAt
        replace hAt : At B h0 (mkG [(0, fV Rep.str x0), (3, fV r_i64 s1), (54, fV Rep.bool ((!(((cmpI .geq ((UInt8.toNat v2 : Nat) : Int) 97) && (cmpI .leq ((UInt8.toNat v2 : Nat) : Int) 122)) || ((cmpI .geq ((UInt8.toNat v2 : Nat) : Int) 65) && (cmpI .leq ((UInt8.toNat v2 : Nat) : Int) 90)))) && ((cmpI .eql s1 0) || ((cmpI .neq ((UInt8.toNat v2 : Nat) : Int) 45) && ((cmpI .lss ((UInt8.toNat v2 : Nat) : Int) 48) || (cmpI .gtr ((UInt8.toNat v2 : Nat) : Int) 57))))))]) (mkO []) F 55 a w := hAt
        refine then_n ?_
        refine wp_if hAt (by rfl) ?_ ?_
        · intro hb3
          have H := iteT hb3 H
          refine wp_seq ?_
          refine reg [⟨fV Rep.bool false, [], [], []⟩] [2] [] hAt
              ⟨ok_assign rfl opdB, trivial⟩ (by kernel_rfl) ?_
          clear hAt
          intro a w hAt
          replace hAt : At B h0 (mkG [(2, fV Rep.bool false)]) (mkO []) F 55 a w := hAt
          refine then_n ?_
          refine wp_ret ?_
          refine blk_r ?_
          refine then_r ?_
          cases H
          exact ⟨ret_ne, rfl, hAt.pick [2] []⟩
        · intro hb3
          have H := iteF hb3 H
          refine wp_skip ?_
          refine blk_n ?_
          refine then_n ?_
          refine reg [⟨fV r_i64 s1, [], [(3, none)], []⟩,
              ⟨fV r_i64 (IntKind.i64.wrap (s1 + 1)), [], [(18, some 0)], []⟩,
              ⟨fV r_i64 (IntKind.i64.wrap (s1 + 1)), [], [(19, some 1)], []⟩] [0, 3] [] hAt
              ⟨ok_move rfl opd0,
              ok_add rfl opd0 opdI,
              ok_assign rfl opd0, trivial⟩ (by kernel_rfl) ?_
          clear hAt
          intro a w hAt
          replace hAt : At B h0 (mkG [(0, fV Rep.str x0), (3, fV r_i64 (IntKind.i64.wrap (s1 + 1)))]) (mkO []) F 55 a w := hAt
          cases H
          exact ⟨rfl, hAt.pick [0, 3] []⟩
      · intro hb4
        have H := iteF hb4 H
        refine wp_exit ?_
        refine then_x ?_
        cases H
        exact ⟨ex_ne, rfl, hAt.pick [] []⟩
    · exact hAt.pick [0, 3] []
    · clear hAt
      intro e a w hp
      cases o5 with
      | inl l7 =>
        rw [Sum.elim_inl] at H
        obtain ⟨rfl, hAt⟩ := hp
        refine blk_eq ?_
        refine then_n ?_
        refine wp_seq ?_
        refine reg [⟨fV Rep.bool true, [], [], []⟩] [2] [] hAt
            ⟨ok_assign rfl opdB, trivial⟩ (by kernel_rfl) ?_
        clear hAt
        intro a w hAt
        replace hAt : At B h0 (mkG [(2, fV Rep.bool true)]) (mkO []) F 55 a w := hAt
        refine then_n ?_
        refine wp_ret ?_
        cases H
        exact ret1 rfl (rv_tmp rfl rfl) hAt
      | inr r8 =>
        rw [Sum.elim_inr] at H
        replace hp := hp
        obtain ⟨rfl, hAt⟩ := hp
        refine blk_r ?_
        refine then_r ?_
        cases H
        exact ret1 rfl (rv_tmp rfl rfl) hAt
end Go.KB
