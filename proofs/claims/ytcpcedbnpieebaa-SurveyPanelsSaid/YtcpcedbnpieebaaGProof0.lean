/- The Go functions compute what the plain functions compute. Printed by a program. No condition. -/
import Derived.Test.YtcpcedbnpieebaaGTy
import Derived.Test.YtcpcedbnpieebaaGPure
namespace Go.KB
open Go.Proofs
set_option maxRecDepth 100000
set_option linter.unusedVariables false
theorem ok_f_survey_inside_1 (N : Nat) (x0 : Int) (c0 : Int) (c1 : Int) (r : Bool) (H : f_survey_inside_1 N x0 c0 c1 = some r) : FnOk Try.prog 111 [fV r_i64 x0, fRef r_i64 c0, fRef r_i64 c1] (fV Rep.bool r) := by
  unfold f_survey_inside_1 at H
  refine fn_enter Try.func111 rfl rfl (by kernel_rfl) ?_
  intro κ B h0 F a w hAt
  refine wp_seq ?_
  refine reg [⟨fV Rep.bool false, [], [], []⟩] [0, 1, 2] [] hAt
      ⟨ok_assign rfl opdB, trivial⟩ (by kernel_rfl) ?_
  clear hAt
  intro a w hAt
  replace hAt : At B h0 (mkG [(0, fV r_i64 x0), (1, fRef r_i64 c0), (2, fRef r_i64 c1)]) (mkO []) F 13 a w := hAt
  refine then_n ?_
  refine wp_seq ?_
  refine reg [⟨fV r_i64 x0, [], [(0, none)], []⟩,
      ⟨fV r_i64 c0, [], [(1, none)], []⟩,
      ⟨fV Rep.bool (cmpI .lss x0 c0), [], [(5, some 0), (6, some 1)], []⟩,
      ⟨fV Rep.bool (cmpI .lss x0 c0), [], [(7, some 2)], []⟩,
      ⟨Fact.when ((!(cmpI .lss x0 c0)) = true) (fV r_i64 x0), [], [(8, some 3), (0, none)], []⟩,
      ⟨Fact.when ((!(cmpI .lss x0 c0)) = true) (fV r_i64 c1), [], [(8, some 3), (2, none)], []⟩,
      ⟨Fact.when ((!(cmpI .lss x0 c0)) = true) (fV Rep.bool (cmpI .gtr x0 c1)), [], [(8, some 3), (9, some 4), (10, some 5)], []⟩,
      ⟨fV Rep.bool ((cmpI .lss x0 c0) || (cmpI .gtr x0 c1)), [], [(8, some 3), (11, some 6)], []⟩,
      ⟨fV Rep.bool ((cmpI .lss x0 c0) || (cmpI .gtr x0 c1)), [], [(12, some 7)], []⟩] [4] [] hAt
      ⟨ok_move rfl opd0,
      ok_load ty3 rfl opd0,
      ok_cmp (op := .lss) (by simp) rfl rfl opd0 opd1,
      ok_move rfl opd0,
      obl_tf rfl rfl rfl rfl rfl rfl rfl (fun hg => ok_move rfl opd1),
      obl_tf rfl rfl rfl rfl rfl rfl rfl (fun hg => ok_load ty3 rfl opd1),
      obl_tf rfl rfl rfl rfl rfl rfl rfl (fun hg => ok_cmp (op := .gtr) (by simp) rfl rfl (opd1.on hg) (opd2.on hg)),
      ok_or rfl opd0 (fun e => (opd1.on (notT e))),
      ok_assign rfl opd0, trivial⟩ (by kernel_rfl) ?_
  clear hAt
  intro a w hAt
  replace hAt : At B h0 (mkG [(4, fV Rep.bool ((cmpI .lss x0 c0) || (cmpI .gtr x0 c1)))]) (mkO []) F 13 a w := hAt
  refine then_n ?_
  refine wp_ret ?_
  cases H
  exact ret1 rfl (rv_tmp rfl rfl) hAt
theorem ok_f_slices_IndexFunclint_int (N : Nat) (x0 : (List Int)) (x1 : (Int → Option Bool)) (r : Int) (H : f_slices_IndexFunclint_int N x0 x1 = some r) : FnOk Try.prog 142 [fV (Rep.slice r_i64) x0, fF1 Try.prog r_i64 Rep.bool x1] (fV r_i64 r) := by
  unfold f_slices_IndexFunclint_int at H
  refine fn_enter Try.func142 rfl rfl (by kernel_rfl) ?_
  intro κ B h0 F a w hAt
  refine wp_seq ?_
  refine reg [⟨fV r_i64 0, [], [], []⟩] [0, 1] [] hAt
      ⟨ok_assign rfl opdI, trivial⟩ (by kernel_rfl) ?_
  clear hAt
  intro a w hAt
  replace hAt : At B h0 (mkG [(0, fV (Rep.slice r_i64) x0), (1, fF1 Try.prog r_i64 Rep.bool x1)]) (mkO []) F 19 a w := hAt
  refine then_n ?_
  refine wp_seq ?_
  refine wp_seq ?_
  refine reg [⟨fV (Rep.slice r_i64) x0, [], [(0, none)], []⟩,
      ⟨fV r_i64 (List.length x0 : Int), [], [(6, some 0)], []⟩,
      ⟨fV r_i64 0, [], [], []⟩] [0, 1, 7, 8] [] hAt
      ⟨ok_move rfl opd0,
      ok_len un22 rfl opd0,
      ok_move rfl opdI, trivial⟩ (by kernel_rfl) ?_
  clear hAt
  intro a w hAt
  replace hAt : At B h0 (mkG [(0, fV (Rep.slice r_i64) x0), (1, fF1 Try.prog r_i64 Rep.bool x1), (7, fV r_i64 (List.length x0 : Int)), (8, fV r_i64 0)]) (mkO []) F 19 a w := hAt
  refine then_n ?_
  refine wp_block ?_
  obtain ⟨o6, hl7, H⟩ := bindE H
  refine wp_mono (wp_loopN (f := f_slices_IndexFunclint_int_L1 N x0 x1) (fun (s1 : Int) a w => At B h0 (mkG [(0, fV (Rep.slice r_i64) x0), (1, fF1 Try.prog r_i64 Rep.bool x1), (7, fV r_i64 (List.length x0 : Int)), (8, fV r_i64 s1)]) (mkO []) F 19 a w) (fun o e a w => (Sum.elim (fun v => e = .exit 0 ∧ At B h0 (mkG []) (mkO []) F 19 a w) (fun v => e = .ret ∧ At B h0 (mkG [(4, fV r_i64 v)]) (mkO []) F 19 a w)) o) ?_ N 0 o6 _ _ hl7 ?_) ?_
  · clear H hAt hl7
    intro s1 r10 a w H hAt
    unfold f_slices_IndexFunclint_int_L1 at H
    refine wp_seq ?_
    refine reg [⟨fV Rep.bool (cmpI .lss s1 (List.length x0 : Int)), [], [(8, none), (7, none)], []⟩] [0, 1, 7, 8, 9] [] hAt
        ⟨ok_cmp (op := .lss) (by simp) rfl rfl opd0 opd1, trivial⟩ (by kernel_rfl) ?_
    clear hAt
    intro a w hAt
    replace hAt : At B h0 (mkG [(0, fV (Rep.slice r_i64) x0), (1, fF1 Try.prog r_i64 Rep.bool x1), (7, fV r_i64 (List.length x0 : Int)), (8, fV r_i64 s1), (9, fV Rep.bool (cmpI .lss s1 (List.length x0 : Int)))]) (mkO []) F 19 a w := hAt
    refine then_n ?_
    refine wp_seq ?_
    refine wp_if hAt (by rfl) ?_ ?_
    · intro hb5
      have H := iteT hb5 H
      refine wp_skip ?_
      refine then_n ?_
      refine wp_seq ?_
      refine wp_block ?_
      refine wp_seq ?_
      refine reg [⟨fV r_i64 s1, [], [(8, none)], []⟩,
          ⟨fV r_i64 s1, [], [(10, some 0)], []⟩] [0, 1, 5, 7, 8] [] hAt
          ⟨ok_move rfl opd0,
          ok_assign rfl opd0, trivial⟩ (by kernel_rfl) ?_
      clear hAt
      intro a w hAt
      replace hAt : At B h0 (mkG [(0, fV (Rep.slice r_i64) x0), (1, fF1 Try.prog r_i64 Rep.bool x1), (5, fV r_i64 s1), (7, fV r_i64 (List.length x0 : Int)), (8, fV r_i64 s1)]) (mkO []) F 19 a w := hAt
      refine then_n ?_
      refine wp_seq ?_
      obtain ⟨v2, hv2, H⟩ := bindE H
      obtain ⟨v3, hv3, H⟩ := bindE H
      refine reg [⟨fF1 Try.prog r_i64 Rep.bool x1, [], [(1, none)], []⟩,
          ⟨fV (Rep.slice r_i64) x0, [], [(0, none)], []⟩,
          ⟨fV r_i64 s1, [], [(5, none)], []⟩,
          ⟨fRef r_i64 v2, [], [(12, some 1), (13, some 2)], []⟩,
          ⟨fV r_i64 v2, [], [(14, some 3)], []⟩,
          ⟨fV Rep.bool v3, [], [(11, some 0), (15, some 4)], []⟩] [0, 1, 5, 7, 8, 16] [] hAt
          ⟨ok_move rfl opd0,
          ok_move rfl opd0,
          ok_move rfl opd0,
          ok_index ty3 un22 hv2 rfl opd0 opd1,
          ok_load ty3 rfl opd0,
          ok_callF1 hv3 rfl opd0 ⟨opd1, trivial⟩, trivial⟩ (by kernel_rfl) ?_
      clear hAt
      intro a w hAt
      replace hAt : At B h0 (mkG [(0, fV (Rep.slice r_i64) x0), (1, fF1 Try.prog r_i64 Rep.bool x1), (5, fV r_i64 s1), (7, fV r_i64 (List.length x0 : Int)), (8, fV r_i64 s1), (16, fV Rep.bool v3)]) (mkO []) F 19 a w := hAt
      refine then_n ?_
      refine wp_if hAt (by rfl) ?_ ?_
      · intro hb4
        have H := iteT hb4 H
        refine wp_seq ?_
        refine reg [⟨fV r_i64 s1, [], [(5, none)], []⟩,
            ⟨fV r_i64 s1, [], [(17, some 0)], []⟩] [4] [] hAt
            ⟨ok_move rfl opd0,
            ok_assign rfl opd0, trivial⟩ (by kernel_rfl) ?_
        clear hAt
        intro a w hAt
        replace hAt : At B h0 (mkG [(4, fV r_i64 s1)]) (mkO []) F 19 a w := hAt
        refine then_n ?_
        refine wp_ret ?_
        refine blk_r ?_
        refine then_r ?_
        cases H
        exact ⟨ret_ne, rfl, hAt.pick [4] []⟩
      · intro hb4
        have H := iteF hb4 H
        refine wp_skip ?_
        refine blk_n ?_
        refine then_n ?_
        refine reg [⟨fV r_i64 (IntKind.i64.wrap (s1 + 1)), [], [(8, none)], []⟩,
            ⟨fV r_i64 (IntKind.i64.wrap (s1 + 1)), [], [(18, some 0)], []⟩] [0, 1, 7, 8] [] hAt
            ⟨ok_add rfl opd0 opdI,
            ok_move rfl opd0, trivial⟩ (by kernel_rfl) ?_
        clear hAt
        intro a w hAt
        replace hAt : At B h0 (mkG [(0, fV (Rep.slice r_i64) x0), (1, fF1 Try.prog r_i64 Rep.bool x1), (7, fV r_i64 (List.length x0 : Int)), (8, fV r_i64 (IntKind.i64.wrap (s1 + 1)))]) (mkO []) F 19 a w := hAt
        cases H
        exact ⟨rfl, hAt.pick [0, 1, 7, 8] []⟩
    · intro hb5
      have H := iteF hb5 H
      refine wp_exit ?_
      refine then_x ?_
      cases H
      exact ⟨ex_ne, rfl, hAt.pick [] []⟩
  · exact hAt.pick [0, 1, 7, 8] []
  · clear hAt
    intro e a w hp
    cases o6 with
    | inl l8 =>
      rw [Sum.elim_inl] at H
      obtain ⟨rfl, hAt⟩ := hp
      refine blk_eq ?_
      refine then_n ?_
      refine wp_seq ?_
      refine reg [⟨fV r_i64 (-1), [], [], []⟩] [4] [] hAt
          ⟨ok_assign rfl opdI, trivial⟩ (by kernel_rfl) ?_
      clear hAt
      intro a w hAt
      replace hAt : At B h0 (mkG [(4, fV r_i64 (-1))]) (mkO []) F 19 a w := hAt
      refine then_n ?_
      refine wp_ret ?_
      cases H
      exact ret1 rfl (rv_tmp rfl rfl) hAt
    | inr r9 =>
      rw [Sum.elim_inr] at H
      replace hp := hp
      obtain ⟨rfl, hAt⟩ := hp
      refine blk_r ?_
      refine then_r ?_
      cases H
      exact ret1 rfl (rv_tmp rfl rfl) hAt
theorem ok_f_slices_ContainsFunclint_int (N : Nat) (x0 : (List Int)) (x1 : (Int → Option Bool)) (r : Bool) (H : f_slices_ContainsFunclint_int N x0 x1 = some r) : FnOk Try.prog 110 [fV (Rep.slice r_i64) x0, fF1 Try.prog r_i64 Rep.bool x1] (fV Rep.bool r) := by
  unfold f_slices_ContainsFunclint_int at H
  refine fn_enter Try.func110 rfl rfl (by kernel_rfl) ?_
  intro κ B h0 F a w hAt
  refine wp_seq ?_
  refine reg [⟨fV Rep.bool false, [], [], []⟩] [0, 1] [] hAt
      ⟨ok_assign rfl opdB, trivial⟩ (by kernel_rfl) ?_
  clear hAt
  intro a w hAt
  replace hAt : At B h0 (mkG [(0, fV (Rep.slice r_i64) x0), (1, fF1 Try.prog r_i64 Rep.bool x1)]) (mkO []) F 9 a w := hAt
  refine then_n ?_
  refine wp_seq ?_
  obtain ⟨v1, hv1, H⟩ := bindE H
  refine reg [⟨fV (Rep.slice r_i64) x0, [], [(0, none)], []⟩,
      ⟨fF1 Try.prog r_i64 Rep.bool x1, [], [(1, none)], []⟩,
      ⟨fV r_i64 v1, [], [(5, some 0), (6, some 1)], []⟩,
      ⟨fV Rep.bool (cmpI .geq v1 0), [], [(7, some 2)], []⟩,
      ⟨fV Rep.bool (cmpI .geq v1 0), [], [(8, some 3)], []⟩] [4] [] hAt
      ⟨ok_move rfl opd0,
      ok_move rfl opd0,
      ok_call (ok_f_slices_IndexFunclint_int N x0 x1 _ hv1) Try.func142 (by kernel_rfl) (by kernel_rfl) rfl ⟨opd0, ⟨opd1, trivial⟩⟩,
      ok_cmp (op := .geq) (by simp) rfl rfl opd0 opdI,
      ok_assign rfl opd0, trivial⟩ (by kernel_rfl) ?_
  clear hAt
  intro a w hAt
  replace hAt : At B h0 (mkG [(4, fV Rep.bool (cmpI .geq v1 0))]) (mkO []) F 9 a w := hAt
  refine then_n ?_
  refine wp_ret ?_
  cases H
  exact ret1 rfl (rv_tmp rfl rfl) hAt
theorem ok_f_survey_inside (N : Nat) (x0 : Int) (x1 : Int) (x2 : (List Int)) (r : Bool) (H : f_survey_inside N x0 x1 x2 = some r) : FnOk Try.prog 71 [fV r_i64 x0, fV r_i64 x1, fV (Rep.slice r_i64) x2] (fV Rep.bool r) := by
  unfold f_survey_inside at H
  refine fn_enter Try.func71 rfl rfl (by kernel_rfl) ?_
  intro κ B h0 F a w hAt
  refine wp_seq ?_
  refine reg [⟨fRef r_i64 x0, [], [(0, none)], []⟩,
      ⟨fRef r_i64 x1, [], [(1, none)], []⟩,
      ⟨fV Rep.bool false, [], [], []⟩] [2, 3, 4] [] hAt
      ⟨ok_box rfl opd0,
      ok_box rfl opd0,
      ok_assign rfl opdB, trivial⟩ (by kernel_rfl) ?_
  clear hAt
  intro a w hAt
  replace hAt : At B h0 (mkG [(2, fV (Rep.slice r_i64) x2), (3, fRef r_i64 x0), (4, fRef r_i64 x1)]) (mkO []) F 11 a w := hAt
  refine then_n ?_
  refine wp_seq ?_
  obtain ⟨v1, hv1, H⟩ := bindE H
  refine reg [⟨fV (Rep.slice r_i64) x2, [], [(2, none)], []⟩,
      ⟨fF1 Try.prog r_i64 Rep.bool (fun y0 => f_survey_inside_1 N y0 x0 x1), [], [(3, none), (4, none)], []⟩,
      ⟨fV Rep.bool v1, [], [(7, some 0), (8, some 1)], []⟩,
      ⟨fV Rep.bool (!v1), [], [(9, some 2)], []⟩,
      ⟨fV Rep.bool (!v1), [], [(10, some 3)], []⟩] [6] [] hAt
      ⟨ok_move rfl opd0,
      ok_mkF1 (φ := fun y0 => f_survey_inside_1 N y0 x0 x1) (fun y0 r H => ok_f_survey_inside_1 N y0 x0 x1 r H) Try.func111 (by kernel_rfl) (by kernel_rfl) rfl ⟨opd0, ⟨opd1, trivial⟩⟩,
      ok_call (ok_f_slices_ContainsFunclint_int N x2 (fun y0 => f_survey_inside_1 N y0 x0 x1) _ hv1) Try.func110 (by kernel_rfl) (by kernel_rfl) rfl ⟨opd0, ⟨opd1, trivial⟩⟩,
      ok_not rfl opd0,
      ok_assign rfl opd0, trivial⟩ (by kernel_rfl) ?_
  clear hAt
  intro a w hAt
  replace hAt : At B h0 (mkG [(6, fV Rep.bool (!v1))]) (mkO []) F 11 a w := hAt
  refine then_n ?_
  refine wp_ret ?_
  cases H
  exact ret1 rfl (rv_tmp rfl rfl) hAt
theorem ok_f_survey_CheckTrial (N : Nat) (x0 : (List GRun)) (r : Int) (H : f_survey_CheckTrial N x0 = some r) : FnOk Try.prog 29 [fV (Rep.slice GRun.rep) x0] (fV r_i64 r) := by
  unfold f_survey_CheckTrial at H
  refine fn_enter Try.func29 rfl rfl (by kernel_rfl) ?_
  intro κ B h0 F a w hAt
  refine wp_seq ?_
  refine reg [⟨fV r_i64 0, [], [], []⟩] [0] [] hAt
      ⟨ok_assign rfl opdI, trivial⟩ (by kernel_rfl) ?_
  clear hAt
  intro a w hAt
  replace hAt : At B h0 (mkG [(0, fV (Rep.slice GRun.rep) x0)]) (mkO []) F 65 a w := hAt
  refine then_n ?_
  refine wp_seq ?_
  refine wp_block ?_
  refine wp_seq ?_
  refine reg [⟨fV (Rep.slice GRun.rep) x0, [], [(0, none)], []⟩,
      ⟨fV r_i64 (List.length x0 : Int), [], [(7, some 0)], []⟩,
      ⟨fV Rep.bool (cmpI .lss (List.length x0 : Int) 2), [], [(8, some 1)], []⟩,
      ⟨fV Rep.bool (cmpI .lss (List.length x0 : Int) 2), [], [(9, some 2)], []⟩] [0, 6] [] hAt
      ⟨ok_move rfl opd0,
      ok_len un43 rfl opd0,
      ok_cmp (op := .lss) (by simp) rfl rfl opd0 opdI,
      ok_assign rfl opd0, trivial⟩ (by kernel_rfl) ?_
  clear hAt
  intro a w hAt
  replace hAt : At B h0 (mkG [(0, fV (Rep.slice GRun.rep) x0), (6, fV Rep.bool (cmpI .lss (List.length x0 : Int) 2))]) (mkO []) F 65 a w := hAt
  refine then_n ?_
  refine wp_if hAt (by rfl) ?_ ?_
  · intro hb17
    have H := iteT hb17 H
    refine wp_seq ?_
    refine reg [⟨fV r_i64 11, [], [], []⟩] [2] [] hAt
        ⟨ok_assign rfl opdI, trivial⟩ (by kernel_rfl) ?_
    clear hAt
    intro a w hAt
    replace hAt : At B h0 (mkG [(2, fV r_i64 11)]) (mkO []) F 65 a w := hAt
    refine then_n ?_
    refine wp_ret ?_
    refine blk_r ?_
    refine then_r ?_
    cases H
    exact ret1 rfl (rv_tmp rfl rfl) hAt
  · intro hb17
    have H := iteF hb17 H
    refine wp_seq ?_
    refine reg [⟨fV (Rep.slice GRun.rep) x0, [], [(0, none)], []⟩,
        ⟨fV r_i64 (List.length x0 : Int), [], [(11, some 0)], []⟩,
        ⟨fV Rep.bool (cmpI .gtr (List.length x0 : Int) 12), [], [(12, some 1)], []⟩,
        ⟨fV Rep.bool (cmpI .gtr (List.length x0 : Int) 12), [], [(13, some 2)], []⟩] [0, 10] [] hAt
        ⟨ok_move rfl opd0,
        ok_len un43 rfl opd0,
        ok_cmp (op := .gtr) (by simp) rfl rfl opd0 opdI,
        ok_assign rfl opd0, trivial⟩ (by kernel_rfl) ?_
    clear hAt
    intro a w hAt
    replace hAt : At B h0 (mkG [(0, fV (Rep.slice GRun.rep) x0), (10, fV Rep.bool (cmpI .gtr (List.length x0 : Int) 12))]) (mkO []) F 65 a w := hAt
    refine then_n ?_
    refine wp_if hAt (by rfl) ?_ ?_
    · intro hb16
      have H := iteT hb16 H
      refine wp_seq ?_
      refine reg [⟨fV r_i64 8, [], [], []⟩] [2] [] hAt
          ⟨ok_assign rfl opdI, trivial⟩ (by kernel_rfl) ?_
      clear hAt
      intro a w hAt
      replace hAt : At B h0 (mkG [(2, fV r_i64 8)]) (mkO []) F 65 a w := hAt
      refine then_n ?_
      refine wp_ret ?_
      refine blk_r ?_
      refine then_r ?_
      cases H
      exact ret1 rfl (rv_tmp rfl rfl) hAt
    · intro hb16
      have H := iteF hb16 H
      refine wp_skip ?_
      refine blk_n ?_
      refine then_n ?_
      refine wp_seq ?_
      refine wp_seq ?_
      refine reg [⟨fV (Rep.slice GRun.rep) x0, [], [(0, none)], []⟩,
          ⟨fV r_i64 (List.length x0 : Int), [], [(14, some 0)], []⟩,
          ⟨fV r_i64 0, [], [], []⟩] [0, 14, 15, 16] [] hAt
          ⟨ok_move rfl opd0,
          ok_len un43 rfl opd0,
          ok_move rfl opdI, trivial⟩ (by kernel_rfl) ?_
      clear hAt
      intro a w hAt
      replace hAt : At B h0 (mkG [(0, fV (Rep.slice GRun.rep) x0), (14, fV (Rep.slice GRun.rep) x0), (15, fV r_i64 (List.length x0 : Int)), (16, fV r_i64 0)]) (mkO []) F 65 a w := hAt
      refine then_n ?_
      refine wp_block ?_
      obtain ⟨o11, hl12, H⟩ := bindE H
      refine wp_mono (wp_loopN (f := f_survey_CheckTrial_L1 N x0) (fun (s1 : Int) a w => At B h0 (mkG [(0, fV (Rep.slice GRun.rep) x0), (14, fV (Rep.slice GRun.rep) x0), (15, fV r_i64 (List.length x0 : Int)), (16, fV r_i64 s1)]) (mkO []) F 65 a w) (fun o e a w => (Sum.elim (fun v => e = .exit 1 ∧ At B h0 (mkG []) (mkO []) F 65 a w) (fun v => e = .ret ∧ At B h0 (mkG [(2, fV r_i64 v)]) (mkO []) F 65 a w)) o) ?_ N 0 o11 _ _ hl12 ?_) ?_
      · clear H hAt hl12
        intro s1 r15 a w H hAt
        unfold f_survey_CheckTrial_L1 at H
        refine wp_seq ?_
        refine reg [⟨fV Rep.bool (cmpI .lss s1 (List.length x0 : Int)), [], [(16, none), (15, none)], []⟩] [0, 14, 15, 16, 17] [] hAt
            ⟨ok_cmp (op := .lss) (by simp) rfl rfl opd0 opd1, trivial⟩ (by kernel_rfl) ?_
        clear hAt
        intro a w hAt
        replace hAt : At B h0 (mkG [(0, fV (Rep.slice GRun.rep) x0), (14, fV (Rep.slice GRun.rep) x0), (15, fV r_i64 (List.length x0 : Int)), (16, fV r_i64 s1), (17, fV Rep.bool (cmpI .lss s1 (List.length x0 : Int)))]) (mkO []) F 65 a w := hAt
        refine then_n ?_
        refine wp_seq ?_
        refine wp_if hAt (by rfl) ?_ ?_
        · intro hb10
          have H := iteT hb10 H
          refine wp_skip ?_
          refine then_n ?_
          refine wp_seq ?_
          refine wp_block ?_
          refine wp_seq ?_
          obtain ⟨v2, hv2, H⟩ := bindE H
          refine reg [⟨fV r_i64 s1, [], [(16, none)], []⟩,
              ⟨fRef GRun.rep v2, [], [(14, none), (16, none)], []⟩,
              ⟨fV GRun.rep v2, [], [(19, some 1)], []⟩,
              ⟨Fact.triv, [(4, some (boxE 131 GRun.rep (⟨0, 0, 0, false⟩ : GRun)))], [], []⟩,
              ⟨fV r_i64 s1, [], [(18, some 0)], []⟩,
              ⟨Fact.triv, [(4, some (boxE 131 GRun.rep v2))], [(20, some 2)], [(4, some 3)]⟩] [0, 3, 14, 15, 16] [4] hAt
              ⟨ok_move rfl opd0,
              ok_index ty131 un43 hv2 rfl opd0 opd1,
              ok_load ty131 rfl opd0,
              ok_alloc ty131 rfl rfl,
              ok_assign rfl opd0,
              ok_storeBox ty131 rfl rfl opd0, trivial⟩ (by kernel_rfl) ?_
          clear hAt
          intro a w hAt
          replace hAt : At B h0 (mkG [(0, fV (Rep.slice GRun.rep) x0), (3, fV r_i64 s1), (14, fV (Rep.slice GRun.rep) x0), (15, fV r_i64 (List.length x0 : Int)), (16, fV r_i64 s1)]) (mkO [(4, boxE 131 GRun.rep v2)]) F 65 a w := hAt
          refine then_n ?_
          refine wp_seq ?_
          refine wp_seq ?_
          obtain ⟨v3, hv3, H⟩ := bindE H
          obtain ⟨v4, hv4, H⟩ := bindE H
          refine reg [⟨fOff 4 0, [], [], [(4, none)]⟩,
              ⟨fV r_i64 v2.Start, [], [(21, some 0)], [(4, none)]⟩,
              ⟨fV (Rep.slice r_i64) [v2.Start], [], [(22, some 1)], []⟩,
              ⟨fV Rep.bool v3, [], [(23, some 2)], []⟩,
              ⟨fV Rep.bool (!v3), [], [(24, some 3)], []⟩,
              ⟨fV Rep.bool (!v3), [], [(25, some 4)], []⟩,
              ⟨Fact.when ((!(!v3)) = true) (fOff 4 1), [], [(26, some 5)], [(4, none)]⟩,
              ⟨Fact.when ((!(!v3)) = true) (fV r_i64 v2.Seconds), [], [(26, some 5), (27, some 6)], [(4, none)]⟩,
              ⟨Fact.when ((!(!v3)) = true) (fOff 4 2), [], [(26, some 5)], [(4, none)]⟩,
              ⟨Fact.when ((!(!v3)) = true) (fV r_i64 v2.Metres), [], [(26, some 5), (29, some 8)], [(4, none)]⟩,
              ⟨Fact.when ((!(!v3)) = true) (fV (Rep.slice r_i64) [v2.Seconds, v2.Metres]), [], [(26, some 5), (28, some 7), (30, some 9)], []⟩,
              ⟨Fact.when ((!(!v3)) = true) (fV Rep.bool v4), [], [(26, some 5), (31, some 10)], []⟩,
              ⟨Fact.when ((!(!v3)) = true) (fV Rep.bool (!v4)), [], [(26, some 5), (32, some 11)], []⟩,
              ⟨fV Rep.bool ((!v3) || (!v4)), [], [(26, some 5), (33, some 12)], []⟩] [0, 3, 14, 15, 16, 34] [4] hAt
              ⟨ok_fieldOwn fo131_0 rfl,
              ok_loadOwn GRun.l0 ty3 rfl opd0,
              ok_buildSlice ty3 un22 rfl rfl (fillC (Lens.arr _ _ 0 (by decide)) rfl opd0 fillN),
              ok_call (ok_f_survey_inside N 0 1000000 [v2.Start] _ hv3) Try.func71 (by kernel_rfl) (by kernel_rfl) rfl ⟨opdI, ⟨opdI, ⟨opd0, trivial⟩⟩⟩,
              ok_not rfl opd0,
              ok_move rfl opd0,
              obl_tf rfl rfl rfl rfl rfl rfl rfl (fun hg => ok_fieldOwn fo131_1 rfl),
              obl_tf rfl rfl rfl rfl rfl rfl rfl (fun hg => ok_loadOwn GRun.l1 ty3 rfl (opd1.on hg)),
              obl_tf rfl rfl rfl rfl rfl rfl rfl (fun hg => ok_fieldOwn fo131_2 rfl),
              obl_tf rfl rfl rfl rfl rfl rfl rfl (fun hg => ok_loadOwn GRun.l2 ty3 rfl (opd1.on hg)),
              obl_tf rfl rfl rfl rfl rfl rfl rfl (fun hg => ok_buildSlice ty3 un22 rfl rfl (fillC (Lens.arr _ _ 0 (by decide)) rfl (opd1.on hg) (fillC (Lens.arr _ _ 1 (by decide)) rfl (opd2.on hg) fillN))),
              obl_tf rfl rfl rfl rfl rfl rfl rfl (fun hg => ok_call (ok_f_survey_inside N 1 100000 [v2.Seconds, v2.Metres] _ (iteT hg hv4)) Try.func71 (by kernel_rfl) (by kernel_rfl) rfl ⟨opdI, ⟨opdI, ⟨(opd1.on hg), trivial⟩⟩⟩),
              obl_tf rfl rfl rfl rfl rfl rfl rfl (fun hg => ok_not rfl (opd1.on hg)),
              ok_or rfl opd0 (fun e => (opd1.on (notT e))), trivial⟩ (by kernel_rfl) ?_
          clear hAt
          intro a w hAt
          replace hAt : At B h0 (mkG [(0, fV (Rep.slice GRun.rep) x0), (3, fV r_i64 s1), (14, fV (Rep.slice GRun.rep) x0), (15, fV r_i64 (List.length x0 : Int)), (16, fV r_i64 s1), (34, fV Rep.bool ((!v3) || (!v4)))]) (mkO [(4, boxE 131 GRun.rep v2)]) F 65 a w := hAt
          refine then_n ?_
          refine wp_if hAt (by rfl) ?_ ?_
          · intro hb9
            have H := iteT hb9 H
            refine wp_seq ?_
            refine reg [⟨fV r_i64 2, [], [], []⟩] [2] [] hAt
                ⟨ok_assign rfl opdI, trivial⟩ (by kernel_rfl) ?_
            clear hAt
            intro a w hAt
            replace hAt : At B h0 (mkG [(2, fV r_i64 2)]) (mkO []) F 65 a w := hAt
            refine then_n ?_
            refine wp_ret ?_
            refine then_r ?_
            refine blk_r ?_
            refine then_r ?_
            cases H
            exact ⟨ret_ne, rfl, hAt.pick [2] []⟩
          · intro hb9
            have H := iteF hb9 H
            refine wp_skip ?_
            refine then_n ?_
            refine wp_seq ?_
            refine wp_seq ?_
            refine reg [⟨fV r_i64 s1, [], [(3, none)], []⟩,
                ⟨fV Rep.bool (cmpI .eql s1 0), [], [(35, some 0)], []⟩] [0, 3, 14, 15, 16, 36] [4] hAt
                ⟨ok_move rfl opd0,
                ok_cmp (op := .eql) (by simp) rfl rfl opd0 opdI, trivial⟩ (by kernel_rfl) ?_
            clear hAt
            intro a w hAt
            replace hAt : At B h0 (mkG [(0, fV (Rep.slice GRun.rep) x0), (3, fV r_i64 s1), (14, fV (Rep.slice GRun.rep) x0), (15, fV r_i64 (List.length x0 : Int)), (16, fV r_i64 s1), (36, fV Rep.bool (cmpI .eql s1 0))]) (mkO [(4, boxE 131 GRun.rep v2)]) F 65 a w := hAt
            refine then_n ?_
            refine wp_if hAt (by rfl) ?_ ?_
            · intro hb8
              have H := iteT hb8 H
              refine wp_exit ?_
              refine then_x ?_
              refine blk_eq ?_
              refine then_n ?_
              refine reg [⟨fV r_i64 (IntKind.i64.wrap (s1 + 1)), [], [(16, none)], []⟩,
                  ⟨fV r_i64 (IntKind.i64.wrap (s1 + 1)), [], [(64, some 0)], []⟩] [0, 14, 15, 16] [] hAt
                  ⟨ok_add rfl opd0 opdI,
                  ok_move rfl opd0, trivial⟩ (by kernel_rfl) ?_
              clear hAt
              intro a w hAt
              replace hAt : At B h0 (mkG [(0, fV (Rep.slice GRun.rep) x0), (14, fV (Rep.slice GRun.rep) x0), (15, fV r_i64 (List.length x0 : Int)), (16, fV r_i64 (IntKind.i64.wrap (s1 + 1)))]) (mkO []) F 65 a w := hAt
              cases H
              exact ⟨rfl, hAt.pick [0, 14, 15, 16] []⟩
            · intro hb8
              have H := iteF hb8 H
              refine wp_skip ?_
              refine then_n ?_
              refine wp_seq ?_
              obtain ⟨v5, hv5, H⟩ := bindE H
              refine reg [⟨fV (Rep.slice GRun.rep) x0, [], [(0, none)], []⟩,
                  ⟨fV r_i64 s1, [], [(3, none)], []⟩,
                  ⟨fV r_i64 (IntKind.i64.wrap (s1 - 1)), [], [(38, some 1)], []⟩,
                  ⟨fRef GRun.rep v5, [], [(37, some 0), (39, some 2)], []⟩,
                  ⟨fV GRun.rep v5, [], [(40, some 3)], []⟩,
                  ⟨Fact.triv, [(5, some (boxE 131 GRun.rep (⟨0, 0, 0, false⟩ : GRun)))], [], []⟩,
                  ⟨Fact.triv, [(5, some (boxE 131 GRun.rep v5))], [(41, some 4)], [(5, some 5)]⟩] [0, 14, 15, 16] [4, 5] hAt
                  ⟨ok_move rfl opd0,
                  ok_move rfl opd0,
                  ok_sub rfl opd0 opdI,
                  ok_index ty131 un43 hv5 rfl opd0 opd1,
                  ok_load ty131 rfl opd0,
                  ok_alloc ty131 rfl rfl,
                  ok_storeBox ty131 rfl rfl opd0, trivial⟩ (by kernel_rfl) ?_
              clear hAt
              intro a w hAt
              replace hAt : At B h0 (mkG [(0, fV (Rep.slice GRun.rep) x0), (14, fV (Rep.slice GRun.rep) x0), (15, fV r_i64 (List.length x0 : Int)), (16, fV r_i64 s1)]) (mkO [(4, boxE 131 GRun.rep v2), (5, boxE 131 GRun.rep v5)]) F 65 a w := hAt
              refine then_n ?_
              refine wp_block ?_
              refine wp_seq ?_
              refine reg [⟨fOff 4 0, [], [], [(4, none)]⟩,
                  ⟨fV r_i64 v2.Start, [], [(43, some 0)], [(4, none)]⟩,
                  ⟨fOff 5 0, [], [], [(5, none)]⟩,
                  ⟨fV r_i64 v5.Start, [], [(45, some 2)], [(5, none)]⟩,
                  ⟨fV Rep.bool (cmpI .leq v2.Start v5.Start), [], [(44, some 1), (46, some 3)], []⟩,
                  ⟨fV Rep.bool (cmpI .leq v2.Start v5.Start), [], [(47, some 4)], []⟩] [0, 14, 15, 16, 42] [4, 5] hAt
                  ⟨ok_fieldOwn fo131_0 rfl,
                  ok_loadOwn GRun.l0 ty3 rfl opd0,
                  ok_fieldOwn fo131_0 rfl,
                  ok_loadOwn GRun.l0 ty3 rfl opd0,
                  ok_cmp (op := .leq) (by simp) rfl rfl opd0 opd1,
                  ok_assign rfl opd0, trivial⟩ (by kernel_rfl) ?_
              clear hAt
              intro a w hAt
              replace hAt : At B h0 (mkG [(0, fV (Rep.slice GRun.rep) x0), (14, fV (Rep.slice GRun.rep) x0), (15, fV r_i64 (List.length x0 : Int)), (16, fV r_i64 s1), (42, fV Rep.bool (cmpI .leq v2.Start v5.Start))]) (mkO [(4, boxE 131 GRun.rep v2), (5, boxE 131 GRun.rep v5)]) F 65 a w := hAt
              refine then_n ?_
              refine wp_if hAt (by rfl) ?_ ?_
              · intro hb7
                have H := iteT hb7 H
                refine wp_seq ?_
                refine reg [⟨fV r_i64 10, [], [], []⟩] [2] [] hAt
                    ⟨ok_assign rfl opdI, trivial⟩ (by kernel_rfl) ?_
                clear hAt
                intro a w hAt
                replace hAt : At B h0 (mkG [(2, fV r_i64 10)]) (mkO []) F 65 a w := hAt
                refine then_n ?_
                refine wp_ret ?_
                refine blk_r ?_
                refine blk_r ?_
                refine then_r ?_
                cases H
                exact ⟨ret_ne, rfl, hAt.pick [2] []⟩
              · intro hb7
                have H := iteF hb7 H
                refine wp_seq ?_
                refine reg [⟨fOff 5 0, [], [], [(5, none)]⟩,
                    ⟨fV r_i64 v5.Start, [], [(49, some 0)], [(5, none)]⟩,
                    ⟨fOff 5 1, [], [], [(5, none)]⟩,
                    ⟨fV r_i64 v5.Seconds, [], [(51, some 2)], [(5, none)]⟩,
                    ⟨fV r_i64 (IntKind.i64.wrap (v5.Start + v5.Seconds)), [], [(50, some 1), (52, some 3)], []⟩,
                    ⟨fOff 4 0, [], [], [(4, none)]⟩,
                    ⟨fV r_i64 v2.Start, [], [(54, some 5)], [(4, none)]⟩,
                    ⟨fV Rep.bool (cmpI .gtr (IntKind.i64.wrap (v5.Start + v5.Seconds)) v2.Start), [], [(53, some 4), (55, some 6)], []⟩,
                    ⟨fV Rep.bool (cmpI .gtr (IntKind.i64.wrap (v5.Start + v5.Seconds)) v2.Start), [], [(56, some 7)], []⟩,
                    ⟨Fact.when ((!(cmpI .gtr (IntKind.i64.wrap (v5.Start + v5.Seconds)) v2.Start)) = true) (fOff 5 3), [], [(57, some 8)], [(5, none)]⟩,
                    ⟨Fact.when ((!(cmpI .gtr (IntKind.i64.wrap (v5.Start + v5.Seconds)) v2.Start)) = true) (fV Rep.bool v5.Back), [], [(57, some 8), (58, some 9)], [(5, none)]⟩,
                    ⟨Fact.when ((!(cmpI .gtr (IntKind.i64.wrap (v5.Start + v5.Seconds)) v2.Start)) = true) (fOff 4 3), [], [(57, some 8)], [(4, none)]⟩,
                    ⟨Fact.when ((!(cmpI .gtr (IntKind.i64.wrap (v5.Start + v5.Seconds)) v2.Start)) = true) (fV Rep.bool v2.Back), [], [(57, some 8), (60, some 11)], [(4, none)]⟩,
                    ⟨Fact.when ((!(cmpI .gtr (IntKind.i64.wrap (v5.Start + v5.Seconds)) v2.Start)) = true) (fV Rep.bool (v5.Back == v2.Back)), [], [(57, some 8), (59, some 10), (61, some 12)], []⟩,
                    ⟨fV Rep.bool ((cmpI .gtr (IntKind.i64.wrap (v5.Start + v5.Seconds)) v2.Start) || (v5.Back == v2.Back)), [], [(57, some 8), (62, some 13)], []⟩,
                    ⟨fV Rep.bool ((cmpI .gtr (IntKind.i64.wrap (v5.Start + v5.Seconds)) v2.Start) || (v5.Back == v2.Back)), [], [(63, some 14)], []⟩] [0, 14, 15, 16, 48] [] hAt
                    ⟨ok_fieldOwn fo131_0 rfl,
                    ok_loadOwn GRun.l0 ty3 rfl opd0,
                    ok_fieldOwn fo131_1 rfl,
                    ok_loadOwn GRun.l1 ty3 rfl opd0,
                    ok_add rfl opd0 opd1,
                    ok_fieldOwn fo131_0 rfl,
                    ok_loadOwn GRun.l0 ty3 rfl opd0,
                    ok_cmp (op := .gtr) (by simp) rfl rfl opd0 opd1,
                    ok_move rfl opd0,
                    obl_tf rfl rfl rfl rfl rfl rfl rfl (fun hg => ok_fieldOwn fo131_3 rfl),
                    obl_tf rfl rfl rfl rfl rfl rfl rfl (fun hg => ok_loadOwn GRun.l3 ty4 rfl (opd1.on hg)),
                    obl_tf rfl rfl rfl rfl rfl rfl rfl (fun hg => ok_fieldOwn fo131_3 rfl),
                    obl_tf rfl rfl rfl rfl rfl rfl rfl (fun hg => ok_loadOwn GRun.l3 ty4 rfl (opd1.on hg)),
                    obl_tf rfl rfl rfl rfl rfl rfl rfl (fun hg => ok_eqB un4 rfl (opd1.on hg) (opd2.on hg)),
                    ok_or rfl opd0 (fun e => (opd1.on (notT e))),
                    ok_assign rfl opd0, trivial⟩ (by kernel_rfl) ?_
                clear hAt
                intro a w hAt
                replace hAt : At B h0 (mkG [(0, fV (Rep.slice GRun.rep) x0), (14, fV (Rep.slice GRun.rep) x0), (15, fV r_i64 (List.length x0 : Int)), (16, fV r_i64 s1), (48, fV Rep.bool ((cmpI .gtr (IntKind.i64.wrap (v5.Start + v5.Seconds)) v2.Start) || (v5.Back == v2.Back)))]) (mkO []) F 65 a w := hAt
                refine then_n ?_
                refine wp_if hAt (by rfl) ?_ ?_
                · intro hb6
                  have H := iteT hb6 H
                  refine wp_seq ?_
                  refine reg [⟨fV r_i64 17, [], [], []⟩] [2] [] hAt
                      ⟨ok_assign rfl opdI, trivial⟩ (by kernel_rfl) ?_
                  clear hAt
                  intro a w hAt
                  replace hAt : At B h0 (mkG [(2, fV r_i64 17)]) (mkO []) F 65 a w := hAt
                  refine then_n ?_
                  refine wp_ret ?_
                  refine blk_r ?_
                  refine blk_r ?_
                  refine then_r ?_
                  cases H
                  exact ⟨ret_ne, rfl, hAt.pick [2] []⟩
                · intro hb6
                  have H := iteF hb6 H
                  refine wp_skip ?_
                  refine blk_n ?_
                  refine blk_n ?_
                  refine then_n ?_
                  refine reg [⟨fV r_i64 (IntKind.i64.wrap (s1 + 1)), [], [(16, none)], []⟩,
                      ⟨fV r_i64 (IntKind.i64.wrap (s1 + 1)), [], [(64, some 0)], []⟩] [0, 14, 15, 16] [] hAt
                      ⟨ok_add rfl opd0 opdI,
                      ok_move rfl opd0, trivial⟩ (by kernel_rfl) ?_
                  clear hAt
                  intro a w hAt
                  replace hAt : At B h0 (mkG [(0, fV (Rep.slice GRun.rep) x0), (14, fV (Rep.slice GRun.rep) x0), (15, fV r_i64 (List.length x0 : Int)), (16, fV r_i64 (IntKind.i64.wrap (s1 + 1)))]) (mkO []) F 65 a w := hAt
                  cases H
                  exact ⟨rfl, hAt.pick [0, 14, 15, 16] []⟩
        · intro hb10
          have H := iteF hb10 H
          refine wp_exit ?_
          refine then_x ?_
          cases H
          exact ⟨ex_ne, rfl, hAt.pick [] []⟩
      · exact hAt.pick [0, 14, 15, 16] []
      · clear hAt
        intro e a w hp
        cases o11 with
        | inl l13 =>
          rw [Sum.elim_inl] at H
          obtain ⟨rfl, hAt⟩ := hp
          refine blk_eq ?_
          refine then_n ?_
          refine wp_seq ?_
          refine reg [⟨fV r_i64 0, [], [], []⟩] [2] [] hAt
              ⟨ok_assign rfl opdI, trivial⟩ (by kernel_rfl) ?_
          clear hAt
          intro a w hAt
          replace hAt : At B h0 (mkG [(2, fV r_i64 0)]) (mkO []) F 65 a w := hAt
          refine then_n ?_
          refine wp_ret ?_
          cases H
          exact ret1 rfl (rv_tmp rfl rfl) hAt
        | inr r14 =>
          rw [Sum.elim_inr] at H
          replace hp := hp
          obtain ⟨rfl, hAt⟩ := hp
          refine blk_r ?_
          refine then_r ?_
          cases H
          exact ret1 rfl (rv_tmp rfl rfl) hAt
theorem ok_f_exact_natural (N : Nat) (x0 : Int) (r : (List Int)) (H : f_exact_natural N x0 = some r) : FnOk Try.prog 168 [fV r_u64 x0] (fV (Rep.slice r_u16) r) := by
  unfold f_exact_natural at H
  refine fn_enter Try.func168 rfl rfl (by kernel_rfl) ?_
  intro κ B h0 F a w hAt
  refine wp_seq ?_
  refine reg [⟨fV (Rep.slice r_u16) [], [(2, some (tipE 103 r_u16.sz))], [], []⟩] [0] [] hAt
      ⟨ok_nilTip rfl (.inl rfl), trivial⟩ (by kernel_rfl) ?_
  clear hAt
  intro a w hAt
  replace hAt : At B h0 (mkG [(0, fV r_u64 x0)]) (mkO []) F 14 a w := hAt
  refine then_n ?_
  refine wp_seq ?_
  refine reg [⟨fV (Rep.slice r_u16) [], [(3, some (tipE 103 r_u16.sz))], [], []⟩] [0, 3] [3] hAt
      ⟨ok_nilTip rfl (.inl rfl), trivial⟩ (by kernel_rfl) ?_
  clear hAt
  intro a w hAt
  replace hAt : At B h0 (mkG [(0, fV r_u64 x0), (3, fV (Rep.slice r_u16) [])]) (mkO [(3, tipE 103 r_u16.sz)]) F 14 a w := hAt
  refine then_n ?_
  refine wp_seq ?_
  refine wp_block ?_
  obtain ⟨o5, hl6, H⟩ := bindE H
  refine wp_mono (wp_loopN (f := f_exact_natural_L1 N) (fun (s1 : (Int × (List Int))) a w => At B h0 (mkG [(0, fV r_u64 s1.1), (3, fV (Rep.slice r_u16) s1.2)]) (mkO [(3, tipE 103 r_u16.sz)]) F 14 a w) (fun o e a w => (fun v => e = .exit 0 ∧ At B h0 (mkG [(3, fV (Rep.slice r_u16) v)]) (mkO [(3, tipE 103 r_u16.sz)]) F 14 a w) o) ?_ N (x0, []) o5 _ _ hl6 ?_) ?_
  · clear H hAt hl6
    intro s1 r7 a w H hAt
    unfold f_exact_natural_L1 at H
    refine wp_seq ?_
    refine wp_seq ?_
    refine reg [⟨fV r_u64 s1.1, [], [(0, none)], []⟩,
        ⟨fV Rep.bool (cmpI .gtr s1.1 0), [], [(4, some 0)], []⟩] [0, 3, 5] [3] hAt
        ⟨ok_move rfl opd0,
        ok_cmp (op := .gtr) (by simp) rfl rfl opd0 opdI, trivial⟩ (by kernel_rfl) ?_
    clear hAt
    intro a w hAt
    replace hAt : At B h0 (mkG [(0, fV r_u64 s1.1), (3, fV (Rep.slice r_u16) s1.2), (5, fV Rep.bool (cmpI .gtr s1.1 0))]) (mkO [(3, tipE 103 r_u16.sz)]) F 14 a w := hAt
    refine then_n ?_
    refine wp_if hAt (by rfl) ?_ ?_
    · intro hb4
      have H := iteT hb4 H
      refine wp_skip ?_
      refine then_n ?_
      refine wp_seq ?_
      refine wp_block ?_
      obtain ⟨v2, hv2, H⟩ := bindE H
      refine reg [⟨fV (Rep.slice r_u16) s1.2, [(3, none), (8, some (tipE 103 r_u16.sz))], [(3, none)], [(3, none)]⟩,
          ⟨fV r_u64 s1.1, [], [(0, none)], []⟩,
          ⟨fV r_u16 (IntKind.u16.wrap s1.1), [], [(9, some 1)], []⟩,
          ⟨fV (Rep.slice r_u16) [(IntKind.u16.wrap s1.1)], [], [(10, some 2)], []⟩,
          ⟨fV (Rep.slice r_u16) v2, [(8, none), (12, some (tipE 103 r_u16.sz))], [(8, some 0), (11, some 3)], [(8, some 0)]⟩,
          ⟨fV (Rep.slice r_u16) v2, [(12, none), (3, some (tipE 103 r_u16.sz))], [(12, some 4)], [(12, some 4)]⟩] [0, 3] [3] hAt
          ⟨ok_moveOwn rfl rfl (.inl rfl) opd0,
          ok_move rfl opd0,
          ok_conv un186 un103 rfl opd0,
          ok_buildSlice ty103 un45 rfl rfl (fillC (Lens.arr _ _ 0 (by decide)) rfl opd0 fillN),
          ok_append hv2 el103 un45 rfl rfl rfl opd0 opd1,
          ok_moveOwn rfl rfl (.inr rfl) opd0, trivial⟩ (by kernel_rfl) ?_
      clear hAt
      intro a w hAt
      replace hAt : At B h0 (mkG [(0, fV r_u64 s1.1), (3, fV (Rep.slice r_u16) v2)]) (mkO [(3, tipE 103 r_u16.sz)]) F 14 a w := hAt
      refine blk_n ?_
      refine then_n ?_
      obtain ⟨v3, hv3, H⟩ := bindE H
      refine reg [⟨fV r_u64 s1.1, [], [(0, none)], []⟩,
          ⟨fV r_u64 v3, [], [(6, some 0)], []⟩,
          ⟨fV r_u64 v3, [], [(7, some 1)], []⟩] [0, 3] [3] hAt
          ⟨ok_move rfl opd0,
          ok_shr hv3 rfl opd0 opdI,
          ok_assign rfl opd0, trivial⟩ (by kernel_rfl) ?_
      clear hAt
      intro a w hAt
      replace hAt : At B h0 (mkG [(0, fV r_u64 v3), (3, fV (Rep.slice r_u16) v2)]) (mkO [(3, tipE 103 r_u16.sz)]) F 14 a w := hAt
      cases H
      exact ⟨rfl, hAt.pick [0, 3] [3]⟩
    · intro hb4
      have H := iteF hb4 H
      refine wp_exit ?_
      refine then_x ?_
      cases H
      exact ⟨ex_ne, rfl, hAt.pick [3] [3]⟩
  · exact hAt.pick [0, 3] [3]
  · clear hAt
    intro e a w hp
    obtain ⟨rfl, hAt⟩ := hp
    refine blk_eq ?_
    refine then_n ?_
    refine wp_seq ?_
    refine reg [⟨fV (Rep.slice r_u16) o5, [], [(3, none)], []⟩,
        ⟨fV (Rep.slice r_u16) o5, [], [(13, some 0)], []⟩] [2] [] hAt
        ⟨ok_move rfl opd0,
        ok_assign rfl opd0, trivial⟩ (by kernel_rfl) ?_
    clear hAt
    intro a w hAt
    replace hAt : At B h0 (mkG [(2, fV (Rep.slice r_u16) o5)]) (mkO []) F 14 a w := hAt
    refine then_n ?_
    refine wp_ret ?_
    cases H
    exact ret1 rfl (rv_tmp rfl rfl) hAt
theorem ok_f_exact_trim (N : Nat) (x0 : (List Int)) (r : (List Int)) (H : f_exact_trim N x0 = some r) : FnOk Try.prog 143 [fV (Rep.slice r_u16) x0] (fV (Rep.slice r_u16) r) := by
  unfold f_exact_trim at H
  refine fn_enter Try.func143 rfl rfl (by kernel_rfl) ?_
  intro κ B h0 F a w hAt
  refine wp_seq ?_
  refine reg [⟨fV (Rep.slice r_u16) [], [(2, some (tipE 103 r_u16.sz))], [], []⟩] [0] [] hAt
      ⟨ok_nilTip rfl (.inl rfl), trivial⟩ (by kernel_rfl) ?_
  clear hAt
  intro a w hAt
  replace hAt : At B h0 (mkG [(0, fV (Rep.slice r_u16) x0)]) (mkO []) F 21 a w := hAt
  refine then_n ?_
  refine wp_seq ?_
  refine wp_block ?_
  obtain ⟨o5, hl6, H⟩ := bindE H
  refine wp_mono (wp_loopN (f := f_exact_trim_L1 N) (fun (s1 : (List Int)) a w => At B h0 (mkG [(0, fV (Rep.slice r_u16) s1)]) (mkO []) F 21 a w) (fun o e a w => (fun v => e = .exit 0 ∧ At B h0 (mkG [(0, fV (Rep.slice r_u16) v)]) (mkO []) F 21 a w) o) ?_ N x0 o5 _ _ hl6 ?_) ?_
  · clear H hAt hl6
    intro s1 r7 a w H hAt
    unfold f_exact_trim_L1 at H
    refine wp_seq ?_
    refine wp_seq ?_
    obtain ⟨v2, hv2, H⟩ := bindE H
    refine reg [⟨fV (Rep.slice r_u16) s1, [], [(0, none)], []⟩,
        ⟨fV r_i64 (List.length s1 : Int), [], [(3, some 0)], []⟩,
        ⟨fV Rep.bool (cmpI .gtr (List.length s1 : Int) 0), [], [(4, some 1)], []⟩,
        ⟨fV Rep.bool (cmpI .gtr (List.length s1 : Int) 0), [], [(5, some 2)], []⟩,
        ⟨Fact.when ((cmpI .gtr (List.length s1 : Int) 0) = true) (fV (Rep.slice r_u16) s1), [], [(6, some 3), (0, none)], []⟩,
        ⟨Fact.when ((cmpI .gtr (List.length s1 : Int) 0) = true) (fV (Rep.slice r_u16) s1), [], [(6, some 3), (0, none)], []⟩,
        ⟨Fact.when ((cmpI .gtr (List.length s1 : Int) 0) = true) (fV r_i64 (List.length s1 : Int)), [], [(6, some 3), (8, some 5)], []⟩,
        ⟨Fact.when ((cmpI .gtr (List.length s1 : Int) 0) = true) (fV r_i64 (IntKind.i64.wrap ((List.length s1 : Int) - 1))), [], [(6, some 3), (9, some 6)], []⟩,
        ⟨Fact.when ((cmpI .gtr (List.length s1 : Int) 0) = true) (fRef r_u16 v2), [], [(6, some 3), (7, some 4), (10, some 7)], []⟩,
        ⟨Fact.when ((cmpI .gtr (List.length s1 : Int) 0) = true) (fV r_u16 v2), [], [(6, some 3), (11, some 8)], []⟩,
        ⟨Fact.when ((cmpI .gtr (List.length s1 : Int) 0) = true) (fV Rep.bool (cmpI .eql v2 0)), [], [(6, some 3), (12, some 9)], []⟩,
        ⟨fV Rep.bool ((cmpI .gtr (List.length s1 : Int) 0) && (cmpI .eql v2 0)), [], [(6, some 3), (13, some 10)], []⟩] [0, 14] [] hAt
        ⟨ok_move rfl opd0,
        ok_len un45 rfl opd0,
        ok_cmp (op := .gtr) (by simp) rfl rfl opd0 opdI,
        ok_move rfl opd0,
        obl_tt rfl rfl rfl rfl rfl rfl rfl (fun hg => ok_move rfl opd1),
        obl_tt rfl rfl rfl rfl rfl rfl rfl (fun hg => ok_move rfl opd1),
        obl_tt rfl rfl rfl rfl rfl rfl rfl (fun hg => ok_len un45 rfl (opd1.on hg)),
        obl_tt rfl rfl rfl rfl rfl rfl rfl (fun hg => ok_sub rfl (opd1.on hg) opdI),
        obl_tt rfl rfl rfl rfl rfl rfl rfl (fun hg => ok_index ty103 un45 (iteT hg hv2) rfl (opd1.on hg) (opd2.on hg)),
        obl_tt rfl rfl rfl rfl rfl rfl rfl (fun hg => ok_load ty103 rfl (opd1.on hg)),
        obl_tt rfl rfl rfl rfl rfl rfl rfl (fun hg => ok_cmp (op := .eql) (by simp) rfl rfl (opd1.on hg) opdI),
        ok_and rfl opd0 (fun e => (opd1.on e)), trivial⟩ (by kernel_rfl) ?_
    clear hAt
    intro a w hAt
    replace hAt : At B h0 (mkG [(0, fV (Rep.slice r_u16) s1), (14, fV Rep.bool ((cmpI .gtr (List.length s1 : Int) 0) && (cmpI .eql v2 0)))]) (mkO []) F 21 a w := hAt
    refine then_n ?_
    refine wp_if hAt (by rfl) ?_ ?_
    · intro hb4
      have H := iteT hb4 H
      refine wp_skip ?_
      refine then_n ?_
      refine wp_block ?_
      obtain ⟨v3, hv3, H⟩ := bindE H
      refine reg [⟨fV (Rep.slice r_u16) s1, [], [(0, none)], []⟩,
          ⟨fV (Rep.slice r_u16) s1, [], [(0, none)], []⟩,
          ⟨fV r_i64 (List.length s1 : Int), [], [(16, some 1)], []⟩,
          ⟨fV r_i64 (IntKind.i64.wrap ((List.length s1 : Int) - 1)), [], [(17, some 2)], []⟩,
          ⟨fV (Rep.slice r_u16) v3, [], [(15, some 0), (18, some 3)], []⟩,
          ⟨fV (Rep.slice r_u16) v3, [], [(19, some 4)], []⟩] [0] [] hAt
          ⟨ok_move rfl opd0,
          ok_move rfl opd0,
          ok_len un45 rfl opd0,
          ok_sub rfl opd0 opdI,
          ok_slice hv3 ty103 un45 rfl opd0 bndN (bndS opd1),
          ok_assign rfl opd0, trivial⟩ (by kernel_rfl) ?_
      clear hAt
      intro a w hAt
      replace hAt : At B h0 (mkG [(0, fV (Rep.slice r_u16) v3)]) (mkO []) F 21 a w := hAt
      refine blk_n ?_
      cases H
      exact ⟨rfl, hAt.pick [0] []⟩
    · intro hb4
      have H := iteF hb4 H
      refine wp_exit ?_
      refine then_x ?_
      cases H
      exact ⟨ex_ne, rfl, hAt.pick [0] []⟩
  · exact hAt.pick [0] []
  · clear hAt
    intro e a w hp
    obtain ⟨rfl, hAt⟩ := hp
    refine blk_eq ?_
    refine then_n ?_
    refine wp_seq ?_
    refine reg [⟨fV (Rep.slice r_u16) o5, [], [(0, none)], []⟩,
        ⟨fV (Rep.slice r_u16) o5, [], [(20, some 0)], []⟩] [2] [] hAt
        ⟨ok_move rfl opd0,
        ok_assign rfl opd0, trivial⟩ (by kernel_rfl) ?_
    clear hAt
    intro a w hAt
    replace hAt : At B h0 (mkG [(2, fV (Rep.slice r_u16) o5)]) (mkO []) F 21 a w := hAt
    refine then_n ?_
    refine wp_ret ?_
    cases H
    exact ret1 rfl (rv_tmp rfl rfl) hAt
theorem ok_f_slices_Cloneluint16_uint16 (N : Nat) (x0 : (List Int)) (r : (List Int)) (H : f_slices_Cloneluint16_uint16 N x0 = some r) : FnOk Try.prog 170 [fV (Rep.slice r_u16) x0] (fV (Rep.slice r_u16) r) := by
  unfold f_slices_Cloneluint16_uint16 at H
  refine fn_enter Try.func170 rfl rfl (by kernel_rfl) ?_
  intro κ B h0 F a w hAt
  refine wp_seq ?_
  refine reg [⟨fV (Rep.slice r_u16) [], [(2, some (tipE 103 r_u16.sz))], [], []⟩] [0] [] hAt
      ⟨ok_nilTip rfl (.inl rfl), trivial⟩ (by kernel_rfl) ?_
  clear hAt
  intro a w hAt
  replace hAt : At B h0 (mkG [(0, fV (Rep.slice r_u16) x0)]) (mkO []) F 8 a w := hAt
  refine then_n ?_
  refine wp_seq ?_
  refine wp_seq ?_
  refine reg [⟨fV (Rep.slice r_u16) x0, [], [(0, none)], []⟩,
      ⟨fNil x0, [], [(3, some 0)], []⟩] [0, 4] [] hAt
      ⟨ok_move rfl opd0,
      ok_isNil un45 rfl opd0, trivial⟩ (by kernel_rfl) ?_
  clear hAt
  intro a w hAt
  replace hAt : At B h0 (mkG [(0, fV (Rep.slice r_u16) x0), (4, fNil x0)]) (mkO []) F 8 a w := hAt
  refine then_n ?_
  refine wp_ifNil hAt (by rfl) ?_ ?_
  · intro hb2
    refine wp_seq ?_
    refine reg [⟨fV (Rep.slice r_u16) [], [(2, some (tipE 103 r_u16.sz))], [], []⟩] [2] [2] hAt
        ⟨ok_nilTip rfl (.inl rfl), trivial⟩ (by kernel_rfl) ?_
    clear hAt
    intro a w hAt
    replace hAt : At B h0 (mkG [(2, fV (Rep.slice r_u16) [])]) (mkO [(2, tipE 103 r_u16.sz)]) F 8 a w := hAt
    refine then_n ?_
    refine wp_ret ?_
    refine then_r ?_
    rw [hb2] at H
    cases H
    exact ret1 rfl (rv_tmp rfl rfl) hAt
  · refine wp_skip ?_
    refine then_n ?_
    refine wp_seq ?_
    obtain ⟨v1, hv1, H⟩ := bindE H
    refine reg [⟨fV (Rep.slice r_u16) ([] : (List Int)), [(5, some (tipE 103 r_u16.sz))], [], []⟩,
        ⟨fV (Rep.slice r_u16) x0, [], [(0, none)], []⟩,
        ⟨fV (Rep.slice r_u16) v1, [(5, none), (7, some (tipE 103 r_u16.sz))], [(5, some 0), (6, some 1)], [(5, some 0)]⟩,
        ⟨fV (Rep.slice r_u16) v1, [(7, none), (2, some (tipE 103 r_u16.sz))], [(7, some 2)], [(7, some 2)]⟩] [2] [2] hAt
        ⟨ok_buildTip ty103 un45 rfl rfl rfl fillN,
        ok_move rfl opd0,
        ok_append hv1 el103 un45 rfl rfl rfl opd0 opd1,
        ok_moveOwn rfl rfl (.inr rfl) opd0, trivial⟩ (by kernel_rfl) ?_
    clear hAt
    intro a w hAt
    replace hAt : At B h0 (mkG [(2, fV (Rep.slice r_u16) v1)]) (mkO [(2, tipE 103 r_u16.sz)]) F 8 a w := hAt
    refine then_n ?_
    refine wp_ret ?_
    cases H
    exact ret1 rfl (rv_tmp rfl rfl) hAt
theorem ok_f_exact_signed (N : Nat) (x0 : Bool) (x1 : (List Int)) (r : GInt) (H : f_exact_signed N x0 x1 = some r) : FnOk Try.prog 146 [fV Rep.bool x0, fV (Rep.slice r_u16) x1] (fV GInt.rep r) := by
  unfold f_exact_signed at H
  refine fn_enter Try.func146 rfl rfl (by kernel_rfl) ?_
  intro κ B h0 F a w hAt
  refine wp_seq ?_
  refine reg [⟨Fact.triv, [(4, some (boxE 47 GInt.rep (⟨false, []⟩ : GInt)))], [], []⟩] [0, 1] [4] hAt
      ⟨ok_alloc ty47 rfl rfl, trivial⟩ (by kernel_rfl) ?_
  clear hAt
  intro a w hAt
  replace hAt : At B h0 (mkG [(0, fV Rep.bool x0), (1, fV (Rep.slice r_u16) x1)]) (mkO [(4, boxE 47 GInt.rep (⟨false, []⟩ : GInt))]) F 15 a w := hAt
  refine then_n ?_
  refine wp_seq ?_
  obtain ⟨v1, hv1, H⟩ := bindE H
  refine reg [⟨fV (Rep.slice r_u16) x1, [], [(1, none)], []⟩,
      ⟨fV (Rep.slice r_u16) v1, [], [(5, some 0)], []⟩,
      ⟨fV (Rep.slice r_u16) v1, [], [(6, some 1)], []⟩] [0, 1] [4] hAt
      ⟨ok_move rfl opd0,
      ok_call (ok_f_exact_trim N x1 _ hv1) Try.func143 (by kernel_rfl) (by kernel_rfl) rfl ⟨opd0, trivial⟩,
      ok_assign rfl opd0, trivial⟩ (by kernel_rfl) ?_
  clear hAt
  intro a w hAt
  replace hAt : At B h0 (mkG [(0, fV Rep.bool x0), (1, fV (Rep.slice r_u16) v1)]) (mkO [(4, boxE 47 GInt.rep (⟨false, []⟩ : GInt))]) F 15 a w := hAt
  refine then_n ?_
  refine wp_seq ?_
  refine wp_seq ?_
  refine reg [⟨fV (Rep.slice r_u16) v1, [], [(1, none)], []⟩,
      ⟨fV r_i64 (List.length v1 : Int), [], [(7, some 0)], []⟩,
      ⟨fV Rep.bool (cmpI .eql (List.length v1 : Int) 0), [], [(8, some 1)], []⟩] [0, 1, 9] [4] hAt
      ⟨ok_move rfl opd0,
      ok_len un45 rfl opd0,
      ok_cmp (op := .eql) (by simp) rfl rfl opd0 opdI, trivial⟩ (by kernel_rfl) ?_
  clear hAt
  intro a w hAt
  replace hAt : At B h0 (mkG [(0, fV Rep.bool x0), (1, fV (Rep.slice r_u16) v1), (9, fV Rep.bool (cmpI .eql (List.length v1 : Int) 0))]) (mkO [(4, boxE 47 GInt.rep (⟨false, []⟩ : GInt))]) F 15 a w := hAt
  refine then_n ?_
  refine wp_if hAt (by rfl) ?_ ?_
  · intro hb3
    have H := iteT hb3 H
    refine wp_seq ?_
    refine reg [⟨fV GInt.rep (⟨false, []⟩ : GInt), [], [], []⟩,
        ⟨Fact.triv, [(4, some (boxE 47 GInt.rep (⟨false, []⟩ : GInt)))], [(10, some 0)], [(4, none)]⟩] [] [4] hAt
        ⟨ok_build ty47 rfl pl47 rfl fillN,
        ok_storeBox ty47 rfl rfl opd0, trivial⟩ (by kernel_rfl) ?_
    clear hAt
    intro a w hAt
    replace hAt : At B h0 (mkG []) (mkO [(4, boxE 47 GInt.rep (⟨false, []⟩ : GInt))]) F 15 a w := hAt
    refine then_n ?_
    refine wp_ret ?_
    refine then_r ?_
    cases H
    exact ret1 rfl (rv_cell ty47 rfl) hAt
  · intro hb3
    have H := iteF hb3 H
    refine wp_skip ?_
    refine then_n ?_
    refine wp_seq ?_
    obtain ⟨v2, hv2, H⟩ := bindE H
    refine reg [⟨fV Rep.bool x0, [], [(0, none)], []⟩,
        ⟨fV (Rep.slice r_u16) v1, [], [(1, none)], []⟩,
        ⟨fV (Rep.slice r_u16) v2, [], [(12, some 1)], []⟩,
        ⟨fV GInt.rep (⟨x0, v2⟩ : GInt), [], [(11, some 0), (13, some 2)], []⟩,
        ⟨Fact.triv, [(4, some (boxE 47 GInt.rep (⟨x0, v2⟩ : GInt)))], [(14, some 3)], [(4, none)]⟩] [] [4] hAt
        ⟨ok_move rfl opd0,
        ok_move rfl opd0,
        ok_call (ok_f_slices_Cloneluint16_uint16 N v1 _ hv2) Try.func170 (by kernel_rfl) (by kernel_rfl) rfl ⟨opd0, trivial⟩,
        ok_build ty47 rfl pl47 rfl (fillC GInt.l0 rfl opd0 (fillC GInt.l1 rfl opd1 fillN)),
        ok_storeBox ty47 rfl rfl opd0, trivial⟩ (by kernel_rfl) ?_
    clear hAt
    intro a w hAt
    replace hAt : At B h0 (mkG []) (mkO [(4, boxE 47 GInt.rep (⟨x0, v2⟩ : GInt))]) F 15 a w := hAt
    refine then_n ?_
    refine wp_ret ?_
    cases H
    exact ret1 rfl (rv_cell ty47 rfl) hAt
theorem ok_f_exact_Of (N : Nat) (x0 : Int) (r : GInt) (H : f_exact_Of N x0 = some r) : FnOk Try.prog 141 [fV r_i64 x0] (fV GInt.rep r) := by
  unfold f_exact_Of at H
  refine fn_enter Try.func141 rfl rfl (by kernel_rfl) ?_
  intro κ B h0 F a w hAt
  refine wp_seq ?_
  refine reg [⟨Fact.triv, [(2, some (boxE 47 GInt.rep (⟨false, []⟩ : GInt)))], [], []⟩] [0] [2] hAt
      ⟨ok_alloc ty47 rfl rfl, trivial⟩ (by kernel_rfl) ?_
  clear hAt
  intro a w hAt
  replace hAt : At B h0 (mkG [(0, fV r_i64 x0)]) (mkO [(2, boxE 47 GInt.rep (⟨false, []⟩ : GInt))]) F 14 a w := hAt
  refine then_n ?_
  refine wp_seq ?_
  refine wp_seq ?_
  refine reg [⟨fV r_i64 x0, [], [(0, none)], []⟩,
      ⟨fV Rep.bool (cmpI .lss x0 0), [], [(3, some 0)], []⟩] [0, 4] [2] hAt
      ⟨ok_move rfl opd0,
      ok_cmp (op := .lss) (by simp) rfl rfl opd0 opdI, trivial⟩ (by kernel_rfl) ?_
  clear hAt
  intro a w hAt
  replace hAt : At B h0 (mkG [(0, fV r_i64 x0), (4, fV Rep.bool (cmpI .lss x0 0))]) (mkO [(2, boxE 47 GInt.rep (⟨false, []⟩ : GInt))]) F 14 a w := hAt
  refine then_n ?_
  refine wp_if hAt (by rfl) ?_ ?_
  · intro hb5
    have H := iteT hb5 H
    refine wp_seq ?_
    obtain ⟨v1, hv1, H⟩ := bindE H
    obtain ⟨v2, hv2, H⟩ := bindE H
    refine reg [⟨fV r_i64 x0, [], [(0, none)], []⟩,
        ⟨fV r_u64 (IntKind.u64.wrap x0), [], [(5, some 0)], []⟩,
        ⟨fV r_u64 (IntKind.u64.wrap (0 - (IntKind.u64.wrap x0))), [], [(6, some 1)], []⟩,
        ⟨fV (Rep.slice r_u16) v1, [], [(7, some 2)], []⟩,
        ⟨fV GInt.rep v2, [], [(8, some 3)], []⟩,
        ⟨Fact.triv, [(2, some (boxE 47 GInt.rep v2))], [(9, some 4)], [(2, none)]⟩] [] [2] hAt
        ⟨ok_move rfl opd0,
        ok_conv un3 un186 rfl opd0,
        ok_neg rfl opd0,
        ok_call (ok_f_exact_natural N (IntKind.u64.wrap (0 - (IntKind.u64.wrap x0))) _ hv1) Try.func168 (by kernel_rfl) (by kernel_rfl) rfl ⟨opd0, trivial⟩,
        ok_call (ok_f_exact_signed N true v1 _ hv2) Try.func146 (by kernel_rfl) (by kernel_rfl) rfl ⟨opdB, ⟨opd0, trivial⟩⟩,
        ok_storeBox ty47 rfl rfl opd0, trivial⟩ (by kernel_rfl) ?_
    clear hAt
    intro a w hAt
    replace hAt : At B h0 (mkG []) (mkO [(2, boxE 47 GInt.rep v2)]) F 14 a w := hAt
    refine then_n ?_
    refine wp_ret ?_
    refine then_r ?_
    cases H
    exact ret1 rfl (rv_cell ty47 rfl) hAt
  · intro hb5
    have H := iteF hb5 H
    refine wp_skip ?_
    refine then_n ?_
    refine wp_seq ?_
    obtain ⟨v3, hv3, H⟩ := bindE H
    obtain ⟨v4, hv4, H⟩ := bindE H
    refine reg [⟨fV r_i64 x0, [], [(0, none)], []⟩,
        ⟨fV r_u64 (IntKind.u64.wrap x0), [], [(10, some 0)], []⟩,
        ⟨fV (Rep.slice r_u16) v3, [], [(11, some 1)], []⟩,
        ⟨fV GInt.rep v4, [], [(12, some 2)], []⟩,
        ⟨Fact.triv, [(2, some (boxE 47 GInt.rep v4))], [(13, some 3)], [(2, none)]⟩] [] [2] hAt
        ⟨ok_move rfl opd0,
        ok_conv un3 un186 rfl opd0,
        ok_call (ok_f_exact_natural N (IntKind.u64.wrap x0) _ hv3) Try.func168 (by kernel_rfl) (by kernel_rfl) rfl ⟨opd0, trivial⟩,
        ok_call (ok_f_exact_signed N false v3 _ hv4) Try.func146 (by kernel_rfl) (by kernel_rfl) rfl ⟨opdB, ⟨opd0, trivial⟩⟩,
        ok_storeBox ty47 rfl rfl opd0, trivial⟩ (by kernel_rfl) ?_
    clear hAt
    intro a w hAt
    replace hAt : At B h0 (mkG []) (mkO [(2, boxE 47 GInt.rep v4)]) F 14 a w := hAt
    refine then_n ?_
    refine wp_ret ?_
    cases H
    exact ret1 rfl (rv_cell ty47 rfl) hAt
theorem ok_f_exact_word (N : Nat) (x0 : (List Int)) (r : Int × Bool) (H : f_exact_word N x0 = some r) : FnOk Try.prog 169 [fV (Rep.slice r_u16) x0] (fT2 (fV r_u64 (r.1)) (fV Rep.bool (r.2))) := by
  unfold f_exact_word at H
  refine fn_enter Try.func169 rfl rfl (by kernel_rfl) ?_
  intro κ B h0 F a w hAt
  refine wp_seq ?_
  refine reg [⟨fV r_u64 0, [], [], []⟩,
      ⟨fV Rep.bool false, [], [], []⟩] [0] [] hAt
      ⟨ok_assign rfl opdI,
      ok_assign rfl opdB, trivial⟩ (by kernel_rfl) ?_
  clear hAt
  intro a w hAt
  replace hAt : At B h0 (mkG [(0, fV (Rep.slice r_u16) x0)]) (mkO []) F 25 a w := hAt
  refine then_n ?_
  refine wp_seq ?_
  refine wp_seq ?_
  refine reg [⟨fV (Rep.slice r_u16) x0, [], [(0, none)], []⟩,
      ⟨fV r_i64 (List.length x0 : Int), [], [(6, some 0)], []⟩,
      ⟨fV Rep.bool (cmpI .gtr (List.length x0 : Int) 4), [], [(7, some 1)], []⟩] [0, 8] [] hAt
      ⟨ok_move rfl opd0,
      ok_len un45 rfl opd0,
      ok_cmp (op := .gtr) (by simp) rfl rfl opd0 opdI, trivial⟩ (by kernel_rfl) ?_
  clear hAt
  intro a w hAt
  replace hAt : At B h0 (mkG [(0, fV (Rep.slice r_u16) x0), (8, fV Rep.bool (cmpI .gtr (List.length x0 : Int) 4))]) (mkO []) F 25 a w := hAt
  refine then_n ?_
  refine wp_if hAt (by rfl) ?_ ?_
  · intro hb8
    have H := iteT hb8 H
    refine wp_seq ?_
    refine reg [⟨fV r_u64 0, [], [], []⟩,
        ⟨fV Rep.bool false, [], [], []⟩] [2, 3] [] hAt
        ⟨ok_assign rfl opdI,
        ok_assign rfl opdB, trivial⟩ (by kernel_rfl) ?_
    clear hAt
    intro a w hAt
    replace hAt : At B h0 (mkG [(2, fV r_u64 0), (3, fV Rep.bool false)]) (mkO []) F 25 a w := hAt
    refine then_n ?_
    refine wp_ret ?_
    refine then_r ?_
    cases H
    exact ret2 rfl (rv_tmp rfl rfl) (rv_tmp rfl rfl) hAt
  · intro hb8
    have H := iteF hb8 H
    refine wp_skip ?_
    refine then_n ?_
    refine wp_seq ?_
    refine reg [⟨fV r_u64 0, [], [], []⟩] [0, 4] [] hAt
        ⟨ok_assign rfl opdI, trivial⟩ (by kernel_rfl) ?_
    clear hAt
    intro a w hAt
    replace hAt : At B h0 (mkG [(0, fV (Rep.slice r_u16) x0), (4, fV r_u64 0)]) (mkO []) F 25 a w := hAt
    refine then_n ?_
    refine wp_seq ?_
    refine wp_seq ?_
    refine reg [⟨fV (Rep.slice r_u16) x0, [], [(0, none)], []⟩,
        ⟨fV r_i64 (List.length x0 : Int), [], [(9, some 0)], []⟩,
        ⟨fV r_i64 (IntKind.i64.wrap ((List.length x0 : Int) - 1)), [], [(10, some 1)], []⟩,
        ⟨fV r_i64 (IntKind.i64.wrap ((List.length x0 : Int) - 1)), [], [(11, some 2)], []⟩] [0, 4, 5] [] hAt
        ⟨ok_move rfl opd0,
        ok_len un45 rfl opd0,
        ok_sub rfl opd0 opdI,
        ok_assign rfl opd0, trivial⟩ (by kernel_rfl) ?_
    clear hAt
    intro a w hAt
    replace hAt : At B h0 (mkG [(0, fV (Rep.slice r_u16) x0), (4, fV r_u64 0), (5, fV r_i64 (IntKind.i64.wrap ((List.length x0 : Int) - 1)))]) (mkO []) F 25 a w := hAt
    refine then_n ?_
    refine wp_block ?_
    obtain ⟨o5, hl6, H⟩ := bindE H
    refine wp_mono (wp_loopN (f := f_exact_word_L1 N x0) (fun (s1 : (Int × Int)) a w => At B h0 (mkG [(0, fV (Rep.slice r_u16) x0), (4, fV r_u64 s1.1), (5, fV r_i64 s1.2)]) (mkO []) F 25 a w) (fun o e a w => (fun v => e = .exit 0 ∧ At B h0 (mkG [(4, fV r_u64 v)]) (mkO []) F 25 a w) o) ?_ N (0, (IntKind.i64.wrap ((List.length x0 : Int) - 1))) o5 _ _ hl6 ?_) ?_
    · clear H hAt hl6
      intro s1 r7 a w H hAt
      unfold f_exact_word_L1 at H
      refine wp_seq ?_
      refine wp_seq ?_
      refine reg [⟨fV r_i64 s1.2, [], [(5, none)], []⟩,
          ⟨fV Rep.bool (cmpI .geq s1.2 0), [], [(12, some 0)], []⟩] [0, 4, 5, 13] [] hAt
          ⟨ok_move rfl opd0,
          ok_cmp (op := .geq) (by simp) rfl rfl opd0 opdI, trivial⟩ (by kernel_rfl) ?_
      clear hAt
      intro a w hAt
      replace hAt : At B h0 (mkG [(0, fV (Rep.slice r_u16) x0), (4, fV r_u64 s1.1), (5, fV r_i64 s1.2), (13, fV Rep.bool (cmpI .geq s1.2 0))]) (mkO []) F 25 a w := hAt
      refine then_n ?_
      refine wp_if hAt (by rfl) ?_ ?_
      · intro hb4
        have H := iteT hb4 H
        refine wp_skip ?_
        refine then_n ?_
        refine wp_seq ?_
        refine wp_block ?_
        obtain ⟨v2, hv2, H⟩ := bindE H
        obtain ⟨v3, hv3, H⟩ := bindE H
        refine reg [⟨fV r_u64 s1.1, [], [(4, none)], []⟩,
            ⟨fV r_u64 v2, [], [(16, some 0)], []⟩,
            ⟨fV (Rep.slice r_u16) x0, [], [(0, none)], []⟩,
            ⟨fV r_i64 s1.2, [], [(5, none)], []⟩,
            ⟨fRef r_u16 v3, [], [(18, some 2), (19, some 3)], []⟩,
            ⟨fV r_u16 v3, [], [(20, some 4)], []⟩,
            ⟨fV r_u64 (IntKind.u64.wrap v3), [], [(21, some 5)], []⟩,
            ⟨fV r_u64 (bitI .or .u64 v2 (IntKind.u64.wrap v3)), [], [(17, some 1), (22, some 6)], []⟩,
            ⟨fV r_u64 (bitI .or .u64 v2 (IntKind.u64.wrap v3)), [], [(23, some 7)], []⟩] [0, 4, 5] [] hAt
            ⟨ok_move rfl opd0,
            ok_shl hv2 rfl opd0 opdI,
            ok_move rfl opd0,
            ok_move rfl opd0,
            ok_index ty103 un45 hv3 rfl opd0 opd1,
            ok_load ty103 rfl opd0,
            ok_conv un103 un186 rfl opd0,
            ok_bit (op := .or) (by simp) rfl opd0 opd1,
            ok_assign rfl opd0, trivial⟩ (by kernel_rfl) ?_
        clear hAt
        intro a w hAt
        replace hAt : At B h0 (mkG [(0, fV (Rep.slice r_u16) x0), (4, fV r_u64 (bitI .or .u64 v2 (IntKind.u64.wrap v3))), (5, fV r_i64 s1.2)]) (mkO []) F 25 a w := hAt
        refine blk_n ?_
        refine then_n ?_
        refine reg [⟨fV r_i64 s1.2, [], [(5, none)], []⟩,
            ⟨fV r_i64 (IntKind.i64.wrap (s1.2 - 1)), [], [(14, some 0)], []⟩,
            ⟨fV r_i64 (IntKind.i64.wrap (s1.2 - 1)), [], [(15, some 1)], []⟩] [0, 4, 5] [] hAt
            ⟨ok_move rfl opd0,
            ok_sub rfl opd0 opdI,
            ok_assign rfl opd0, trivial⟩ (by kernel_rfl) ?_
        clear hAt
        intro a w hAt
        replace hAt : At B h0 (mkG [(0, fV (Rep.slice r_u16) x0), (4, fV r_u64 (bitI .or .u64 v2 (IntKind.u64.wrap v3))), (5, fV r_i64 (IntKind.i64.wrap (s1.2 - 1)))]) (mkO []) F 25 a w := hAt
        cases H
        exact ⟨rfl, hAt.pick [0, 4, 5] []⟩
      · intro hb4
        have H := iteF hb4 H
        refine wp_exit ?_
        refine then_x ?_
        cases H
        exact ⟨ex_ne, rfl, hAt.pick [4] []⟩
    · exact hAt.pick [0, 4, 5] []
    · clear hAt
      intro e a w hp
      obtain ⟨rfl, hAt⟩ := hp
      refine blk_eq ?_
      refine then_n ?_
      refine wp_seq ?_
      refine reg [⟨fV r_u64 o5, [], [(4, none)], []⟩,
          ⟨fV r_u64 o5, [], [(24, some 0)], []⟩,
          ⟨fV Rep.bool true, [], [], []⟩] [2, 3] [] hAt
          ⟨ok_move rfl opd0,
          ok_assign rfl opd0,
          ok_assign rfl opdB, trivial⟩ (by kernel_rfl) ?_
      clear hAt
      intro a w hAt
      replace hAt : At B h0 (mkG [(2, fV r_u64 o5), (3, fV Rep.bool true)]) (mkO []) F 25 a w := hAt
      refine then_n ?_
      refine wp_ret ?_
      cases H
      exact ret2 rfl (rv_tmp rfl rfl) (rv_tmp rfl rfl) hAt
theorem ok_f_exact_compare (N : Nat) (x0 : (List Int)) (x1 : (List Int)) (r : Int) (H : f_exact_compare N x0 x1 = some r) : FnOk Try.prog 150 [fV (Rep.slice r_u16) x0, fV (Rep.slice r_u16) x1] (fV r_i64 r) := by
  unfold f_exact_compare at H
  refine fn_enter Try.func150 rfl rfl (by kernel_rfl) ?_
  intro κ B h0 F a w hAt
  refine wp_seq ?_
  refine reg [⟨fV r_i64 0, [], [], []⟩] [0, 1] [] hAt
      ⟨ok_assign rfl opdI, trivial⟩ (by kernel_rfl) ?_
  clear hAt
  intro a w hAt
  replace hAt : At B h0 (mkG [(0, fV (Rep.slice r_u16) x0), (1, fV (Rep.slice r_u16) x1)]) (mkO []) F 43 a w := hAt
  refine then_n ?_
  refine wp_seq ?_
  refine wp_seq ?_
  refine reg [⟨fV (Rep.slice r_u16) x0, [], [(0, none)], []⟩,
      ⟨fV r_i64 (List.length x0 : Int), [], [(6, some 0)], []⟩,
      ⟨fV (Rep.slice r_u16) x1, [], [(1, none)], []⟩,
      ⟨fV r_i64 (List.length x1 : Int), [], [(8, some 2)], []⟩,
      ⟨fV Rep.bool (cmpI .neq (List.length x0 : Int) (List.length x1 : Int)), [], [(7, some 1), (9, some 3)], []⟩] [0, 1, 10] [] hAt
      ⟨ok_move rfl opd0,
      ok_len un45 rfl opd0,
      ok_move rfl opd0,
      ok_len un45 rfl opd0,
      ok_cmp (op := .neq) (by simp) rfl rfl opd0 opd1, trivial⟩ (by kernel_rfl) ?_
  clear hAt
  intro a w hAt
  replace hAt : At B h0 (mkG [(0, fV (Rep.slice r_u16) x0), (1, fV (Rep.slice r_u16) x1), (10, fV Rep.bool (cmpI .neq (List.length x0 : Int) (List.length x1 : Int)))]) (mkO []) F 43 a w := hAt
  refine then_n ?_
  refine wp_if hAt (by rfl) ?_ ?_
  · intro hb13
    have H := iteT hb13 H
    refine wp_seq ?_
    refine reg [⟨fV (Rep.slice r_u16) x0, [], [(0, none)], []⟩,
        ⟨fV r_i64 (List.length x0 : Int), [], [(11, some 0)], []⟩,
        ⟨fV (Rep.slice r_u16) x1, [], [(1, none)], []⟩,
        ⟨fV r_i64 (List.length x1 : Int), [], [(13, some 2)], []⟩,
        ⟨fV r_i64 (IntKind.i64.wrap ((List.length x0 : Int) - (List.length x1 : Int))), [], [(12, some 1), (14, some 3)], []⟩,
        ⟨fV r_i64 (IntKind.i64.wrap ((List.length x0 : Int) - (List.length x1 : Int))), [], [(15, some 4)], []⟩] [4] [] hAt
        ⟨ok_move rfl opd0,
        ok_len un45 rfl opd0,
        ok_move rfl opd0,
        ok_len un45 rfl opd0,
        ok_sub rfl opd0 opd1,
        ok_assign rfl opd0, trivial⟩ (by kernel_rfl) ?_
    clear hAt
    intro a w hAt
    replace hAt : At B h0 (mkG [(4, fV r_i64 (IntKind.i64.wrap ((List.length x0 : Int) - (List.length x1 : Int))))]) (mkO []) F 43 a w := hAt
    refine then_n ?_
    refine wp_ret ?_
    refine then_r ?_
    cases H
    exact ret1 rfl (rv_tmp rfl rfl) hAt
  · intro hb13
    have H := iteF hb13 H
    refine wp_skip ?_
    refine then_n ?_
    refine wp_seq ?_
    refine wp_seq ?_
    refine reg [⟨fV (Rep.slice r_u16) x0, [], [(0, none)], []⟩,
        ⟨fV r_i64 (List.length x0 : Int), [], [(16, some 0)], []⟩,
        ⟨fV r_i64 (IntKind.i64.wrap ((List.length x0 : Int) - 1)), [], [(17, some 1)], []⟩,
        ⟨fV r_i64 (IntKind.i64.wrap ((List.length x0 : Int) - 1)), [], [(18, some 2)], []⟩] [0, 1, 5] [] hAt
        ⟨ok_move rfl opd0,
        ok_len un45 rfl opd0,
        ok_sub rfl opd0 opdI,
        ok_assign rfl opd0, trivial⟩ (by kernel_rfl) ?_
    clear hAt
    intro a w hAt
    replace hAt : At B h0 (mkG [(0, fV (Rep.slice r_u16) x0), (1, fV (Rep.slice r_u16) x1), (5, fV r_i64 (IntKind.i64.wrap ((List.length x0 : Int) - 1)))]) (mkO []) F 43 a w := hAt
    refine then_n ?_
    refine wp_block ?_
    obtain ⟨o8, hl9, H⟩ := bindE H
    refine wp_mono (wp_loopN (f := f_exact_compare_L1 N x0 x1) (fun (s1 : Int) a w => At B h0 (mkG [(0, fV (Rep.slice r_u16) x0), (1, fV (Rep.slice r_u16) x1), (5, fV r_i64 s1)]) (mkO []) F 43 a w) (fun o e a w => (Sum.elim (fun v => e = .exit 0 ∧ At B h0 (mkG []) (mkO []) F 43 a w) (fun v => e = .ret ∧ At B h0 (mkG [(4, fV r_i64 v)]) (mkO []) F 43 a w)) o) ?_ N (IntKind.i64.wrap ((List.length x0 : Int) - 1)) o8 _ _ hl9 ?_) ?_
    · clear H hAt hl9
      intro s1 r12 a w H hAt
      unfold f_exact_compare_L1 at H
      refine wp_seq ?_
      refine wp_seq ?_
      refine reg [⟨fV r_i64 s1, [], [(5, none)], []⟩,
          ⟨fV Rep.bool (cmpI .geq s1 0), [], [(19, some 0)], []⟩] [0, 1, 5, 20] [] hAt
          ⟨ok_move rfl opd0,
          ok_cmp (op := .geq) (by simp) rfl rfl opd0 opdI, trivial⟩ (by kernel_rfl) ?_
      clear hAt
      intro a w hAt
      replace hAt : At B h0 (mkG [(0, fV (Rep.slice r_u16) x0), (1, fV (Rep.slice r_u16) x1), (5, fV r_i64 s1), (20, fV Rep.bool (cmpI .geq s1 0))]) (mkO []) F 43 a w := hAt
      refine then_n ?_
      refine wp_if hAt (by rfl) ?_ ?_
      · intro hb7
        have H := iteT hb7 H
        refine wp_skip ?_
        refine then_n ?_
        refine wp_seq ?_
        refine wp_block ?_
        refine wp_seq ?_
        obtain ⟨v2, hv2, H⟩ := bindE H
        obtain ⟨v3, hv3, H⟩ := bindE H
        refine regd [⟨fV (Rep.slice r_u16) x0, [], [(0, none)], []⟩,
            ⟨fV r_i64 s1, [], [(5, none)], []⟩,
            ⟨fRef r_u16 v2, [], [(23, some 0), (24, some 1)], []⟩,
            ⟨fV r_u16 v2, [], [(25, some 2)], []⟩,
            ⟨fV (Rep.slice r_u16) x1, [], [(1, none)], []⟩,
            ⟨fV r_i64 s1, [], [(5, none)], []⟩,
            ⟨fRef r_u16 v3, [], [(27, some 4), (28, some 5)], []⟩,
            ⟨fV r_u16 v3, [], [(29, some 6)], []⟩,
            ⟨fV Rep.bool (cmpI .neq v2 v3), [], [(26, some 3), (30, some 7)], []⟩] [0, 1, 2, 3, 4, 5, 6, 7, 8] [0, 1, 2, 3, 4, 5, 6, 7, 8] [0, 1, 5, 31] [] hAt
            ⟨ok_move rfl opd0,
            ok_move rfl opd0,
            ok_index ty103 un45 hv2 rfl opd0 opd1,
            ok_load ty103 rfl opd0,
            ok_move rfl opd0,
            ok_move rfl opd0,
            ok_index ty103 un45 hv3 rfl opd0 opd1,
            ok_load ty103 rfl opd0,
            ok_cmp (op := .neq) (by simp) rfl rfl opd0 opd1, trivial⟩ (by kernel_rfl) ?_
        clear hAt
        intro a w hAt
        replace hAt : At B h0 (mkG [(0, fV (Rep.slice r_u16) x0), (1, fV (Rep.slice r_u16) x1), (5, fV r_i64 s1), (31, fV Rep.bool (cmpI .neq v2 v3))]) (mkO []) F 43 a w := hAt
        refine then_n ?_
        refine wp_if hAt (by rfl) ?_ ?_
        · intro hb6
          have H := iteT hb6 H
          refine wp_seq ?_
          obtain ⟨v4, hv4, H⟩ := bindE H
          obtain ⟨v5, hv5, H⟩ := bindE H
          refine regd [⟨fV (Rep.slice r_u16) x0, [], [(0, none)], []⟩,
              ⟨fV r_i64 s1, [], [(5, none)], []⟩,
              ⟨fRef r_u16 v4, [], [(32, some 0), (33, some 1)], []⟩,
              ⟨fV r_u16 v4, [], [(34, some 2)], []⟩,
              ⟨fV r_i64 (IntKind.i64.wrap v4), [], [(35, some 3)], []⟩,
              ⟨fV (Rep.slice r_u16) x1, [], [(1, none)], []⟩,
              ⟨fV r_i64 s1, [], [(5, none)], []⟩,
              ⟨fRef r_u16 v5, [], [(37, some 5), (38, some 6)], []⟩,
              ⟨fV r_u16 v5, [], [(39, some 7)], []⟩,
              ⟨fV r_i64 (IntKind.i64.wrap v5), [], [(40, some 8)], []⟩,
              ⟨fV r_i64 (IntKind.i64.wrap ((IntKind.i64.wrap v4) - (IntKind.i64.wrap v5))), [], [(36, some 4), (41, some 9)], []⟩,
              ⟨fV r_i64 (IntKind.i64.wrap ((IntKind.i64.wrap v4) - (IntKind.i64.wrap v5))), [], [(42, some 10)], []⟩] [0, 1, 2, 3, 4, 5, 6, 7, 8, 9, 10, 11] [0, 1, 2, 3, 4, 5, 6, 7, 8, 9, 10, 11] [4] [] hAt
              ⟨ok_move rfl opd0,
              ok_move rfl opd0,
              ok_index ty103 un45 hv4 rfl opd0 opd1,
              ok_load ty103 rfl opd0,
              ok_conv un103 un3 rfl opd0,
              ok_move rfl opd0,
              ok_move rfl opd0,
              ok_index ty103 un45 hv5 rfl opd0 opd1,
              ok_load ty103 rfl opd0,
              ok_conv un103 un3 rfl opd0,
              ok_sub rfl opd0 opd1,
              ok_assign rfl opd0, trivial⟩ (by kernel_rfl) ?_
          clear hAt
          intro a w hAt
          replace hAt : At B h0 (mkG [(4, fV r_i64 (IntKind.i64.wrap ((IntKind.i64.wrap v4) - (IntKind.i64.wrap v5))))]) (mkO []) F 43 a w := hAt
          refine then_n ?_
          refine wp_ret ?_
          refine blk_r ?_
          refine then_r ?_
          cases H
          exact ⟨ret_ne, rfl, hAt.pick [4] []⟩
        · intro hb6
          have H := iteF hb6 H
          refine wp_skip ?_
          refine blk_n ?_
          refine then_n ?_
          refine reg [⟨fV r_i64 s1, [], [(5, none)], []⟩,
              ⟨fV r_i64 (IntKind.i64.wrap (s1 - 1)), [], [(21, some 0)], []⟩,
              ⟨fV r_i64 (IntKind.i64.wrap (s1 - 1)), [], [(22, some 1)], []⟩] [0, 1, 5] [] hAt
              ⟨ok_move rfl opd0,
              ok_sub rfl opd0 opdI,
              ok_assign rfl opd0, trivial⟩ (by kernel_rfl) ?_
          clear hAt
          intro a w hAt
          replace hAt : At B h0 (mkG [(0, fV (Rep.slice r_u16) x0), (1, fV (Rep.slice r_u16) x1), (5, fV r_i64 (IntKind.i64.wrap (s1 - 1)))]) (mkO []) F 43 a w := hAt
          cases H
          exact ⟨rfl, hAt.pick [0, 1, 5] []⟩
      · intro hb7
        have H := iteF hb7 H
        refine wp_exit ?_
        refine then_x ?_
        cases H
        exact ⟨ex_ne, rfl, hAt.pick [] []⟩
    · exact hAt.pick [0, 1, 5] []
    · clear hAt
      intro e a w hp
      cases o8 with
      | inl l10 =>
        rw [Sum.elim_inl] at H
        obtain ⟨rfl, hAt⟩ := hp
        refine blk_eq ?_
        refine then_n ?_
        refine wp_seq ?_
        refine reg [⟨fV r_i64 0, [], [], []⟩] [4] [] hAt
            ⟨ok_assign rfl opdI, trivial⟩ (by kernel_rfl) ?_
        clear hAt
        intro a w hAt
        replace hAt : At B h0 (mkG [(4, fV r_i64 0)]) (mkO []) F 43 a w := hAt
        refine then_n ?_
        refine wp_ret ?_
        cases H
        exact ret1 rfl (rv_tmp rfl rfl) hAt
      | inr r11 =>
        rw [Sum.elim_inr] at H
        replace hp := hp
        obtain ⟨rfl, hAt⟩ := hp
        refine blk_r ?_
        refine then_r ?_
        cases H
        exact ret1 rfl (rv_tmp rfl rfl) hAt
theorem ok_f_exact_short (N : Nat) (x0 : (List Int)) (x1 : Int) (r : (List Int) × Int) (H : f_exact_short N x0 x1 = some r) : FnOk Try.prog 171 [fV (Rep.slice r_u16) x0, fV r_u16 x1] (fT2 (fV (Rep.slice r_u16) (r.1)) (fV r_u16 (r.2))) := by
  unfold f_exact_short at H
  refine fn_enter Try.func171 rfl rfl (by kernel_rfl) ?_
  intro κ B h0 F a w hAt
  refine wp_seq ?_
  refine reg [⟨fV (Rep.slice r_u16) [], [(4, some (tipE 103 r_u16.sz))], [], []⟩,
      ⟨fV r_u16 0, [], [], []⟩] [0, 1] [] hAt
      ⟨ok_nilTip rfl (.inl rfl),
      ok_assign rfl opdI, trivial⟩ (by kernel_rfl) ?_
  clear hAt
  intro a w hAt
  replace hAt : At B h0 (mkG [(0, fV (Rep.slice r_u16) x0), (1, fV r_u16 x1)]) (mkO []) F 43 a w := hAt
  refine then_n ?_
  refine wp_seq ?_
  obtain ⟨v1, hv1, H⟩ := bindE H
  refine reg [⟨fV (Rep.slice r_u16) x0, [], [(0, none)], []⟩,
      ⟨fV r_i64 (List.length x0 : Int), [], [(9, some 0)], []⟩,
      ⟨Fact.triv, [(11, some (arrE 103 r_u16 v1))], [(10, some 1)], []⟩,
      ⟨Fact.triv, [(11, none), (6, some (arrE 103 r_u16 v1))], [], [(11, some 2)]⟩] [0, 1] [6] hAt
      ⟨ok_move rfl opd0,
      ok_len un45 rfl opd0,
      ok_makeArr hv1 el103 ty103 un45 rfl rfl opd0 opd0,
      (ok_moveOwn (f := Fact.triv) rfl rfl (.inr rfl) (fun _ _ _ => trivial)), trivial⟩ (by kernel_rfl) ?_
  clear hAt
  intro a w hAt
  replace hAt : At B h0 (mkG [(0, fV (Rep.slice r_u16) x0), (1, fV r_u16 x1)]) (mkO [(6, arrE 103 r_u16 v1)]) F 43 a w := hAt
  refine then_n ?_
  refine wp_seq ?_
  refine reg [⟨fV r_u32 0, [], [], []⟩] [0, 1, 7] [6] hAt
      ⟨ok_assign rfl opdI, trivial⟩ (by kernel_rfl) ?_
  clear hAt
  intro a w hAt
  replace hAt : At B h0 (mkG [(0, fV (Rep.slice r_u16) x0), (1, fV r_u16 x1), (7, fV r_u32 0)]) (mkO [(6, arrE 103 r_u16 v1)]) F 43 a w := hAt
  refine then_n ?_
  refine wp_seq ?_
  refine wp_seq ?_
  refine reg [⟨fV (Rep.slice r_u16) x0, [], [(0, none)], []⟩,
      ⟨fV r_i64 (List.length x0 : Int), [], [(12, some 0)], []⟩,
      ⟨fV r_i64 (IntKind.i64.wrap ((List.length x0 : Int) - 1)), [], [(13, some 1)], []⟩,
      ⟨fV r_i64 (IntKind.i64.wrap ((List.length x0 : Int) - 1)), [], [(14, some 2)], []⟩] [0, 1, 7, 8] [6] hAt
      ⟨ok_move rfl opd0,
      ok_len un45 rfl opd0,
      ok_sub rfl opd0 opdI,
      ok_assign rfl opd0, trivial⟩ (by kernel_rfl) ?_
  clear hAt
  intro a w hAt
  replace hAt : At B h0 (mkG [(0, fV (Rep.slice r_u16) x0), (1, fV r_u16 x1), (7, fV r_u32 0), (8, fV r_i64 (IntKind.i64.wrap ((List.length x0 : Int) - 1)))]) (mkO [(6, arrE 103 r_u16 v1)]) F 43 a w := hAt
  refine then_n ?_
  refine wp_block ?_
  obtain ⟨o9, hl10, H⟩ := bindE H
  refine wp_mono (wp_loopN (f := f_exact_short_L1 N x0 x1) (fun (s2 : ((List Int) × Int × Int)) a w => At B h0 (mkG [(0, fV (Rep.slice r_u16) x0), (1, fV r_u16 x1), (7, fV r_u32 s2.2.1), (8, fV r_i64 s2.2.2)]) (mkO [(6, arrE 103 r_u16 s2.1)]) F 43 a w) (fun o e a w => (fun v => e = .exit 0 ∧ At B h0 (mkG [(7, fV r_u32 v.2)]) (mkO [(6, arrE 103 r_u16 v.1)]) F 43 a w) o) ?_ N (v1, 0, (IntKind.i64.wrap ((List.length x0 : Int) - 1))) o9 _ _ hl10 ?_) ?_
  · clear H hAt hl10
    intro s2 r12 a w H hAt
    unfold f_exact_short_L1 at H
    refine wp_seq ?_
    refine wp_seq ?_
    refine reg [⟨fV r_i64 s2.2.2, [], [(8, none)], []⟩,
        ⟨fV Rep.bool (cmpI .geq s2.2.2 0), [], [(15, some 0)], []⟩] [0, 1, 7, 8, 16] [6] hAt
        ⟨ok_move rfl opd0,
        ok_cmp (op := .geq) (by simp) rfl rfl opd0 opdI, trivial⟩ (by kernel_rfl) ?_
    clear hAt
    intro a w hAt
    replace hAt : At B h0 (mkG [(0, fV (Rep.slice r_u16) x0), (1, fV r_u16 x1), (7, fV r_u32 s2.2.1), (8, fV r_i64 s2.2.2), (16, fV Rep.bool (cmpI .geq s2.2.2 0))]) (mkO [(6, arrE 103 r_u16 s2.1)]) F 43 a w := hAt
    refine then_n ?_
    refine wp_if hAt (by rfl) ?_ ?_
    · intro hb8
      have H := iteT hb8 H
      refine wp_skip ?_
      refine then_n ?_
      refine wp_seq ?_
      refine wp_block ?_
      refine wp_seq ?_
      obtain ⟨v3, hv3, H⟩ := bindE H
      obtain ⟨v4, hv4, H⟩ := bindE H
      refine reg [⟨fV r_u32 s2.2.1, [], [(7, none)], []⟩,
          ⟨fV r_u32 v3, [], [(19, some 0)], []⟩,
          ⟨fV (Rep.slice r_u16) x0, [], [(0, none)], []⟩,
          ⟨fV r_i64 s2.2.2, [], [(8, none)], []⟩,
          ⟨fRef r_u16 v4, [], [(21, some 2), (22, some 3)], []⟩,
          ⟨fV r_u16 v4, [], [(23, some 4)], []⟩,
          ⟨fV r_u32 (IntKind.u32.wrap v4), [], [(24, some 5)], []⟩,
          ⟨fV r_u32 (bitI .or .u32 v3 (IntKind.u32.wrap v4)), [], [(20, some 1), (25, some 6)], []⟩,
          ⟨fV r_u32 (bitI .or .u32 v3 (IntKind.u32.wrap v4)), [], [(26, some 7)], []⟩] [0, 1, 7, 8] [6] hAt
          ⟨ok_move rfl opd0,
          ok_shl hv3 rfl opd0 opdI,
          ok_move rfl opd0,
          ok_move rfl opd0,
          ok_index ty103 un45 hv4 rfl opd0 opd1,
          ok_load ty103 rfl opd0,
          ok_conv un103 un229 rfl opd0,
          ok_bit (op := .or) (by simp) rfl opd0 opd1,
          ok_assign rfl opd0, trivial⟩ (by kernel_rfl) ?_
      clear hAt
      intro a w hAt
      replace hAt : At B h0 (mkG [(0, fV (Rep.slice r_u16) x0), (1, fV r_u16 x1), (7, fV r_u32 (bitI .or .u32 v3 (IntKind.u32.wrap v4))), (8, fV r_i64 s2.2.2)]) (mkO [(6, arrE 103 r_u16 s2.1)]) F 43 a w := hAt
      refine then_n ?_
      refine wp_seq ?_
      obtain ⟨v5, hv5, H⟩ := bindE H
      obtain ⟨v6, hv6, H⟩ := bindE H
      refine reg [⟨fCp 6, [], [], []⟩,
          ⟨fV r_i64 s2.2.2, [], [(8, none)], []⟩,
          ⟨fV r_u32 (bitI .or .u32 v3 (IntKind.u32.wrap v4)), [], [(7, none)], []⟩,
          ⟨fV r_u16 x1, [], [(1, none)], []⟩,
          ⟨fV r_u32 (IntKind.u32.wrap x1), [], [(30, some 3)], []⟩,
          ⟨fV r_u32 v5, [], [(29, some 2), (31, some 4)], []⟩,
          ⟨fV r_u16 (IntKind.u16.wrap v5), [], [(32, some 5)], []⟩,
          ⟨fEl 6 ((Int.toNat s2.2.2) * r_u16.sz + 0), [], [(27, some 0), (28, some 1)], [(6, none)]⟩,
          ⟨Fact.triv, [(6, some (arrE 103 r_u16 (List.set s2.1 (Int.toNat s2.2.2) (IntKind.u16.wrap v5))))], [(34, some 7), (33, some 6)], [(6, none)]⟩] [0, 1, 7, 8] [6] hAt
          ⟨ok_cp rfl,
          ok_move rfl opd0,
          ok_move rfl opd0,
          ok_move rfl opd0,
          ok_conv un103 un229 rfl opd0,
          ok_quo hv5 rfl opd0 opd1,
          ok_conv un229 un103 rfl opd0,
          ok_elArr hv6 ty103 un45 rfl opd0 opd1,
          ok_storeArr (idx_spec hv6).2.2 (Lens.refl _) ty103 rfl rfl opd0 opd1 rfl, trivial⟩ (by kernel_rfl) ?_
      clear hAt
      intro a w hAt
      replace hAt : At B h0 (mkG [(0, fV (Rep.slice r_u16) x0), (1, fV r_u16 x1), (7, fV r_u32 (bitI .or .u32 v3 (IntKind.u32.wrap v4))), (8, fV r_i64 s2.2.2)]) (mkO [(6, arrE 103 r_u16 (List.set s2.1 (Int.toNat s2.2.2) (IntKind.u16.wrap v5)))]) F 43 a w := hAt
      refine then_n ?_
      obtain ⟨v7, hv7, H⟩ := bindE H
      refine reg [⟨fV r_u32 (bitI .or .u32 v3 (IntKind.u32.wrap v4)), [], [(7, none)], []⟩,
          ⟨fV r_u16 x1, [], [(1, none)], []⟩,
          ⟨fV r_u32 (IntKind.u32.wrap x1), [], [(36, some 1)], []⟩,
          ⟨fV r_u32 v7, [], [(35, some 0), (37, some 2)], []⟩,
          ⟨fV r_u32 v7, [], [(38, some 3)], []⟩] [0, 1, 7, 8] [6] hAt
          ⟨ok_move rfl opd0,
          ok_move rfl opd0,
          ok_conv un103 un229 rfl opd0,
          ok_rem hv7 rfl opd0 opd1,
          ok_assign rfl opd0, trivial⟩ (by kernel_rfl) ?_
      clear hAt
      intro a w hAt
      replace hAt : At B h0 (mkG [(0, fV (Rep.slice r_u16) x0), (1, fV r_u16 x1), (7, fV r_u32 v7), (8, fV r_i64 s2.2.2)]) (mkO [(6, arrE 103 r_u16 (List.set s2.1 (Int.toNat s2.2.2) (IntKind.u16.wrap v5)))]) F 43 a w := hAt
      refine blk_n ?_
      refine then_n ?_
      refine reg [⟨fV r_i64 s2.2.2, [], [(8, none)], []⟩,
          ⟨fV r_i64 (IntKind.i64.wrap (s2.2.2 - 1)), [], [(17, some 0)], []⟩,
          ⟨fV r_i64 (IntKind.i64.wrap (s2.2.2 - 1)), [], [(18, some 1)], []⟩] [0, 1, 7, 8] [6] hAt
          ⟨ok_move rfl opd0,
          ok_sub rfl opd0 opdI,
          ok_assign rfl opd0, trivial⟩ (by kernel_rfl) ?_
      clear hAt
      intro a w hAt
      replace hAt : At B h0 (mkG [(0, fV (Rep.slice r_u16) x0), (1, fV r_u16 x1), (7, fV r_u32 v7), (8, fV r_i64 (IntKind.i64.wrap (s2.2.2 - 1)))]) (mkO [(6, arrE 103 r_u16 (List.set s2.1 (Int.toNat s2.2.2) (IntKind.u16.wrap v5)))]) F 43 a w := hAt
      cases H
      exact ⟨rfl, hAt.pick [0, 1, 7, 8] [6]⟩
    · intro hb8
      have H := iteF hb8 H
      refine wp_exit ?_
      refine then_x ?_
      cases H
      exact ⟨ex_ne, rfl, hAt.pick [7] [6]⟩
  · exact hAt.pick [0, 1, 7, 8] [6]
  · clear hAt
    intro e a w hp
    obtain ⟨rfl, hAt⟩ := hp
    refine blk_eq ?_
    refine then_n ?_
    refine wp_seq ?_
    have hAt := At.freeze 6 hAt rfl
    replace hAt := hAt.pick [6, 7] []
    replace hAt : At B h0 (mkG [(6, fV (Rep.slice r_u16) o9.1), (7, fV r_u32 o9.2)]) (mkO []) F 43 a w := hAt
    obtain ⟨v11, hv11, H⟩ := bindE H
    refine reg [⟨fV (Rep.slice r_u16) o9.1, [], [(6, none)], []⟩,
        ⟨fV (Rep.slice r_u16) v11, [], [(39, some 0)], []⟩,
        ⟨fV r_u32 o9.2, [], [(7, none)], []⟩,
        ⟨fV r_u16 (IntKind.u16.wrap o9.2), [], [(41, some 2)], []⟩,
        ⟨fV (Rep.slice r_u16) v11, [], [(40, some 1)], []⟩,
        ⟨fV r_u16 (IntKind.u16.wrap o9.2), [], [(42, some 3)], []⟩] [4, 5] [] hAt
        ⟨ok_move rfl opd0,
        ok_call (ok_f_exact_trim N o9.1 _ hv11) Try.func143 (by kernel_rfl) (by kernel_rfl) rfl ⟨opd0, trivial⟩,
        ok_move rfl opd0,
        ok_conv un229 un103 rfl opd0,
        ok_assign rfl opd0,
        ok_assign rfl opd0, trivial⟩ (by kernel_rfl) ?_
    clear hAt
    intro a w hAt
    replace hAt : At B h0 (mkG [(4, fV (Rep.slice r_u16) v11), (5, fV r_u16 (IntKind.u16.wrap o9.2))]) (mkO []) F 43 a w := hAt
    refine then_n ?_
    refine wp_ret ?_
    cases H
    exact ret2 rfl (rv_tmp rfl rfl) (rv_tmp rfl rfl) hAt
theorem ok_f_bits_Len16 (N : Nat) (x0 : Int) (r : Int) (H : f_bits_Len16 N x0 = some r) : FnOk Try.prog 188 [fV r_u16 x0] (fV r_i64 r) := by
  unfold f_bits_Len16 at H
  refine fn_enter Try.func188 rfl rfl (by kernel_rfl) ?_
  intro κ B h0 F a w hAt
  refine wp_seq ?_
  refine reg [⟨fV r_i64 0, [], [], []⟩] [0, 2] [] hAt
      ⟨ok_assign rfl opdI, trivial⟩ (by kernel_rfl) ?_
  clear hAt
  intro a w hAt
  replace hAt : At B h0 (mkG [(0, fV r_u16 x0), (2, fV r_i64 0)]) (mkO []) F 13 a w := hAt
  refine then_n ?_
  refine wp_seq ?_
  refine wp_seq ?_
  refine reg [⟨fV r_u16 x0, [], [(0, none)], []⟩,
      ⟨fV Rep.bool (cmpI .geq x0 256), [], [(3, some 0)], []⟩] [0, 2, 4] [] hAt
      ⟨ok_move rfl opd0,
      ok_cmp (op := .geq) (by simp) rfl rfl opd0 opdI, trivial⟩ (by kernel_rfl) ?_
  clear hAt
  intro a w hAt
  replace hAt : At B h0 (mkG [(0, fV r_u16 x0), (2, fV r_i64 0), (4, fV Rep.bool (cmpI .geq x0 256))]) (mkO []) F 13 a w := hAt
  refine then_n ?_
  refine wp_if hAt (by rfl) ?_ ?_
  · intro hb2
    have H := iteT hb2 H
    refine wp_seq ?_
    obtain ⟨v1, hv1, H⟩ := bindE H
    refine reg [⟨fV r_u16 x0, [], [(0, none)], []⟩,
        ⟨fV r_u16 v1, [], [(5, some 0)], []⟩,
        ⟨fV r_u16 v1, [], [(6, some 1)], []⟩] [0] [] hAt
        ⟨ok_move rfl opd0,
        ok_shr hv1 rfl opd0 opdI,
        ok_assign rfl opd0, trivial⟩ (by kernel_rfl) ?_
    clear hAt
    intro a w hAt
    replace hAt : At B h0 (mkG [(0, fV r_u16 v1)]) (mkO []) F 13 a w := hAt
    refine then_n ?_
    refine reg [⟨fV r_i64 8, [], [], []⟩] [0, 2] [] hAt
        ⟨ok_assign rfl opdI, trivial⟩ (by kernel_rfl) ?_
    clear hAt
    intro a w hAt
    replace hAt : At B h0 (mkG [(0, fV r_u16 v1), (2, fV r_i64 8)]) (mkO []) F 13 a w := hAt
    refine then_n ?_
    refine wp_seq ?_
    cases H
  · intro hb2
    have H := iteF hb2 H
    refine wp_skip ?_
    refine then_n ?_
    refine wp_seq ?_
    cases H
theorem ok_f_bits_LeadingZeros16 (N : Nat) (x0 : Int) (r : Int) (H : f_bits_LeadingZeros16 N x0 = some r) : FnOk Try.prog 172 [fV r_u16 x0] (fV r_i64 r) := by
  unfold f_bits_LeadingZeros16 at H
  refine fn_enter Try.func172 rfl rfl (by kernel_rfl) ?_
  intro κ B h0 F a w hAt
  refine wp_seq ?_
  refine reg [⟨fV r_i64 0, [], [], []⟩] [0] [] hAt
      ⟨ok_assign rfl opdI, trivial⟩ (by kernel_rfl) ?_
  clear hAt
  intro a w hAt
  replace hAt : At B h0 (mkG [(0, fV r_u16 x0)]) (mkO []) F 6 a w := hAt
  refine then_n ?_
  refine wp_seq ?_
  obtain ⟨v1, hv1, H⟩ := bindE H
  refine reg [⟨fV r_u16 x0, [], [(0, none)], []⟩,
      ⟨fV r_i64 v1, [], [(3, some 0)], []⟩,
      ⟨fV r_i64 (IntKind.i64.wrap (16 - v1)), [], [(4, some 1)], []⟩,
      ⟨fV r_i64 (IntKind.i64.wrap (16 - v1)), [], [(5, some 2)], []⟩] [2] [] hAt
      ⟨ok_move rfl opd0,
      ok_call (ok_f_bits_Len16 N x0 _ hv1) Try.func188 (by kernel_rfl) (by kernel_rfl) rfl ⟨opd0, trivial⟩,
      ok_sub rfl opdI opd0,
      ok_assign rfl opd0, trivial⟩ (by kernel_rfl) ?_
  clear hAt
  intro a w hAt
  replace hAt : At B h0 (mkG [(2, fV r_i64 (IntKind.i64.wrap (16 - v1)))]) (mkO []) F 6 a w := hAt
  refine then_n ?_
  refine wp_ret ?_
  cases H
  exact ret1 rfl (rv_tmp rfl rfl) hAt
theorem ok_f_exact_shifted (N : Nat) (x0 : (List Int)) (x1 : Int) (r : (List Int)) (H : f_exact_shifted N x0 x1 = some r) : FnOk Try.prog 173 [fV (Rep.slice r_u16) x0, fV r_i64 x1] (fV (Rep.slice r_u16) r) := by
  unfold f_exact_shifted at H
  refine fn_enter Try.func173 rfl rfl (by kernel_rfl) ?_
  intro κ B h0 F a w hAt
  refine wp_seq ?_
  refine reg [⟨fV (Rep.slice r_u16) [], [(4, some (tipE 103 r_u16.sz))], [], []⟩] [0, 1] [] hAt
      ⟨ok_nilTip rfl (.inl rfl), trivial⟩ (by kernel_rfl) ?_
  clear hAt
  intro a w hAt
  replace hAt : At B h0 (mkG [(0, fV (Rep.slice r_u16) x0), (1, fV r_i64 x1)]) (mkO []) F 41 a w := hAt
  refine then_n ?_
  refine wp_seq ?_
  obtain ⟨v1, hv1, H⟩ := bindE H
  refine reg [⟨fV (Rep.slice r_u16) x0, [], [(0, none)], []⟩,
      ⟨fV r_i64 (List.length x0 : Int), [], [(9, some 0)], []⟩,
      ⟨fV r_i64 (IntKind.i64.wrap ((List.length x0 : Int) + 1)), [], [(10, some 1)], []⟩,
      ⟨Fact.triv, [(12, some (arrE 103 r_u16 v1))], [(11, some 2)], []⟩,
      ⟨Fact.triv, [(12, none), (5, some (arrE 103 r_u16 v1))], [], [(12, some 3)]⟩] [0, 1] [5] hAt
      ⟨ok_move rfl opd0,
      ok_len un45 rfl opd0,
      ok_add rfl opd0 opdI,
      ok_makeArr hv1 el103 ty103 un45 rfl rfl opd0 opd0,
      (ok_moveOwn (f := Fact.triv) rfl rfl (.inr rfl) (fun _ _ _ => trivial)), trivial⟩ (by kernel_rfl) ?_
  clear hAt
  intro a w hAt
  replace hAt : At B h0 (mkG [(0, fV (Rep.slice r_u16) x0), (1, fV r_i64 x1)]) (mkO [(5, arrE 103 r_u16 v1)]) F 41 a w := hAt
  refine then_n ?_
  refine wp_seq ?_
  refine wp_seq ?_
  refine reg [⟨fV (Rep.slice r_u16) x0, [], [(0, none)], []⟩,
      ⟨fV r_i64 (List.length x0 : Int), [], [(13, some 0)], []⟩,
      ⟨fV r_i64 0, [], [], []⟩] [1, 13, 14, 15] [5] hAt
      ⟨ok_move rfl opd0,
      ok_len un45 rfl opd0,
      ok_move rfl opdI, trivial⟩ (by kernel_rfl) ?_
  clear hAt
  intro a w hAt
  replace hAt : At B h0 (mkG [(1, fV r_i64 x1), (13, fV (Rep.slice r_u16) x0), (14, fV r_i64 (List.length x0 : Int)), (15, fV r_i64 0)]) (mkO [(5, arrE 103 r_u16 v1)]) F 41 a w := hAt
  refine then_n ?_
  refine wp_block ?_
  obtain ⟨o10, hl11, H⟩ := bindE H
  refine wp_mono (wp_loopN (f := f_exact_shifted_L1 N x0 x1) (fun (s2 : ((List Int) × Int)) a w => At B h0 (mkG [(1, fV r_i64 x1), (13, fV (Rep.slice r_u16) x0), (14, fV r_i64 (List.length x0 : Int)), (15, fV r_i64 s2.2)]) (mkO [(5, arrE 103 r_u16 s2.1)]) F 41 a w) (fun o e a w => (fun v => e = .exit 0 ∧ At B h0 (mkG []) (mkO [(5, arrE 103 r_u16 v)]) F 41 a w) o) ?_ N (v1, 0) o10 _ _ hl11 ?_) ?_
  · clear H hAt hl11
    intro s2 r12 a w H hAt
    unfold f_exact_shifted_L1 at H
    refine wp_seq ?_
    refine reg [⟨fV Rep.bool (cmpI .lss s2.2 (List.length x0 : Int)), [], [(15, none), (14, none)], []⟩] [1, 13, 14, 15, 16] [5] hAt
        ⟨ok_cmp (op := .lss) (by simp) rfl rfl opd0 opd1, trivial⟩ (by kernel_rfl) ?_
    clear hAt
    intro a w hAt
    replace hAt : At B h0 (mkG [(1, fV r_i64 x1), (13, fV (Rep.slice r_u16) x0), (14, fV r_i64 (List.length x0 : Int)), (15, fV r_i64 s2.2), (16, fV Rep.bool (cmpI .lss s2.2 (List.length x0 : Int)))]) (mkO [(5, arrE 103 r_u16 s2.1)]) F 41 a w := hAt
    refine then_n ?_
    refine wp_seq ?_
    refine wp_if hAt (by rfl) ?_ ?_
    · intro hb9
      have H := iteT hb9 H
      refine wp_skip ?_
      refine then_n ?_
      refine wp_seq ?_
      refine wp_block ?_
      refine wp_seq ?_
      obtain ⟨v3, hv3, H⟩ := bindE H
      refine reg [⟨fV r_i64 s2.2, [], [(15, none)], []⟩,
          ⟨fRef r_u16 v3, [], [(13, none), (15, none)], []⟩,
          ⟨fV r_u16 v3, [], [(18, some 1)], []⟩,
          ⟨fV r_i64 s2.2, [], [(17, some 0)], []⟩,
          ⟨fV r_u16 v3, [], [(19, some 2)], []⟩] [1, 6, 7, 13, 14, 15] [5] hAt
          ⟨ok_move rfl opd0,
          ok_index ty103 un45 hv3 rfl opd0 opd1,
          ok_load ty103 rfl opd0,
          ok_assign rfl opd0,
          ok_assign rfl opd0, trivial⟩ (by kernel_rfl) ?_
      clear hAt
      intro a w hAt
      replace hAt : At B h0 (mkG [(1, fV r_i64 x1), (6, fV r_i64 s2.2), (7, fV r_u16 v3), (13, fV (Rep.slice r_u16) x0), (14, fV r_i64 (List.length x0 : Int)), (15, fV r_i64 s2.2)]) (mkO [(5, arrE 103 r_u16 s2.1)]) F 41 a w := hAt
      refine then_n ?_
      refine wp_seq ?_
      obtain ⟨v4, hv4, H⟩ := bindE H
      refine reg [⟨fV r_u16 v3, [], [(7, none)], []⟩,
          ⟨fV r_u32 (IntKind.u32.wrap v3), [], [(20, some 0)], []⟩,
          ⟨fV r_i64 x1, [], [(1, none)], []⟩,
          ⟨fV r_u32 v4, [], [(21, some 1), (22, some 2)], []⟩,
          ⟨fV r_u32 v4, [], [(23, some 3)], []⟩] [1, 6, 8, 13, 14, 15] [5] hAt
          ⟨ok_move rfl opd0,
          ok_conv un103 un229 rfl opd0,
          ok_move rfl opd0,
          ok_shl hv4 rfl opd0 opd1,
          ok_assign rfl opd0, trivial⟩ (by kernel_rfl) ?_
      clear hAt
      intro a w hAt
      replace hAt : At B h0 (mkG [(1, fV r_i64 x1), (6, fV r_i64 s2.2), (8, fV r_u32 v4), (13, fV (Rep.slice r_u16) x0), (14, fV r_i64 (List.length x0 : Int)), (15, fV r_i64 s2.2)]) (mkO [(5, arrE 103 r_u16 s2.1)]) F 41 a w := hAt
      refine then_n ?_
      refine wp_seq ?_
      obtain ⟨v5, hv5, H⟩ := bindE H
      obtain ⟨v6, hv6, H⟩ := bindE H
      refine reg [⟨fCp 5, [], [], []⟩,
          ⟨fV r_i64 s2.2, [], [(6, none)], []⟩,
          ⟨fEl 5 ((Int.toNat s2.2) * r_u16.sz + 0), [], [(24, some 0), (25, some 1)], [(5, none)]⟩,
          ⟨fV r_u16 v5, [], [(26, some 2)], [(5, none)]⟩,
          ⟨fV r_u32 v4, [], [(8, none)], []⟩,
          ⟨fV r_u16 (IntKind.u16.wrap v4), [], [(28, some 4)], []⟩,
          ⟨fV r_u16 (bitI .or .u16 v5 (IntKind.u16.wrap v4)), [], [(27, some 3), (29, some 5)], []⟩,
          ⟨fEl 5 ((Int.toNat s2.2) * r_u16.sz + 0), [], [(24, some 0), (25, some 1)], [(5, none)]⟩,
          ⟨Fact.triv, [(5, some (arrE 103 r_u16 (List.set s2.1 (Int.toNat s2.2) (bitI .or .u16 v5 (IntKind.u16.wrap v4)))))], [(31, some 7), (30, some 6)], [(5, none)]⟩] [1, 6, 8, 13, 14, 15] [5] hAt
          ⟨ok_cp rfl,
          ok_move rfl opd0,
          ok_elArr hv5 ty103 un45 rfl opd0 opd1,
          ok_loadArr (idx_spec hv5).2.2 (Lens.refl _) ty103 rfl opd0,
          ok_move rfl opd0,
          ok_conv un229 un103 rfl opd0,
          ok_bit (op := .or) (by simp) rfl opd0 opd1,
          ok_elArr hv6 ty103 un45 rfl opd0 opd1,
          ok_storeArr (idx_spec hv6).2.2 (Lens.refl _) ty103 rfl rfl opd0 opd1 rfl, trivial⟩ (by kernel_rfl) ?_
      clear hAt
      intro a w hAt
      replace hAt : At B h0 (mkG [(1, fV r_i64 x1), (6, fV r_i64 s2.2), (8, fV r_u32 v4), (13, fV (Rep.slice r_u16) x0), (14, fV r_i64 (List.length x0 : Int)), (15, fV r_i64 s2.2)]) (mkO [(5, arrE 103 r_u16 (List.set s2.1 (Int.toNat s2.2) (bitI .or .u16 v5 (IntKind.u16.wrap v4))))]) F 41 a w := hAt
      refine then_n ?_
      obtain ⟨v7, hv7, H⟩ := bindE H
      obtain ⟨v8, hv8, H⟩ := bindE H
      refine reg [⟨fCp 5, [], [], []⟩,
          ⟨fV r_i64 s2.2, [], [(6, none)], []⟩,
          ⟨fV r_i64 (IntKind.i64.wrap (s2.2 + 1)), [], [(33, some 1)], []⟩,
          ⟨fV r_u32 v4, [], [(8, none)], []⟩,
          ⟨fV r_u32 v7, [], [(35, some 3)], []⟩,
          ⟨fV r_u16 (IntKind.u16.wrap v7), [], [(36, some 4)], []⟩,
          ⟨fEl 5 ((Int.toNat (IntKind.i64.wrap (s2.2 + 1))) * r_u16.sz + 0), [], [(32, some 0), (34, some 2)], [(5, none)]⟩,
          ⟨Fact.triv, [(5, some (arrE 103 r_u16 (List.set (List.set s2.1 (Int.toNat s2.2) (bitI .or .u16 v5 (IntKind.u16.wrap v4))) (Int.toNat (IntKind.i64.wrap (s2.2 + 1))) (IntKind.u16.wrap v7))))], [(38, some 6), (37, some 5)], [(5, none)]⟩] [1, 13, 14, 15] [5] hAt
          ⟨ok_cp rfl,
          ok_move rfl opd0,
          ok_add rfl opd0 opdI,
          ok_move rfl opd0,
          ok_shr hv7 rfl opd0 opdI,
          ok_conv un229 un103 rfl opd0,
          ok_elArr hv8 ty103 un45 rfl opd0 opd1,
          ok_storeArr (idx_spec hv8).2.2 (Lens.refl _) ty103 rfl rfl opd0 opd1 rfl, trivial⟩ (by kernel_rfl) ?_
      clear hAt
      intro a w hAt
      replace hAt : At B h0 (mkG [(1, fV r_i64 x1), (13, fV (Rep.slice r_u16) x0), (14, fV r_i64 (List.length x0 : Int)), (15, fV r_i64 s2.2)]) (mkO [(5, arrE 103 r_u16 (List.set (List.set s2.1 (Int.toNat s2.2) (bitI .or .u16 v5 (IntKind.u16.wrap v4))) (Int.toNat (IntKind.i64.wrap (s2.2 + 1))) (IntKind.u16.wrap v7)))]) F 41 a w := hAt
      refine blk_n ?_
      refine then_n ?_
      refine reg [⟨fV r_i64 (IntKind.i64.wrap (s2.2 + 1)), [], [(15, none)], []⟩,
          ⟨fV r_i64 (IntKind.i64.wrap (s2.2 + 1)), [], [(39, some 0)], []⟩] [1, 13, 14, 15] [5] hAt
          ⟨ok_add rfl opd0 opdI,
          ok_move rfl opd0, trivial⟩ (by kernel_rfl) ?_
      clear hAt
      intro a w hAt
      replace hAt : At B h0 (mkG [(1, fV r_i64 x1), (13, fV (Rep.slice r_u16) x0), (14, fV r_i64 (List.length x0 : Int)), (15, fV r_i64 (IntKind.i64.wrap (s2.2 + 1)))]) (mkO [(5, arrE 103 r_u16 (List.set (List.set s2.1 (Int.toNat s2.2) (bitI .or .u16 v5 (IntKind.u16.wrap v4))) (Int.toNat (IntKind.i64.wrap (s2.2 + 1))) (IntKind.u16.wrap v7)))]) F 41 a w := hAt
      cases H
      exact ⟨rfl, hAt.pick [1, 13, 14, 15] [5]⟩
    · intro hb9
      have H := iteF hb9 H
      refine wp_exit ?_
      refine then_x ?_
      cases H
      exact ⟨ex_ne, rfl, hAt.pick [] [5]⟩
  · exact hAt.pick [1, 13, 14, 15] [5]
  · clear hAt
    intro e a w hp
    obtain ⟨rfl, hAt⟩ := hp
    refine blk_eq ?_
    refine then_n ?_
    refine wp_seq ?_
    have hAt := At.freeze 5 hAt rfl
    replace hAt := hAt.pick [5] []
    replace hAt : At B h0 (mkG [(5, fV (Rep.slice r_u16) o10)]) (mkO []) F 41 a w := hAt
    refine reg [⟨fV (Rep.slice r_u16) o10, [], [(5, none)], []⟩,
        ⟨fV (Rep.slice r_u16) o10, [], [(40, some 0)], []⟩] [4] [] hAt
        ⟨ok_move rfl opd0,
        ok_assign rfl opd0, trivial⟩ (by kernel_rfl) ?_
    clear hAt
    intro a w hAt
    replace hAt : At B h0 (mkG [(4, fV (Rep.slice r_u16) o10)]) (mkO []) F 41 a w := hAt
    refine then_n ?_
    refine wp_ret ?_
    cases H
    exact ret1 rfl (rv_tmp rfl rfl) hAt
end Go.KB
