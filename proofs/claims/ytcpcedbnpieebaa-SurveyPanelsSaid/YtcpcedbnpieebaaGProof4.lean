/- The Go functions compute what the plain functions compute. Printed by a program. No condition. -/
import Derived.Test.YtcpcedbnpieebaaGProof3
namespace Go.KB
open Go.Proofs
set_option maxRecDepth 100000
set_option linter.unusedVariables false
theorem ok_f_ref09_CheckPanel (N : Nat) (x0 : GPanel) (r : Int) (H : f_ref09_CheckPanel N x0 = some r) : FnOk Try.prog 18 [fV GPanel.rep x0] (fV r_i64 r) := by
  unfold f_ref09_CheckPanel at H
  refine fn_enter Try.func18 rfl rfl (by kernel_rfl) ?_
  intro κ B h0 F a w hAt
  refine wp_seq ?_
  refine reg [⟨fRef GPanel.rep x0, [], [(0, none)], []⟩,
      ⟨fV r_i64 0, [], [], []⟩] [1] [] hAt
      ⟨ok_box rfl opd0,
      ok_assign rfl opdI, trivial⟩ (by kernel_rfl) ?_
  clear hAt
  intro a w hAt
  replace hAt : At B h0 (mkG [(1, fRef GPanel.rep x0)]) (mkO []) F 61 a w := hAt
  refine then_n ?_
  refine wp_seq ?_
  refine wp_seq ?_
  obtain ⟨v1, hv1, H⟩ := bindE H
  refine reg [⟨fRef Rep.str x0.Name, [], [(1, none)], []⟩,
      ⟨fV Rep.str x0.Name, [], [(4, some 0)], []⟩,
      ⟨fV Rep.bool v1, [], [(5, some 1)], []⟩,
      ⟨fV Rep.bool (!v1), [], [(6, some 2)], []⟩] [1, 7] [] hAt
      ⟨ok_field GPanel.l0 fo24_0 rfl opd0,
      ok_load ty9 rfl opd0,
      ok_call (ok_f_base_IsName N x0.Name _ hv1) Try.func68 (by kernel_rfl) (by kernel_rfl) rfl ⟨opd0, trivial⟩,
      ok_not rfl opd0, trivial⟩ (by kernel_rfl) ?_
  clear hAt
  intro a w hAt
  replace hAt : At B h0 (mkG [(1, fRef GPanel.rep x0), (7, fV Rep.bool (!v1))]) (mkO []) F 61 a w := hAt
  refine then_n ?_
  refine wp_if hAt (by rfl) ?_ ?_
  · intro hb16
    have H := iteT hb16 H
    refine wp_seq ?_
    refine reg [⟨fV r_i64 4, [], [], []⟩] [2] [] hAt
        ⟨ok_assign rfl opdI, trivial⟩ (by kernel_rfl) ?_
    clear hAt
    intro a w hAt
    replace hAt : At B h0 (mkG [(2, fV r_i64 4)]) (mkO []) F 61 a w := hAt
    refine then_n ?_
    refine wp_ret ?_
    refine then_r ?_
    cases H
    exact ret1 rfl (rv_tmp rfl rfl) hAt
  · intro hb16
    have H := iteF hb16 H
    refine wp_skip ?_
    refine then_n ?_
    refine wp_seq ?_
    refine wp_seq ?_
    obtain ⟨v2, hv2, H⟩ := bindE H
    refine reg [⟨fRef r_i64 x0.Rows, [], [(1, none)], []⟩,
        ⟨fV r_i64 x0.Rows, [], [(8, some 0)], []⟩,
        ⟨fV Rep.bool (cmpI .lss x0.Rows 1), [], [(9, some 1)], []⟩,
        ⟨fV Rep.bool (cmpI .lss x0.Rows 1), [], [(10, some 2)], []⟩,
        ⟨Fact.when ((!(cmpI .lss x0.Rows 1)) = true) (fRef r_i64 x0.Cols), [], [(11, some 3), (1, none)], []⟩,
        ⟨Fact.when ((!(cmpI .lss x0.Rows 1)) = true) (fV r_i64 x0.Cols), [], [(11, some 3), (12, some 4)], []⟩,
        ⟨Fact.when ((!(cmpI .lss x0.Rows 1)) = true) (fV Rep.bool (cmpI .lss x0.Cols 1)), [], [(11, some 3), (13, some 5)], []⟩,
        ⟨fV Rep.bool ((cmpI .lss x0.Rows 1) || (cmpI .lss x0.Cols 1)), [], [(11, some 3), (14, some 6)], []⟩,
        ⟨fV Rep.bool ((cmpI .lss x0.Rows 1) || (cmpI .lss x0.Cols 1)), [], [(15, some 7)], []⟩,
        ⟨Fact.when ((!((cmpI .lss x0.Rows 1) || (cmpI .lss x0.Cols 1))) = true) (fRef r_i64 x0.Built), [], [(16, some 8), (1, none)], []⟩,
        ⟨Fact.when ((!((cmpI .lss x0.Rows 1) || (cmpI .lss x0.Cols 1))) = true) (fV r_i64 x0.Built), [], [(16, some 8), (17, some 9)], []⟩,
        ⟨Fact.when ((!((cmpI .lss x0.Rows 1) || (cmpI .lss x0.Cols 1))) = true) (fV Rep.bool v2), [], [(16, some 8), (18, some 10)], []⟩,
        ⟨Fact.when ((!((cmpI .lss x0.Rows 1) || (cmpI .lss x0.Cols 1))) = true) (fV Rep.bool (!v2)), [], [(16, some 8), (19, some 11)], []⟩,
        ⟨fV Rep.bool (((cmpI .lss x0.Rows 1) || (cmpI .lss x0.Cols 1)) || (!v2)), [], [(16, some 8), (20, some 12)], []⟩] [1, 21] [] hAt
        ⟨ok_field GPanel.l1 fo24_1 rfl opd0,
        ok_load ty3 rfl opd0,
        ok_cmp (op := .lss) (by simp) rfl rfl opd0 opdI,
        ok_move rfl opd0,
        obl_tf rfl rfl rfl rfl rfl rfl rfl (fun hg => ok_field GPanel.l2 fo24_2 rfl opd1),
        obl_tf rfl rfl rfl rfl rfl rfl rfl (fun hg => ok_load ty3 rfl (opd1.on hg)),
        obl_tf rfl rfl rfl rfl rfl rfl rfl (fun hg => ok_cmp (op := .lss) (by simp) rfl rfl (opd1.on hg) opdI),
        ok_or rfl opd0 (fun e => (opd1.on (notT e))),
        ok_move rfl opd0,
        obl_tf rfl rfl rfl rfl rfl rfl rfl (fun hg => ok_field GPanel.l3 fo24_3 rfl opd1),
        obl_tf rfl rfl rfl rfl rfl rfl rfl (fun hg => ok_load ty3 rfl (opd1.on hg)),
        obl_tf rfl rfl rfl rfl rfl rfl rfl (fun hg => ok_call (ok_f_ref09_within N x0.Built 100 20000 _ (iteT hg hv2)) Try.func69 (by kernel_rfl) (by kernel_rfl) rfl ⟨(opd1.on hg), ⟨opdI, ⟨opdI, trivial⟩⟩⟩),
        obl_tf rfl rfl rfl rfl rfl rfl rfl (fun hg => ok_not rfl (opd1.on hg)),
        ok_or rfl opd0 (fun e => (opd1.on (notT e))), trivial⟩ (by kernel_rfl) ?_
    clear hAt
    intro a w hAt
    replace hAt : At B h0 (mkG [(1, fRef GPanel.rep x0), (21, fV Rep.bool (((cmpI .lss x0.Rows 1) || (cmpI .lss x0.Cols 1)) || (!v2)))]) (mkO []) F 61 a w := hAt
    refine then_n ?_
    refine wp_if hAt (by rfl) ?_ ?_
    · intro hb15
      have H := iteT hb15 H
      refine wp_seq ?_
      refine reg [⟨fV r_i64 2, [], [], []⟩] [2] [] hAt
          ⟨ok_assign rfl opdI, trivial⟩ (by kernel_rfl) ?_
      clear hAt
      intro a w hAt
      replace hAt : At B h0 (mkG [(2, fV r_i64 2)]) (mkO []) F 61 a w := hAt
      refine then_n ?_
      refine wp_ret ?_
      refine then_r ?_
      cases H
      exact ret1 rfl (rv_tmp rfl rfl) hAt
    · intro hb15
      have H := iteF hb15 H
      refine wp_skip ?_
      refine then_n ?_
      refine wp_seq ?_
      refine wp_seq ?_
      refine reg [⟨fRef r_i64 x0.Rows, [], [(1, none)], []⟩,
          ⟨fV r_i64 x0.Rows, [], [(22, some 0)], []⟩,
          ⟨fV Rep.bool (cmpI .gtr x0.Rows 400), [], [(23, some 1)], []⟩,
          ⟨fV Rep.bool (cmpI .gtr x0.Rows 400), [], [(24, some 2)], []⟩,
          ⟨Fact.when ((!(cmpI .gtr x0.Rows 400)) = true) (fRef r_i64 x0.Cols), [], [(25, some 3), (1, none)], []⟩,
          ⟨Fact.when ((!(cmpI .gtr x0.Rows 400)) = true) (fV r_i64 x0.Cols), [], [(25, some 3), (26, some 4)], []⟩,
          ⟨Fact.when ((!(cmpI .gtr x0.Rows 400)) = true) (fV Rep.bool (cmpI .gtr x0.Cols 400)), [], [(25, some 3), (27, some 5)], []⟩,
          ⟨fV Rep.bool ((cmpI .gtr x0.Rows 400) || (cmpI .gtr x0.Cols 400)), [], [(25, some 3), (28, some 6)], []⟩,
          ⟨fV Rep.bool ((cmpI .gtr x0.Rows 400) || (cmpI .gtr x0.Cols 400)), [], [(29, some 7)], []⟩,
          ⟨Fact.when ((!((cmpI .gtr x0.Rows 400) || (cmpI .gtr x0.Cols 400))) = true) (fRef r_i64 x0.Rows), [], [(30, some 8), (1, none)], []⟩,
          ⟨Fact.when ((!((cmpI .gtr x0.Rows 400) || (cmpI .gtr x0.Cols 400))) = true) (fV r_i64 x0.Rows), [], [(30, some 8), (31, some 9)], []⟩,
          ⟨Fact.when ((!((cmpI .gtr x0.Rows 400) || (cmpI .gtr x0.Cols 400))) = true) (fRef r_i64 x0.Cols), [], [(30, some 8), (1, none)], []⟩,
          ⟨Fact.when ((!((cmpI .gtr x0.Rows 400) || (cmpI .gtr x0.Cols 400))) = true) (fV r_i64 x0.Cols), [], [(30, some 8), (33, some 11)], []⟩,
          ⟨Fact.when ((!((cmpI .gtr x0.Rows 400) || (cmpI .gtr x0.Cols 400))) = true) (fV r_i64 (IntKind.i64.wrap (x0.Rows * x0.Cols))), [], [(30, some 8), (32, some 10), (34, some 12)], []⟩,
          ⟨Fact.when ((!((cmpI .gtr x0.Rows 400) || (cmpI .gtr x0.Cols 400))) = true) (fV Rep.bool (cmpI .gtr (IntKind.i64.wrap (x0.Rows * x0.Cols)) 400)), [], [(30, some 8), (35, some 13)], []⟩,
          ⟨fV Rep.bool (((cmpI .gtr x0.Rows 400) || (cmpI .gtr x0.Cols 400)) || (cmpI .gtr (IntKind.i64.wrap (x0.Rows * x0.Cols)) 400)), [], [(30, some 8), (36, some 14)], []⟩] [1, 37] [] hAt
          ⟨ok_field GPanel.l1 fo24_1 rfl opd0,
          ok_load ty3 rfl opd0,
          ok_cmp (op := .gtr) (by simp) rfl rfl opd0 opdI,
          ok_move rfl opd0,
          obl_tf rfl rfl rfl rfl rfl rfl rfl (fun hg => ok_field GPanel.l2 fo24_2 rfl opd1),
          obl_tf rfl rfl rfl rfl rfl rfl rfl (fun hg => ok_load ty3 rfl (opd1.on hg)),
          obl_tf rfl rfl rfl rfl rfl rfl rfl (fun hg => ok_cmp (op := .gtr) (by simp) rfl rfl (opd1.on hg) opdI),
          ok_or rfl opd0 (fun e => (opd1.on (notT e))),
          ok_move rfl opd0,
          obl_tf rfl rfl rfl rfl rfl rfl rfl (fun hg => ok_field GPanel.l1 fo24_1 rfl opd1),
          obl_tf rfl rfl rfl rfl rfl rfl rfl (fun hg => ok_load ty3 rfl (opd1.on hg)),
          obl_tf rfl rfl rfl rfl rfl rfl rfl (fun hg => ok_field GPanel.l2 fo24_2 rfl opd1),
          obl_tf rfl rfl rfl rfl rfl rfl rfl (fun hg => ok_load ty3 rfl (opd1.on hg)),
          obl_tf rfl rfl rfl rfl rfl rfl rfl (fun hg => ok_mul rfl (opd1.on hg) (opd2.on hg)),
          obl_tf rfl rfl rfl rfl rfl rfl rfl (fun hg => ok_cmp (op := .gtr) (by simp) rfl rfl (opd1.on hg) opdI),
          ok_or rfl opd0 (fun e => (opd1.on (notT e))), trivial⟩ (by kernel_rfl) ?_
      clear hAt
      intro a w hAt
      replace hAt : At B h0 (mkG [(1, fRef GPanel.rep x0), (37, fV Rep.bool (((cmpI .gtr x0.Rows 400) || (cmpI .gtr x0.Cols 400)) || (cmpI .gtr (IntKind.i64.wrap (x0.Rows * x0.Cols)) 400)))]) (mkO []) F 61 a w := hAt
      refine then_n ?_
      refine wp_if hAt (by rfl) ?_ ?_
      · intro hb14
        have H := iteT hb14 H
        refine wp_seq ?_
        refine reg [⟨fV r_i64 8, [], [], []⟩] [2] [] hAt
            ⟨ok_assign rfl opdI, trivial⟩ (by kernel_rfl) ?_
        clear hAt
        intro a w hAt
        replace hAt : At B h0 (mkG [(2, fV r_i64 8)]) (mkO []) F 61 a w := hAt
        refine then_n ?_
        refine wp_ret ?_
        refine then_r ?_
        cases H
        exact ret1 rfl (rv_tmp rfl rfl) hAt
      · intro hb14
        have H := iteF hb14 H
        refine wp_skip ?_
        refine then_n ?_
        refine wp_seq ?_
        refine wp_seq ?_
        refine reg [⟨fRef (Rep.slice r_i64) x0.Readings, [], [(1, none)], []⟩,
            ⟨fV (Rep.slice r_i64) x0.Readings, [], [(38, some 0)], []⟩,
            ⟨fV r_i64 (List.length x0.Readings : Int), [], [(39, some 1)], []⟩,
            ⟨fRef r_i64 x0.Rows, [], [(1, none)], []⟩,
            ⟨fV r_i64 x0.Rows, [], [(41, some 3)], []⟩,
            ⟨fRef r_i64 x0.Cols, [], [(1, none)], []⟩,
            ⟨fV r_i64 x0.Cols, [], [(43, some 5)], []⟩,
            ⟨fV r_i64 (IntKind.i64.wrap (x0.Rows * x0.Cols)), [], [(42, some 4), (44, some 6)], []⟩,
            ⟨fV Rep.bool (cmpI .neq (List.length x0.Readings : Int) (IntKind.i64.wrap (x0.Rows * x0.Cols))), [], [(40, some 2), (45, some 7)], []⟩] [1, 46] [] hAt
            ⟨ok_field GPanel.l4 fo24_4 rfl opd0,
            ok_load ty22 rfl opd0,
            ok_len un22 rfl opd0,
            ok_field GPanel.l1 fo24_1 rfl opd0,
            ok_load ty3 rfl opd0,
            ok_field GPanel.l2 fo24_2 rfl opd0,
            ok_load ty3 rfl opd0,
            ok_mul rfl opd0 opd1,
            ok_cmp (op := .neq) (by simp) rfl rfl opd0 opd1, trivial⟩ (by kernel_rfl) ?_
        clear hAt
        intro a w hAt
        replace hAt : At B h0 (mkG [(1, fRef GPanel.rep x0), (46, fV Rep.bool (cmpI .neq (List.length x0.Readings : Int) (IntKind.i64.wrap (x0.Rows * x0.Cols))))]) (mkO []) F 61 a w := hAt
        refine then_n ?_
        refine wp_if hAt (by rfl) ?_ ?_
        · intro hb13
          have H := iteT hb13 H
          refine wp_seq ?_
          refine reg [⟨fV r_i64 11, [], [], []⟩] [2] [] hAt
              ⟨ok_assign rfl opdI, trivial⟩ (by kernel_rfl) ?_
          clear hAt
          intro a w hAt
          replace hAt : At B h0 (mkG [(2, fV r_i64 11)]) (mkO []) F 61 a w := hAt
          refine then_n ?_
          refine wp_ret ?_
          refine then_r ?_
          cases H
          exact ret1 rfl (rv_tmp rfl rfl) hAt
        · intro hb13
          have H := iteF hb13 H
          refine wp_skip ?_
          refine then_n ?_
          refine wp_seq ?_
          refine wp_seq ?_
          refine reg [⟨fV r_i64 0, [], [], []⟩] [1, 3] [] hAt
              ⟨ok_assign rfl opdI, trivial⟩ (by kernel_rfl) ?_
          clear hAt
          intro a w hAt
          replace hAt : At B h0 (mkG [(1, fRef GPanel.rep x0), (3, fV r_i64 0)]) (mkO []) F 61 a w := hAt
          refine then_n ?_
          refine wp_block ?_
          obtain ⟨o8, hl9, H⟩ := bindE H
          refine wp_mono (wp_loopN (f := f_ref09_CheckPanel_L1 N x0) (fun (s3 : Int) a w => At B h0 (mkG [(1, fRef GPanel.rep x0), (3, fV r_i64 s3)]) (mkO []) F 61 a w) (fun o e a w => (Sum.elim (fun v => e = .exit 0 ∧ At B h0 (mkG []) (mkO []) F 61 a w) (fun v => e = .ret ∧ At B h0 (mkG [(2, fV r_i64 v)]) (mkO []) F 61 a w)) o) ?_ N 0 o8 _ _ hl9 ?_) ?_
          · clear H hAt hl9
            intro s3 r12 a w H hAt
            unfold f_ref09_CheckPanel_L1 at H
            refine wp_seq ?_
            refine wp_seq ?_
            refine reg [⟨fV r_i64 s3, [], [(3, none)], []⟩,
                ⟨fRef (Rep.slice r_i64) x0.Readings, [], [(1, none)], []⟩,
                ⟨fV (Rep.slice r_i64) x0.Readings, [], [(48, some 1)], []⟩,
                ⟨fV r_i64 (List.length x0.Readings : Int), [], [(49, some 2)], []⟩,
                ⟨fV Rep.bool (cmpI .lss s3 (List.length x0.Readings : Int)), [], [(47, some 0), (50, some 3)], []⟩] [1, 3, 51] [] hAt
                ⟨ok_move rfl opd0,
                ok_field GPanel.l4 fo24_4 rfl opd0,
                ok_load ty22 rfl opd0,
                ok_len un22 rfl opd0,
                ok_cmp (op := .lss) (by simp) rfl rfl opd0 opd1, trivial⟩ (by kernel_rfl) ?_
            clear hAt
            intro a w hAt
            replace hAt : At B h0 (mkG [(1, fRef GPanel.rep x0), (3, fV r_i64 s3), (51, fV Rep.bool (cmpI .lss s3 (List.length x0.Readings : Int)))]) (mkO []) F 61 a w := hAt
            refine then_n ?_
            refine wp_if hAt (by rfl) ?_ ?_
            · intro hb7
              have H := iteT hb7 H
              refine wp_skip ?_
              refine then_n ?_
              refine wp_seq ?_
              refine wp_block ?_
              refine wp_seq ?_
              obtain ⟨v4, hv4, H⟩ := bindE H
              obtain ⟨v5, hv5, H⟩ := bindE H
              refine reg [⟨fRef (Rep.slice r_i64) x0.Readings, [], [(1, none)], []⟩,
                  ⟨fV (Rep.slice r_i64) x0.Readings, [], [(54, some 0)], []⟩,
                  ⟨fV r_i64 s3, [], [(3, none)], []⟩,
                  ⟨fRef r_i64 v4, [], [(55, some 1), (56, some 2)], []⟩,
                  ⟨fV r_i64 v4, [], [(57, some 3)], []⟩,
                  ⟨fV Rep.bool v5, [], [(58, some 4)], []⟩,
                  ⟨fV Rep.bool (!v5), [], [(59, some 5)], []⟩] [1, 3, 60] [] hAt
                  ⟨ok_field GPanel.l4 fo24_4 rfl opd0,
                  ok_load ty22 rfl opd0,
                  ok_move rfl opd0,
                  ok_index ty3 un22 hv4 rfl opd0 opd1,
                  ok_load ty3 rfl opd0,
                  ok_call (ok_f_ref09_within N v4 0 20000 _ hv5) Try.func69 (by kernel_rfl) (by kernel_rfl) rfl ⟨opd0, ⟨opdI, ⟨opdI, trivial⟩⟩⟩,
                  ok_not rfl opd0, trivial⟩ (by kernel_rfl) ?_
              clear hAt
              intro a w hAt
              replace hAt : At B h0 (mkG [(1, fRef GPanel.rep x0), (3, fV r_i64 s3), (60, fV Rep.bool (!v5))]) (mkO []) F 61 a w := hAt
              refine then_n ?_
              refine wp_if hAt (by rfl) ?_ ?_
              · intro hb6
                have H := iteT hb6 H
                refine wp_seq ?_
                refine reg [⟨fV r_i64 2, [], [], []⟩] [2] [] hAt
                    ⟨ok_assign rfl opdI, trivial⟩ (by kernel_rfl) ?_
                clear hAt
                intro a w hAt
                replace hAt : At B h0 (mkG [(2, fV r_i64 2)]) (mkO []) F 61 a w := hAt
                refine then_n ?_
                refine wp_ret ?_
                refine blk_r ?_
                refine then_r ?_
                cases H
                exact ⟨ret_ne, rfl, hAt.pick [2] []⟩
              · intro hb6
                have H := iteF hb6 H
                refine wp_skip ?_
                refine blk_n ?_
                refine then_n ?_
                refine reg [⟨fV r_i64 s3, [], [(3, none)], []⟩,
                    ⟨fV r_i64 (IntKind.i64.wrap (s3 + 1)), [], [(52, some 0)], []⟩,
                    ⟨fV r_i64 (IntKind.i64.wrap (s3 + 1)), [], [(53, some 1)], []⟩] [1, 3] [] hAt
                    ⟨ok_move rfl opd0,
                    ok_add rfl opd0 opdI,
                    ok_assign rfl opd0, trivial⟩ (by kernel_rfl) ?_
                clear hAt
                intro a w hAt
                replace hAt : At B h0 (mkG [(1, fRef GPanel.rep x0), (3, fV r_i64 (IntKind.i64.wrap (s3 + 1)))]) (mkO []) F 61 a w := hAt
                cases H
                exact ⟨rfl, hAt.pick [1, 3] []⟩
            · intro hb7
              have H := iteF hb7 H
              refine wp_exit ?_
              refine then_x ?_
              cases H
              exact ⟨ex_ne, rfl, hAt.pick [] []⟩
          · exact hAt.pick [1, 3] []
          · clear hAt
            intro e a w hp
            cases o8 with
            | inl l10 =>
              rw [Sum.elim_inl] at H
              obtain ⟨rfl, hAt⟩ := hp
              refine blk_eq ?_
              refine then_n ?_
              refine wp_seq ?_
              refine reg [⟨fV r_i64 0, [], [], []⟩] [2] [] hAt
                  ⟨ok_assign rfl opdI, trivial⟩ (by kernel_rfl) ?_
              clear hAt
              intro a w hAt
              replace hAt : At B h0 (mkG [(2, fV r_i64 0)]) (mkO []) F 61 a w := hAt
              refine then_n ?_
              refine wp_ret ?_
              cases H
              exact ret1 rfl (rv_tmp rfl rfl) hAt
            | inr r11 =>
              rw [Sum.elim_inr] at H
              replace hp := hp
              obtain ⟨rfl, hAt⟩ := hp
              refine blk_r ?_
              refine then_r ?_
              cases H
              exact ret1 rfl (rv_tmp rfl rfl) hAt
theorem ok_f_ref09_CheckRule (N : Nat) (x0 : GRule) (r : Int) (H : f_ref09_CheckRule N x0 = some r) : FnOk Try.prog 39 [fV GRule.rep x0] (fV r_i64 r) := by
  unfold f_ref09_CheckRule at H
  refine fn_enter Try.func39 rfl rfl (by kernel_rfl) ?_
  intro κ B h0 F a w hAt
  refine wp_seq ?_
  refine reg [⟨fRef GRule.rep x0, [], [(0, none)], []⟩,
      ⟨fV r_i64 0, [], [], []⟩] [1] [] hAt
      ⟨ok_box rfl opd0,
      ok_assign rfl opdI, trivial⟩ (by kernel_rfl) ?_
  clear hAt
  intro a w hAt
  replace hAt : At B h0 (mkG [(1, fRef GRule.rep x0)]) (mkO []) F 18 a w := hAt
  refine then_n ?_
  refine wp_seq ?_
  refine wp_seq ?_
  refine reg [⟨fRef r_i64 x0.Substantial, [], [(1, none)], []⟩,
      ⟨fV r_i64 x0.Substantial, [], [(3, some 0)], []⟩,
      ⟨fV Rep.bool (cmpI .lss x0.Substantial 0), [], [(4, some 1)], []⟩,
      ⟨fV Rep.bool (cmpI .lss x0.Substantial 0), [], [(5, some 2)], []⟩,
      ⟨Fact.when ((!(cmpI .lss x0.Substantial 0)) = true) (fRef r_i64 x0.Substantial), [], [(6, some 3), (1, none)], []⟩,
      ⟨Fact.when ((!(cmpI .lss x0.Substantial 0)) = true) (fV r_i64 x0.Substantial), [], [(6, some 3), (7, some 4)], []⟩,
      ⟨Fact.when ((!(cmpI .lss x0.Substantial 0)) = true) (fRef r_i64 x0.Renew), [], [(6, some 3), (1, none)], []⟩,
      ⟨Fact.when ((!(cmpI .lss x0.Substantial 0)) = true) (fV r_i64 x0.Renew), [], [(6, some 3), (9, some 6)], []⟩,
      ⟨Fact.when ((!(cmpI .lss x0.Substantial 0)) = true) (fV Rep.bool (cmpI .gtr x0.Substantial x0.Renew)), [], [(6, some 3), (8, some 5), (10, some 7)], []⟩,
      ⟨fV Rep.bool ((cmpI .lss x0.Substantial 0) || (cmpI .gtr x0.Substantial x0.Renew)), [], [(6, some 3), (11, some 8)], []⟩,
      ⟨fV Rep.bool ((cmpI .lss x0.Substantial 0) || (cmpI .gtr x0.Substantial x0.Renew)), [], [(12, some 9)], []⟩,
      ⟨Fact.when ((!((cmpI .lss x0.Substantial 0) || (cmpI .gtr x0.Substantial x0.Renew))) = true) (fRef r_i64 x0.Renew), [], [(13, some 10), (1, none)], []⟩,
      ⟨Fact.when ((!((cmpI .lss x0.Substantial 0) || (cmpI .gtr x0.Substantial x0.Renew))) = true) (fV r_i64 x0.Renew), [], [(13, some 10), (14, some 11)], []⟩,
      ⟨Fact.when ((!((cmpI .lss x0.Substantial 0) || (cmpI .gtr x0.Substantial x0.Renew))) = true) (fV Rep.bool (cmpI .gtr x0.Renew 1000)), [], [(13, some 10), (15, some 12)], []⟩,
      ⟨fV Rep.bool (((cmpI .lss x0.Substantial 0) || (cmpI .gtr x0.Substantial x0.Renew)) || (cmpI .gtr x0.Renew 1000)), [], [(13, some 10), (16, some 13)], []⟩] [17] [] hAt
      ⟨ok_field GRule.l0 fo26_0 rfl opd0,
      ok_load ty3 rfl opd0,
      ok_cmp (op := .lss) (by simp) rfl rfl opd0 opdI,
      ok_move rfl opd0,
      obl_tf rfl rfl rfl rfl rfl rfl rfl (fun hg => ok_field GRule.l0 fo26_0 rfl opd1),
      obl_tf rfl rfl rfl rfl rfl rfl rfl (fun hg => ok_load ty3 rfl (opd1.on hg)),
      obl_tf rfl rfl rfl rfl rfl rfl rfl (fun hg => ok_field GRule.l1 fo26_1 rfl opd1),
      obl_tf rfl rfl rfl rfl rfl rfl rfl (fun hg => ok_load ty3 rfl (opd1.on hg)),
      obl_tf rfl rfl rfl rfl rfl rfl rfl (fun hg => ok_cmp (op := .gtr) (by simp) rfl rfl (opd1.on hg) (opd2.on hg)),
      ok_or rfl opd0 (fun e => (opd1.on (notT e))),
      ok_move rfl opd0,
      obl_tf rfl rfl rfl rfl rfl rfl rfl (fun hg => ok_field GRule.l1 fo26_1 rfl opd1),
      obl_tf rfl rfl rfl rfl rfl rfl rfl (fun hg => ok_load ty3 rfl (opd1.on hg)),
      obl_tf rfl rfl rfl rfl rfl rfl rfl (fun hg => ok_cmp (op := .gtr) (by simp) rfl rfl (opd1.on hg) opdI),
      ok_or rfl opd0 (fun e => (opd1.on (notT e))), trivial⟩ (by kernel_rfl) ?_
  clear hAt
  intro a w hAt
  replace hAt : At B h0 (mkG [(17, fV Rep.bool (((cmpI .lss x0.Substantial 0) || (cmpI .gtr x0.Substantial x0.Renew)) || (cmpI .gtr x0.Renew 1000)))]) (mkO []) F 18 a w := hAt
  refine then_n ?_
  refine wp_if hAt (by rfl) ?_ ?_
  · intro hb1
    have H := iteT hb1 H
    refine wp_seq ?_
    refine reg [⟨fV r_i64 2, [], [], []⟩] [2] [] hAt
        ⟨ok_assign rfl opdI, trivial⟩ (by kernel_rfl) ?_
    clear hAt
    intro a w hAt
    replace hAt : At B h0 (mkG [(2, fV r_i64 2)]) (mkO []) F 18 a w := hAt
    refine then_n ?_
    refine wp_ret ?_
    refine then_r ?_
    cases H
    exact ret1 rfl (rv_tmp rfl rfl) hAt
  · intro hb1
    have H := iteF hb1 H
    refine wp_skip ?_
    refine then_n ?_
    refine wp_seq ?_
    refine reg [⟨fV r_i64 0, [], [], []⟩] [2] [] hAt
        ⟨ok_assign rfl opdI, trivial⟩ (by kernel_rfl) ?_
    clear hAt
    intro a w hAt
    replace hAt : At B h0 (mkG [(2, fV r_i64 0)]) (mkO []) F 18 a w := hAt
    refine then_n ?_
    refine wp_ret ?_
    cases H
    exact ret1 rfl (rv_tmp rfl rfl) hAt
theorem ok_f_law09_panelError (N : Nat) (x0 : GPanel) (x1 : GRule) (r : Int) (H : f_law09_panelError N x0 x1 = some r) : FnOk Try.prog 20 [fV GPanel.rep x0, fV GRule.rep x1] (fV r_i64 r) := by
  unfold f_law09_panelError at H
  refine fn_enter Try.func20 rfl rfl (by kernel_rfl) ?_
  intro κ B h0 F a w hAt
  refine wp_seq ?_
  refine reg [⟨fRef GPanel.rep x0, [], [(0, none)], []⟩,
      ⟨fRef GRule.rep x1, [], [(1, none)], []⟩,
      ⟨fV r_i64 0, [], [], []⟩] [2, 3] [] hAt
      ⟨ok_box rfl opd0,
      ok_box rfl opd0,
      ok_assign rfl opdI, trivial⟩ (by kernel_rfl) ?_
  clear hAt
  intro a w hAt
  replace hAt : At B h0 (mkG [(2, fRef GPanel.rep x0), (3, fRef GRule.rep x1)]) (mkO []) F 13 a w := hAt
  refine then_n ?_
  refine wp_seq ?_
  refine wp_seq ?_
  obtain ⟨v1, hv1, H⟩ := bindE H
  refine reg [⟨fV GPanel.rep x0, [], [(2, none)], []⟩,
      ⟨fV r_i64 v1, [], [(6, some 0)], []⟩,
      ⟨fV r_i64 v1, [], [(7, some 1)], []⟩] [3, 5] [] hAt
      ⟨ok_load ty24 rfl opd0,
      ok_call (ok_f_ref09_CheckPanel N x0 _ hv1) Try.func18 (by kernel_rfl) (by kernel_rfl) rfl ⟨opd0, trivial⟩,
      ok_assign rfl opd0, trivial⟩ (by kernel_rfl) ?_
  clear hAt
  intro a w hAt
  replace hAt : At B h0 (mkG [(3, fRef GRule.rep x1), (5, fV r_i64 v1)]) (mkO []) F 13 a w := hAt
  refine then_n ?_
  refine wp_seq ?_
  refine reg [⟨fV r_i64 v1, [], [(5, none)], []⟩,
      ⟨fV Rep.bool (cmpI .neq v1 0), [], [(8, some 0)], []⟩] [3, 5, 9] [] hAt
      ⟨ok_move rfl opd0,
      ok_cmp (op := .neq) (by simp) rfl rfl opd0 opdI, trivial⟩ (by kernel_rfl) ?_
  clear hAt
  intro a w hAt
  replace hAt : At B h0 (mkG [(3, fRef GRule.rep x1), (5, fV r_i64 v1), (9, fV Rep.bool (cmpI .neq v1 0))]) (mkO []) F 13 a w := hAt
  refine then_n ?_
  refine wp_if hAt (by rfl) ?_ ?_
  · intro hb3
    have H := iteT hb3 H
    refine wp_seq ?_
    refine reg [⟨fV r_i64 v1, [], [(5, none)], []⟩,
        ⟨fV r_i64 v1, [], [(10, some 0)], []⟩] [4] [] hAt
        ⟨ok_move rfl opd0,
        ok_assign rfl opd0, trivial⟩ (by kernel_rfl) ?_
    clear hAt
    intro a w hAt
    replace hAt : At B h0 (mkG [(4, fV r_i64 v1)]) (mkO []) F 13 a w := hAt
    refine then_n ?_
    refine wp_ret ?_
    refine then_r ?_
    cases H
    exact ret1 rfl (rv_tmp rfl rfl) hAt
  · intro hb3
    have H := iteF hb3 H
    refine wp_skip ?_
    refine then_n ?_
    refine wp_seq ?_
    obtain ⟨v2, hv2, H⟩ := bindE H
    refine reg [⟨fV GRule.rep x1, [], [(3, none)], []⟩,
        ⟨fV r_i64 v2, [], [(11, some 0)], []⟩,
        ⟨fV r_i64 v2, [], [(12, some 1)], []⟩] [4] [] hAt
        ⟨ok_load ty26 rfl opd0,
        ok_call (ok_f_ref09_CheckRule N x1 _ hv2) Try.func39 (by kernel_rfl) (by kernel_rfl) rfl ⟨opd0, trivial⟩,
        ok_assign rfl opd0, trivial⟩ (by kernel_rfl) ?_
    clear hAt
    intro a w hAt
    replace hAt : At B h0 (mkG [(4, fV r_i64 v2)]) (mkO []) F 13 a w := hAt
    refine then_n ?_
    refine wp_ret ?_
    cases H
    exact ret1 rfl (rv_tmp rfl rfl) hAt
theorem ok_f_base_Q (N : Nat) (x0 : Int) (x1 : Int) (r : GRat) (H : f_base_Q N x0 x1 = some r) : FnOk Try.prog 72 [fV r_i64 x0, fV r_i64 x1] (fV GRat.rep r) := by
  unfold f_base_Q at H
  refine fn_enter Try.func72 rfl rfl (by kernel_rfl) ?_
  intro κ B h0 F a w hAt
  refine wp_seq ?_
  refine reg [⟨Fact.triv, [(4, some (boxE 49 GRat.rep (⟨(⟨false, []⟩ : GInt), (⟨false, []⟩ : GInt)⟩ : GRat)))], [], []⟩] [0, 1] [4] hAt
      ⟨ok_alloc ty49 rfl rfl, trivial⟩ (by kernel_rfl) ?_
  clear hAt
  intro a w hAt
  replace hAt : At B h0 (mkG [(0, fV r_i64 x0), (1, fV r_i64 x1)]) (mkO [(4, boxE 49 GRat.rep (⟨(⟨false, []⟩ : GInt), (⟨false, []⟩ : GInt)⟩ : GRat))]) F 34 a w := hAt
  refine then_n ?_
  refine wp_seq ?_
  obtain ⟨o2, hl3, H⟩ := bindE H
  refine wp_mono (Q := (fun o e a w => (fun v => e = .normal ∧ At B h0 (mkG [(0, fV r_i64 v.1), (1, fV r_i64 v.2)]) (mkO [(4, boxE 49 GRat.rep (⟨(⟨false, []⟩ : GInt), (⟨false, []⟩ : GInt)⟩ : GRat))]) F 34 a w) o) o2) ?_ ?_
  · clear H
    have H := hl3
    clear hl3
    refine wp_seq ?_
    refine reg [⟨fV r_i64 x1, [], [(1, none)], []⟩,
        ⟨fV Rep.bool (cmpI .lss x1 0), [], [(7, some 0)], []⟩] [0, 1, 8] [4] hAt
        ⟨ok_move rfl opd0,
        ok_cmp (op := .lss) (by simp) rfl rfl opd0 opdI, trivial⟩ (by kernel_rfl) ?_
    clear hAt
    intro a w hAt
    replace hAt : At B h0 (mkG [(0, fV r_i64 x0), (1, fV r_i64 x1), (8, fV Rep.bool (cmpI .lss x1 0))]) (mkO [(4, boxE 49 GRat.rep (⟨(⟨false, []⟩ : GInt), (⟨false, []⟩ : GInt)⟩ : GRat))]) F 34 a w := hAt
    refine then_n ?_
    refine wp_if hAt (by rfl) ?_ ?_
    · intro hb1
      have H := iteT hb1 H
      refine reg [⟨fV r_i64 x0, [], [(0, none)], []⟩,
          ⟨fV r_i64 (IntKind.i64.wrap (0 - x0)), [], [(9, some 0)], []⟩,
          ⟨fV r_i64 x1, [], [(1, none)], []⟩,
          ⟨fV r_i64 (IntKind.i64.wrap (0 - x1)), [], [(11, some 2)], []⟩,
          ⟨fV r_i64 (IntKind.i64.wrap (0 - x0)), [], [(10, some 1)], []⟩,
          ⟨fV r_i64 (IntKind.i64.wrap (0 - x1)), [], [(12, some 3)], []⟩] [0, 1] [4] hAt
          ⟨ok_move rfl opd0,
          ok_neg rfl opd0,
          ok_move rfl opd0,
          ok_neg rfl opd0,
          ok_assign rfl opd0,
          ok_assign rfl opd0, trivial⟩ (by kernel_rfl) ?_
      clear hAt
      intro a w hAt
      replace hAt : At B h0 (mkG [(0, fV r_i64 (IntKind.i64.wrap (0 - x0))), (1, fV r_i64 (IntKind.i64.wrap (0 - x1)))]) (mkO [(4, boxE 49 GRat.rep (⟨(⟨false, []⟩ : GInt), (⟨false, []⟩ : GInt)⟩ : GRat))]) F 34 a w := hAt
      cases H
      exact ⟨rfl, hAt.pick [0, 1] [4]⟩
    · intro hb1
      have H := iteF hb1 H
      refine wp_skip ?_
      cases H
      exact ⟨rfl, hAt.pick [0, 1] [4]⟩
  · clear hAt
    intro e a w hp
    obtain ⟨rfl, hAt⟩ := hp
    refine then_n ?_
    refine wp_seq ?_
    refine reg [⟨fV r_i64 o2.1, [], [(0, none)], []⟩,
        ⟨fV r_i64 o2.2, [], [(1, none)], []⟩,
        ⟨fV r_i64 o2.1, [], [(13, some 0)], []⟩,
        ⟨fV r_i64 o2.2, [], [(14, some 1)], []⟩] [0, 1, 5, 6] [4] hAt
        ⟨ok_move rfl opd0,
        ok_move rfl opd0,
        ok_assign rfl opd0,
        ok_assign rfl opd0, trivial⟩ (by kernel_rfl) ?_
    clear hAt
    intro a w hAt
    replace hAt : At B h0 (mkG [(0, fV r_i64 o2.1), (1, fV r_i64 o2.2), (5, fV r_i64 o2.1), (6, fV r_i64 o2.2)]) (mkO [(4, boxE 49 GRat.rep (⟨(⟨false, []⟩ : GInt), (⟨false, []⟩ : GInt)⟩ : GRat))]) F 34 a w := hAt
    refine then_n ?_
    refine wp_seq ?_
    obtain ⟨o5, hl6, H⟩ := bindE H
    refine wp_mono (Q := (fun o e a w => (fun v => e = .normal ∧ At B h0 (mkG [(0, fV r_i64 o2.1), (1, fV r_i64 o2.2), (5, fV r_i64 v), (6, fV r_i64 o2.2)]) (mkO [(4, boxE 49 GRat.rep (⟨(⟨false, []⟩ : GInt), (⟨false, []⟩ : GInt)⟩ : GRat))]) F 34 a w) o) o5) ?_ ?_
    · clear H
      have H := hl6
      clear hl6
      refine wp_seq ?_
      refine reg [⟨fV r_i64 o2.1, [], [(5, none)], []⟩,
          ⟨fV Rep.bool (cmpI .lss o2.1 0), [], [(15, some 0)], []⟩] [0, 1, 5, 6, 16] [4] hAt
          ⟨ok_move rfl opd0,
          ok_cmp (op := .lss) (by simp) rfl rfl opd0 opdI, trivial⟩ (by kernel_rfl) ?_
      clear hAt
      intro a w hAt
      replace hAt : At B h0 (mkG [(0, fV r_i64 o2.1), (1, fV r_i64 o2.2), (5, fV r_i64 o2.1), (6, fV r_i64 o2.2), (16, fV Rep.bool (cmpI .lss o2.1 0))]) (mkO [(4, boxE 49 GRat.rep (⟨(⟨false, []⟩ : GInt), (⟨false, []⟩ : GInt)⟩ : GRat))]) F 34 a w := hAt
      refine then_n ?_
      refine wp_if hAt (by rfl) ?_ ?_
      · intro hb4
        have H := iteT hb4 H
        refine reg [⟨fV r_i64 o2.1, [], [(5, none)], []⟩,
            ⟨fV r_i64 (IntKind.i64.wrap (0 - o2.1)), [], [(17, some 0)], []⟩,
            ⟨fV r_i64 (IntKind.i64.wrap (0 - o2.1)), [], [(18, some 1)], []⟩] [0, 1, 5, 6] [4] hAt
            ⟨ok_move rfl opd0,
            ok_neg rfl opd0,
            ok_assign rfl opd0, trivial⟩ (by kernel_rfl) ?_
        clear hAt
        intro a w hAt
        replace hAt : At B h0 (mkG [(0, fV r_i64 o2.1), (1, fV r_i64 o2.2), (5, fV r_i64 (IntKind.i64.wrap (0 - o2.1))), (6, fV r_i64 o2.2)]) (mkO [(4, boxE 49 GRat.rep (⟨(⟨false, []⟩ : GInt), (⟨false, []⟩ : GInt)⟩ : GRat))]) F 34 a w := hAt
        cases H
        exact ⟨rfl, hAt.pick [0, 1, 5, 6] [4]⟩
      · intro hb4
        have H := iteF hb4 H
        refine wp_skip ?_
        cases H
        exact ⟨rfl, hAt.pick [0, 1, 5, 6] [4]⟩
    · clear hAt
      intro e a w hp
      obtain ⟨rfl, hAt⟩ := hp
      refine then_n ?_
      refine wp_seq ?_
      refine wp_block ?_
      obtain ⟨o10, hl11, H⟩ := bindE H
      refine wp_mono (wp_loopN (f := f_base_Q_L1 N) (fun (s7 : (Int × Int)) a w => At B h0 (mkG [(0, fV r_i64 o2.1), (1, fV r_i64 o2.2), (5, fV r_i64 s7.1), (6, fV r_i64 s7.2)]) (mkO [(4, boxE 49 GRat.rep (⟨(⟨false, []⟩ : GInt), (⟨false, []⟩ : GInt)⟩ : GRat))]) F 34 a w) (fun o e a w => (fun v => e = .exit 0 ∧ At B h0 (mkG [(0, fV r_i64 o2.1), (1, fV r_i64 o2.2), (5, fV r_i64 v)]) (mkO [(4, boxE 49 GRat.rep (⟨(⟨false, []⟩ : GInt), (⟨false, []⟩ : GInt)⟩ : GRat))]) F 34 a w) o) ?_ N (o5, o2.2) o10 _ _ hl11 ?_) ?_
      · clear H hAt hl11
        intro s7 r16 a w H hAt
        unfold f_base_Q_L1 at H
        refine wp_seq ?_
        refine wp_seq ?_
        refine reg [⟨fV r_i64 s7.2, [], [(6, none)], []⟩,
            ⟨fV Rep.bool (cmpI .gtr s7.2 0), [], [(19, some 0)], []⟩] [0, 1, 5, 6, 20] [4] hAt
            ⟨ok_move rfl opd0,
            ok_cmp (op := .gtr) (by simp) rfl rfl opd0 opdI, trivial⟩ (by kernel_rfl) ?_
        clear hAt
        intro a w hAt
        replace hAt : At B h0 (mkG [(0, fV r_i64 o2.1), (1, fV r_i64 o2.2), (5, fV r_i64 s7.1), (6, fV r_i64 s7.2), (20, fV Rep.bool (cmpI .gtr s7.2 0))]) (mkO [(4, boxE 49 GRat.rep (⟨(⟨false, []⟩ : GInt), (⟨false, []⟩ : GInt)⟩ : GRat))]) F 34 a w := hAt
        refine then_n ?_
        refine wp_if hAt (by rfl) ?_ ?_
        · intro hb9
          have H := iteT hb9 H
          refine wp_skip ?_
          refine then_n ?_
          refine wp_block ?_
          obtain ⟨v8, hv8, H⟩ := bindE H
          refine regd [⟨fV r_i64 s7.2, [], [(6, none)], []⟩,
              ⟨fV r_i64 s7.1, [], [(5, none)], []⟩,
              ⟨fV r_i64 s7.2, [], [(6, none)], []⟩,
              ⟨fV r_i64 v8, [], [(22, some 1), (23, some 2)], []⟩,
              ⟨fV r_i64 s7.2, [], [(21, some 0)], []⟩,
              ⟨fV r_i64 v8, [], [(24, some 3)], []⟩] [0, 1, 2, 3, 4, 5] [0, 1, 2, 3, 4, 5] [0, 1, 5, 6] [4] hAt
              ⟨ok_move rfl opd0,
              ok_move rfl opd0,
              ok_move rfl opd0,
              ok_rem hv8 rfl opd0 opd1,
              ok_assign rfl opd0,
              ok_assign rfl opd0, trivial⟩ (by kernel_rfl) ?_
          clear hAt
          intro a w hAt
          replace hAt : At B h0 (mkG [(0, fV r_i64 o2.1), (1, fV r_i64 o2.2), (5, fV r_i64 s7.2), (6, fV r_i64 v8)]) (mkO [(4, boxE 49 GRat.rep (⟨(⟨false, []⟩ : GInt), (⟨false, []⟩ : GInt)⟩ : GRat))]) F 34 a w := hAt
          refine blk_n ?_
          cases H
          exact ⟨rfl, hAt.pick [0, 1, 5, 6] [4]⟩
        · intro hb9
          have H := iteF hb9 H
          refine wp_exit ?_
          refine then_x ?_
          cases H
          exact ⟨ex_ne, rfl, hAt.pick [0, 1, 5] [4]⟩
      · exact hAt.pick [0, 1, 5, 6] [4]
      · clear hAt
        intro e a w hp
        obtain ⟨rfl, hAt⟩ := hp
        refine blk_eq ?_
        refine then_n ?_
        refine wp_seq ?_
        obtain ⟨v12, hv12, H⟩ := bindE H
        obtain ⟨v13, hv13, H⟩ := bindE H
        obtain ⟨v14, hv14, H⟩ := bindE H
        obtain ⟨v15, hv15, H⟩ := bindE H
        refine regd [⟨fV r_i64 o2.1, [], [(0, none)], []⟩,
            ⟨fV r_i64 o10, [], [(5, none)], []⟩,
            ⟨fV r_i64 v12, [], [(25, some 0), (26, some 1)], []⟩,
            ⟨fV GInt.rep v13, [], [(27, some 2)], []⟩,
            ⟨fV r_i64 o2.2, [], [(1, none)], []⟩,
            ⟨fV r_i64 o10, [], [(5, none)], []⟩,
            ⟨fV r_i64 v14, [], [(29, some 4), (30, some 5)], []⟩,
            ⟨fV GInt.rep v15, [], [(31, some 6)], []⟩,
            ⟨fV GRat.rep (⟨v13, v15⟩ : GRat), [], [(28, some 3), (32, some 7)], []⟩,
            ⟨Fact.triv, [(4, some (boxE 49 GRat.rep (⟨v13, v15⟩ : GRat)))], [(33, some 8)], [(4, none)]⟩] [0, 1, 2, 3, 4, 5, 6, 7, 8, 9] [0, 1, 2, 3, 4, 5, 6, 7, 8, 9] [] [4] hAt
            ⟨ok_move rfl opd0,
            ok_move rfl opd0,
            ok_quo hv12 rfl opd0 opd1,
            ok_call (ok_f_base_Z N v12 _ hv13) Try.func80 (by kernel_rfl) (by kernel_rfl) rfl ⟨opd0, trivial⟩,
            ok_move rfl opd0,
            ok_move rfl opd0,
            ok_quo hv14 rfl opd0 opd1,
            ok_call (ok_f_base_Z N v14 _ hv15) Try.func80 (by kernel_rfl) (by kernel_rfl) rfl ⟨opd0, trivial⟩,
            ok_build ty49 rfl pl49 rfl (fillC GRat.l0 rfl opd0 (fillC GRat.l1 rfl opd1 fillN)),
            ok_storeBox ty49 rfl rfl opd0, trivial⟩ (by kernel_rfl) ?_
        clear hAt
        intro a w hAt
        replace hAt : At B h0 (mkG []) (mkO [(4, boxE 49 GRat.rep (⟨v13, v15⟩ : GRat))]) F 34 a w := hAt
        refine then_n ?_
        refine wp_ret ?_
        cases H
        exact ret1 rfl (rv_cell ty49 rfl) hAt
theorem ok_f_ref09_Wastage (N : Nat) (x0 : GPanel) (r : (List GRat)) (H : f_ref09_Wastage N x0 = some r) : FnOk Try.prog 22 [fV GPanel.rep x0] (fV (Rep.slice GRat.rep) r) := by
  unfold f_ref09_Wastage at H
  refine fn_enter Try.func22 rfl rfl (by kernel_rfl) ?_
  intro κ B h0 F a w hAt
  refine wp_seq ?_
  refine reg [⟨fRef GPanel.rep x0, [], [(0, none)], []⟩,
      ⟨fV (Rep.slice GRat.rep) [], [(2, some (tipE 49 GRat.rep.sz))], [], []⟩] [1] [] hAt
      ⟨ok_box rfl opd0,
      ok_nilTip rfl (.inl rfl), trivial⟩ (by kernel_rfl) ?_
  clear hAt
  intro a w hAt
  replace hAt : At B h0 (mkG [(1, fRef GPanel.rep x0)]) (mkO []) F 41 a w := hAt
  refine then_n ?_
  refine wp_seq ?_
  refine reg [⟨fV (Rep.slice GRat.rep) [], [(3, some (tipE 49 GRat.rep.sz))], [], []⟩] [1, 3] [3] hAt
      ⟨ok_nilTip rfl (.inl rfl), trivial⟩ (by kernel_rfl) ?_
  clear hAt
  intro a w hAt
  replace hAt : At B h0 (mkG [(1, fRef GPanel.rep x0), (3, fV (Rep.slice GRat.rep) [])]) (mkO [(3, tipE 49 GRat.rep.sz)]) F 41 a w := hAt
  refine then_n ?_
  refine wp_seq ?_
  refine wp_seq ?_
  refine reg [⟨fV r_i64 0, [], [], []⟩] [1, 3, 4] [3] hAt
      ⟨ok_assign rfl opdI, trivial⟩ (by kernel_rfl) ?_
  clear hAt
  intro a w hAt
  replace hAt : At B h0 (mkG [(1, fRef GPanel.rep x0), (3, fV (Rep.slice GRat.rep) []), (4, fV r_i64 0)]) (mkO [(3, tipE 49 GRat.rep.sz)]) F 41 a w := hAt
  refine then_n ?_
  refine wp_block ?_
  obtain ⟨o9, hl10, H⟩ := bindE H
  refine wp_mono (wp_loopN (f := f_ref09_Wastage_L1 N x0) (fun (s1 : ((List GRat) × Int)) a w => At B h0 (mkG [(1, fRef GPanel.rep x0), (3, fV (Rep.slice GRat.rep) s1.1), (4, fV r_i64 s1.2)]) (mkO [(3, tipE 49 GRat.rep.sz)]) F 41 a w) (fun o e a w => (fun v => e = .exit 0 ∧ At B h0 (mkG [(3, fV (Rep.slice GRat.rep) v)]) (mkO [(3, tipE 49 GRat.rep.sz)]) F 41 a w) o) ?_ N ([], 0) o9 _ _ hl10 ?_) ?_
  · clear H hAt hl10
    intro s1 r11 a w H hAt
    unfold f_ref09_Wastage_L1 at H
    refine wp_seq ?_
    refine wp_seq ?_
    refine reg [⟨fV r_i64 s1.2, [], [(4, none)], []⟩,
        ⟨fRef (Rep.slice r_i64) x0.Readings, [], [(1, none)], []⟩,
        ⟨fV (Rep.slice r_i64) x0.Readings, [], [(7, some 1)], []⟩,
        ⟨fV r_i64 (List.length x0.Readings : Int), [], [(8, some 2)], []⟩,
        ⟨fV Rep.bool (cmpI .lss s1.2 (List.length x0.Readings : Int)), [], [(6, some 0), (9, some 3)], []⟩] [1, 3, 4, 10] [3] hAt
        ⟨ok_move rfl opd0,
        ok_field GPanel.l4 fo24_4 rfl opd0,
        ok_load ty22 rfl opd0,
        ok_len un22 rfl opd0,
        ok_cmp (op := .lss) (by simp) rfl rfl opd0 opd1, trivial⟩ (by kernel_rfl) ?_
    clear hAt
    intro a w hAt
    replace hAt : At B h0 (mkG [(1, fRef GPanel.rep x0), (3, fV (Rep.slice GRat.rep) s1.1), (4, fV r_i64 s1.2), (10, fV Rep.bool (cmpI .lss s1.2 (List.length x0.Readings : Int)))]) (mkO [(3, tipE 49 GRat.rep.sz)]) F 41 a w := hAt
    refine then_n ?_
    refine wp_if hAt (by rfl) ?_ ?_
    · intro hb8
      have H := iteT hb8 H
      refine wp_skip ?_
      refine then_n ?_
      refine wp_seq ?_
      refine wp_block ?_
      refine wp_seq ?_
      obtain ⟨v2, hv2, H⟩ := bindE H
      refine reg [⟨fRef (Rep.slice r_i64) x0.Readings, [], [(1, none)], []⟩,
          ⟨fV (Rep.slice r_i64) x0.Readings, [], [(13, some 0)], []⟩,
          ⟨fV r_i64 s1.2, [], [(4, none)], []⟩,
          ⟨fRef r_i64 v2, [], [(14, some 1), (15, some 2)], []⟩,
          ⟨fV r_i64 v2, [], [(16, some 3)], []⟩,
          ⟨fV r_i64 v2, [], [(17, some 4)], []⟩] [1, 3, 4, 5] [3] hAt
          ⟨ok_field GPanel.l4 fo24_4 rfl opd0,
          ok_load ty22 rfl opd0,
          ok_move rfl opd0,
          ok_index ty3 un22 hv2 rfl opd0 opd1,
          ok_load ty3 rfl opd0,
          ok_assign rfl opd0, trivial⟩ (by kernel_rfl) ?_
      clear hAt
      intro a w hAt
      replace hAt : At B h0 (mkG [(1, fRef GPanel.rep x0), (3, fV (Rep.slice GRat.rep) s1.1), (4, fV r_i64 s1.2), (5, fV r_i64 v2)]) (mkO [(3, tipE 49 GRat.rep.sz)]) F 41 a w := hAt
      refine then_n ?_
      refine wp_seq ?_
      refine reg [⟨fV r_i64 v2, [], [(5, none)], []⟩,
          ⟨fV Rep.bool (cmpI .eql v2 0), [], [(18, some 0)], []⟩,
          ⟨fV Rep.bool (cmpI .eql v2 0), [], [(19, some 1)], []⟩,
          ⟨Fact.when ((!(cmpI .eql v2 0)) = true) (fV r_i64 v2), [], [(20, some 2), (5, none)], []⟩,
          ⟨Fact.when ((!(cmpI .eql v2 0)) = true) (fRef r_i64 x0.Built), [], [(20, some 2), (1, none)], []⟩,
          ⟨Fact.when ((!(cmpI .eql v2 0)) = true) (fV r_i64 x0.Built), [], [(20, some 2), (22, some 4)], []⟩,
          ⟨Fact.when ((!(cmpI .eql v2 0)) = true) (fV Rep.bool (cmpI .gtr v2 x0.Built)), [], [(20, some 2), (21, some 3), (23, some 5)], []⟩,
          ⟨fV Rep.bool ((cmpI .eql v2 0) || (cmpI .gtr v2 x0.Built)), [], [(20, some 2), (24, some 6)], []⟩] [1, 3, 4, 5, 25] [3] hAt
          ⟨ok_move rfl opd0,
          ok_cmp (op := .eql) (by simp) rfl rfl opd0 opdI,
          ok_move rfl opd0,
          obl_tf rfl rfl rfl rfl rfl rfl rfl (fun hg => ok_move rfl opd1),
          obl_tf rfl rfl rfl rfl rfl rfl rfl (fun hg => ok_field GPanel.l3 fo24_3 rfl opd1),
          obl_tf rfl rfl rfl rfl rfl rfl rfl (fun hg => ok_load ty3 rfl (opd1.on hg)),
          obl_tf rfl rfl rfl rfl rfl rfl rfl (fun hg => ok_cmp (op := .gtr) (by simp) rfl rfl (opd1.on hg) (opd2.on hg)),
          ok_or rfl opd0 (fun e => (opd1.on (notT e))), trivial⟩ (by kernel_rfl) ?_
      clear hAt
      intro a w hAt
      replace hAt : At B h0 (mkG [(1, fRef GPanel.rep x0), (3, fV (Rep.slice GRat.rep) s1.1), (4, fV r_i64 s1.2), (5, fV r_i64 v2), (25, fV Rep.bool ((cmpI .eql v2 0) || (cmpI .gtr v2 x0.Built)))]) (mkO [(3, tipE 49 GRat.rep.sz)]) F 41 a w := hAt
      refine then_n ?_
      refine wp_if hAt (by rfl) ?_ ?_
      · intro hb7
        have H := iteT hb7 H
        obtain ⟨v3, hv3, H⟩ := bindE H
        obtain ⟨v4, hv4, H⟩ := bindE H
        refine reg [⟨fV (Rep.slice GRat.rep) s1.1, [(3, none), (26, some (tipE 49 GRat.rep.sz))], [(3, none)], [(3, none)]⟩,
            ⟨fV GRat.rep v3, [], [], []⟩,
            ⟨fV (Rep.slice GRat.rep) [v3], [], [(27, some 1)], []⟩,
            ⟨fV (Rep.slice GRat.rep) v4, [(26, none), (29, some (tipE 49 GRat.rep.sz))], [(26, some 0), (28, some 2)], [(26, some 0)]⟩,
            ⟨fV (Rep.slice GRat.rep) v4, [(29, none), (3, some (tipE 49 GRat.rep.sz))], [(29, some 3)], [(29, some 3)]⟩] [1, 3, 4] [3] hAt
            ⟨ok_moveOwn rfl rfl (.inl rfl) opd0,
            ok_call (ok_f_base_W N 0 _ hv3) Try.func37 (by kernel_rfl) (by kernel_rfl) rfl ⟨opdI, trivial⟩,
            ok_buildSlice ty49 un29 rfl rfl (fillC (Lens.arr _ _ 0 (by decide)) rfl opd0 fillN),
            ok_append hv4 el49 un29 rfl rfl rfl opd0 opd1,
            ok_moveOwn rfl rfl (.inr rfl) opd0, trivial⟩ (by kernel_rfl) ?_
        clear hAt
        intro a w hAt
        replace hAt : At B h0 (mkG [(1, fRef GPanel.rep x0), (3, fV (Rep.slice GRat.rep) v4), (4, fV r_i64 s1.2)]) (mkO [(3, tipE 49 GRat.rep.sz)]) F 41 a w := hAt
        refine blk_n ?_
        refine then_n ?_
        refine reg [⟨fV r_i64 s1.2, [], [(4, none)], []⟩,
            ⟨fV r_i64 (IntKind.i64.wrap (s1.2 + 1)), [], [(11, some 0)], []⟩,
            ⟨fV r_i64 (IntKind.i64.wrap (s1.2 + 1)), [], [(12, some 1)], []⟩] [1, 3, 4] [3] hAt
            ⟨ok_move rfl opd0,
            ok_add rfl opd0 opdI,
            ok_assign rfl opd0, trivial⟩ (by kernel_rfl) ?_
        clear hAt
        intro a w hAt
        replace hAt : At B h0 (mkG [(1, fRef GPanel.rep x0), (3, fV (Rep.slice GRat.rep) v4), (4, fV r_i64 (IntKind.i64.wrap (s1.2 + 1)))]) (mkO [(3, tipE 49 GRat.rep.sz)]) F 41 a w := hAt
        cases H
        exact ⟨rfl, hAt.pick [1, 3, 4] [3]⟩
      · intro hb7
        have H := iteF hb7 H
        obtain ⟨v5, hv5, H⟩ := bindE H
        obtain ⟨v6, hv6, H⟩ := bindE H
        refine reg [⟨fV (Rep.slice GRat.rep) s1.1, [(3, none), (30, some (tipE 49 GRat.rep.sz))], [(3, none)], [(3, none)]⟩,
            ⟨fRef r_i64 x0.Built, [], [(1, none)], []⟩,
            ⟨fV r_i64 x0.Built, [], [(31, some 1)], []⟩,
            ⟨fV r_i64 v2, [], [(5, none)], []⟩,
            ⟨fV r_i64 (IntKind.i64.wrap (x0.Built - v2)), [], [(32, some 2), (33, some 3)], []⟩,
            ⟨fRef r_i64 x0.Built, [], [(1, none)], []⟩,
            ⟨fV r_i64 x0.Built, [], [(35, some 5)], []⟩,
            ⟨fV GRat.rep v5, [], [(34, some 4), (36, some 6)], []⟩,
            ⟨fV (Rep.slice GRat.rep) [v5], [], [(37, some 7)], []⟩,
            ⟨fV (Rep.slice GRat.rep) v6, [(30, none), (39, some (tipE 49 GRat.rep.sz))], [(30, some 0), (38, some 8)], [(30, some 0)]⟩,
            ⟨fV (Rep.slice GRat.rep) v6, [(39, none), (3, some (tipE 49 GRat.rep.sz))], [(39, some 9)], [(39, some 9)]⟩] [1, 3, 4] [3] hAt
            ⟨ok_moveOwn rfl rfl (.inl rfl) opd0,
            ok_field GPanel.l3 fo24_3 rfl opd0,
            ok_load ty3 rfl opd0,
            ok_move rfl opd0,
            ok_sub rfl opd0 opd1,
            ok_field GPanel.l3 fo24_3 rfl opd0,
            ok_load ty3 rfl opd0,
            ok_call (ok_f_base_Q N (IntKind.i64.wrap (x0.Built - v2)) x0.Built _ hv5) Try.func72 (by kernel_rfl) (by kernel_rfl) rfl ⟨opd0, ⟨opd1, trivial⟩⟩,
            ok_buildSlice ty49 un29 rfl rfl (fillC (Lens.arr _ _ 0 (by decide)) rfl opd0 fillN),
            ok_append hv6 el49 un29 rfl rfl rfl opd0 opd1,
            ok_moveOwn rfl rfl (.inr rfl) opd0, trivial⟩ (by kernel_rfl) ?_
        clear hAt
        intro a w hAt
        replace hAt : At B h0 (mkG [(1, fRef GPanel.rep x0), (3, fV (Rep.slice GRat.rep) v6), (4, fV r_i64 s1.2)]) (mkO [(3, tipE 49 GRat.rep.sz)]) F 41 a w := hAt
        refine blk_n ?_
        refine then_n ?_
        refine reg [⟨fV r_i64 s1.2, [], [(4, none)], []⟩,
            ⟨fV r_i64 (IntKind.i64.wrap (s1.2 + 1)), [], [(11, some 0)], []⟩,
            ⟨fV r_i64 (IntKind.i64.wrap (s1.2 + 1)), [], [(12, some 1)], []⟩] [1, 3, 4] [3] hAt
            ⟨ok_move rfl opd0,
            ok_add rfl opd0 opdI,
            ok_assign rfl opd0, trivial⟩ (by kernel_rfl) ?_
        clear hAt
        intro a w hAt
        replace hAt : At B h0 (mkG [(1, fRef GPanel.rep x0), (3, fV (Rep.slice GRat.rep) v6), (4, fV r_i64 (IntKind.i64.wrap (s1.2 + 1)))]) (mkO [(3, tipE 49 GRat.rep.sz)]) F 41 a w := hAt
        cases H
        exact ⟨rfl, hAt.pick [1, 3, 4] [3]⟩
    · intro hb8
      have H := iteF hb8 H
      refine wp_exit ?_
      refine then_x ?_
      cases H
      exact ⟨ex_ne, rfl, hAt.pick [3] [3]⟩
  · exact hAt.pick [1, 3, 4] [3]
  · clear hAt
    intro e a w hp
    obtain ⟨rfl, hAt⟩ := hp
    refine blk_eq ?_
    refine then_n ?_
    refine wp_seq ?_
    refine reg [⟨fV (Rep.slice GRat.rep) o9, [], [(3, none)], []⟩,
        ⟨fV (Rep.slice GRat.rep) o9, [], [(40, some 0)], []⟩] [2] [] hAt
        ⟨ok_move rfl opd0,
        ok_assign rfl opd0, trivial⟩ (by kernel_rfl) ?_
    clear hAt
    intro a w hAt
    replace hAt : At B h0 (mkG [(2, fV (Rep.slice GRat.rep) o9)]) (mkO []) F 41 a w := hAt
    refine then_n ?_
    refine wp_ret ?_
    cases H
    exact ret1 rfl (rv_tmp rfl rfl) hAt
theorem ok_f_base_SameRats (N : Nat) (x0 : (List GRat)) (x1 : (List GRat)) (r : Bool) (H : f_base_SameRats N x0 x1 = some r) : FnOk Try.prog 21 [fV (Rep.slice GRat.rep) x0, fV (Rep.slice GRat.rep) x1] (fV Rep.bool r) := by
  unfold f_base_SameRats at H
  refine fn_enter Try.func21 rfl rfl (by kernel_rfl) ?_
  intro κ B h0 F a w hAt
  refine wp_seq ?_
  refine reg [⟨fV Rep.bool false, [], [], []⟩] [0, 1] [] hAt
      ⟨ok_assign rfl opdB, trivial⟩ (by kernel_rfl) ?_
  clear hAt
  intro a w hAt
  replace hAt : At B h0 (mkG [(0, fV (Rep.slice GRat.rep) x0), (1, fV (Rep.slice GRat.rep) x1)]) (mkO []) F 27 a w := hAt
  refine then_n ?_
  refine wp_seq ?_
  refine wp_seq ?_
  refine reg [⟨fV (Rep.slice GRat.rep) x0, [], [(0, none)], []⟩,
      ⟨fV r_i64 (List.length x0 : Int), [], [(6, some 0)], []⟩,
      ⟨fV (Rep.slice GRat.rep) x1, [], [(1, none)], []⟩,
      ⟨fV r_i64 (List.length x1 : Int), [], [(8, some 2)], []⟩,
      ⟨fV Rep.bool (cmpI .neq (List.length x0 : Int) (List.length x1 : Int)), [], [(7, some 1), (9, some 3)], []⟩] [0, 1, 10] [] hAt
      ⟨ok_move rfl opd0,
      ok_len un29 rfl opd0,
      ok_move rfl opd0,
      ok_len un29 rfl opd0,
      ok_cmp (op := .neq) (by simp) rfl rfl opd0 opd1, trivial⟩ (by kernel_rfl) ?_
  clear hAt
  intro a w hAt
  replace hAt : At B h0 (mkG [(0, fV (Rep.slice GRat.rep) x0), (1, fV (Rep.slice GRat.rep) x1), (10, fV Rep.bool (cmpI .neq (List.length x0 : Int) (List.length x1 : Int)))]) (mkO []) F 27 a w := hAt
  refine then_n ?_
  refine wp_if hAt (by rfl) ?_ ?_
  · intro hb12
    have H := iteT hb12 H
    refine wp_seq ?_
    refine reg [⟨fV Rep.bool false, [], [], []⟩] [4] [] hAt
        ⟨ok_assign rfl opdB, trivial⟩ (by kernel_rfl) ?_
    clear hAt
    intro a w hAt
    replace hAt : At B h0 (mkG [(4, fV Rep.bool false)]) (mkO []) F 27 a w := hAt
    refine then_n ?_
    refine wp_ret ?_
    refine then_r ?_
    cases H
    exact ret1 rfl (rv_tmp rfl rfl) hAt
  · intro hb12
    have H := iteF hb12 H
    refine wp_skip ?_
    refine then_n ?_
    refine wp_seq ?_
    refine wp_seq ?_
    refine reg [⟨fV r_i64 0, [], [], []⟩] [0, 1, 5] [] hAt
        ⟨ok_assign rfl opdI, trivial⟩ (by kernel_rfl) ?_
    clear hAt
    intro a w hAt
    replace hAt : At B h0 (mkG [(0, fV (Rep.slice GRat.rep) x0), (1, fV (Rep.slice GRat.rep) x1), (5, fV r_i64 0)]) (mkO []) F 27 a w := hAt
    refine then_n ?_
    refine wp_block ?_
    obtain ⟨o7, hl8, H⟩ := bindE H
    refine wp_mono (wp_loopN (f := f_base_SameRats_L1 N x0 x1) (fun (s1 : Int) a w => At B h0 (mkG [(0, fV (Rep.slice GRat.rep) x0), (1, fV (Rep.slice GRat.rep) x1), (5, fV r_i64 s1)]) (mkO []) F 27 a w) (fun o e a w => (Sum.elim (fun v => e = .exit 0 ∧ At B h0 (mkG []) (mkO []) F 27 a w) (fun v => e = .ret ∧ At B h0 (mkG [(4, fV Rep.bool v)]) (mkO []) F 27 a w)) o) ?_ N 0 o7 _ _ hl8 ?_) ?_
    · clear H hAt hl8
      intro s1 r11 a w H hAt
      unfold f_base_SameRats_L1 at H
      refine wp_seq ?_
      refine wp_seq ?_
      refine reg [⟨fV r_i64 s1, [], [(5, none)], []⟩,
          ⟨fV (Rep.slice GRat.rep) x0, [], [(0, none)], []⟩,
          ⟨fV r_i64 (List.length x0 : Int), [], [(12, some 1)], []⟩,
          ⟨fV Rep.bool (cmpI .lss s1 (List.length x0 : Int)), [], [(11, some 0), (13, some 2)], []⟩] [0, 1, 5, 14] [] hAt
          ⟨ok_move rfl opd0,
          ok_move rfl opd0,
          ok_len un29 rfl opd0,
          ok_cmp (op := .lss) (by simp) rfl rfl opd0 opd1, trivial⟩ (by kernel_rfl) ?_
      clear hAt
      intro a w hAt
      replace hAt : At B h0 (mkG [(0, fV (Rep.slice GRat.rep) x0), (1, fV (Rep.slice GRat.rep) x1), (5, fV r_i64 s1), (14, fV Rep.bool (cmpI .lss s1 (List.length x0 : Int)))]) (mkO []) F 27 a w := hAt
      refine then_n ?_
      refine wp_if hAt (by rfl) ?_ ?_
      · intro hb6
        have H := iteT hb6 H
        refine wp_skip ?_
        refine then_n ?_
        refine wp_seq ?_
        refine wp_block ?_
        refine wp_seq ?_
        obtain ⟨v2, hv2, H⟩ := bindE H
        obtain ⟨v3, hv3, H⟩ := bindE H
        obtain ⟨v4, hv4, H⟩ := bindE H
        refine regd [⟨fV (Rep.slice GRat.rep) x0, [], [(0, none)], []⟩,
            ⟨fV r_i64 s1, [], [(5, none)], []⟩,
            ⟨fRef GRat.rep v2, [], [(17, some 0), (18, some 1)], []⟩,
            ⟨fV GRat.rep v2, [], [(19, some 2)], []⟩,
            ⟨fV (Rep.slice GRat.rep) x1, [], [(1, none)], []⟩,
            ⟨fV r_i64 s1, [], [(5, none)], []⟩,
            ⟨fRef GRat.rep v3, [], [(21, some 4), (22, some 5)], []⟩,
            ⟨fV GRat.rep v3, [], [(23, some 6)], []⟩,
            ⟨fV Rep.bool v4, [], [(20, some 3), (24, some 7)], []⟩,
            ⟨fV Rep.bool (!v4), [], [(25, some 8)], []⟩] [0, 1, 2, 3, 4, 5, 6, 7, 8, 9] [0, 1, 2, 3, 4, 5, 6, 7, 8, 9] [0, 1, 5, 26] [] hAt
            ⟨ok_move rfl opd0,
            ok_move rfl opd0,
            ok_index ty49 un29 hv2 rfl opd0 opd1,
            ok_load ty49 rfl opd0,
            ok_move rfl opd0,
            ok_move rfl opd0,
            ok_index ty49 un29 hv3 rfl opd0 opd1,
            ok_load ty49 rfl opd0,
            ok_call (ok_f_base_SameRat N v2 v3 _ hv4) Try.func30 (by kernel_rfl) (by kernel_rfl) rfl ⟨opd0, ⟨opd1, trivial⟩⟩,
            ok_not rfl opd0, trivial⟩ (by kernel_rfl) ?_
        clear hAt
        intro a w hAt
        replace hAt : At B h0 (mkG [(0, fV (Rep.slice GRat.rep) x0), (1, fV (Rep.slice GRat.rep) x1), (5, fV r_i64 s1), (26, fV Rep.bool (!v4))]) (mkO []) F 27 a w := hAt
        refine then_n ?_
        refine wp_if hAt (by rfl) ?_ ?_
        · intro hb5
          have H := iteT hb5 H
          refine wp_seq ?_
          refine reg [⟨fV Rep.bool false, [], [], []⟩] [4] [] hAt
              ⟨ok_assign rfl opdB, trivial⟩ (by kernel_rfl) ?_
          clear hAt
          intro a w hAt
          replace hAt : At B h0 (mkG [(4, fV Rep.bool false)]) (mkO []) F 27 a w := hAt
          refine then_n ?_
          refine wp_ret ?_
          refine blk_r ?_
          refine then_r ?_
          cases H
          exact ⟨ret_ne, rfl, hAt.pick [4] []⟩
        · intro hb5
          have H := iteF hb5 H
          refine wp_skip ?_
          refine blk_n ?_
          refine then_n ?_
          refine reg [⟨fV r_i64 s1, [], [(5, none)], []⟩,
              ⟨fV r_i64 (IntKind.i64.wrap (s1 + 1)), [], [(15, some 0)], []⟩,
              ⟨fV r_i64 (IntKind.i64.wrap (s1 + 1)), [], [(16, some 1)], []⟩] [0, 1, 5] [] hAt
              ⟨ok_move rfl opd0,
              ok_add rfl opd0 opdI,
              ok_assign rfl opd0, trivial⟩ (by kernel_rfl) ?_
          clear hAt
          intro a w hAt
          replace hAt : At B h0 (mkG [(0, fV (Rep.slice GRat.rep) x0), (1, fV (Rep.slice GRat.rep) x1), (5, fV r_i64 (IntKind.i64.wrap (s1 + 1)))]) (mkO []) F 27 a w := hAt
          cases H
          exact ⟨rfl, hAt.pick [0, 1, 5] []⟩
      · intro hb6
        have H := iteF hb6 H
        refine wp_exit ?_
        refine then_x ?_
        cases H
        exact ⟨ex_ne, rfl, hAt.pick [] []⟩
    · exact hAt.pick [0, 1, 5] []
    · clear hAt
      intro e a w hp
      cases o7 with
      | inl l9 =>
        rw [Sum.elim_inl] at H
        obtain ⟨rfl, hAt⟩ := hp
        refine blk_eq ?_
        refine then_n ?_
        refine wp_seq ?_
        refine reg [⟨fV Rep.bool true, [], [], []⟩] [4] [] hAt
            ⟨ok_assign rfl opdB, trivial⟩ (by kernel_rfl) ?_
        clear hAt
        intro a w hAt
        replace hAt : At B h0 (mkG [(4, fV Rep.bool true)]) (mkO []) F 27 a w := hAt
        refine then_n ?_
        refine wp_ret ?_
        cases H
        exact ret1 rfl (rv_tmp rfl rfl) hAt
      | inr r10 =>
        rw [Sum.elim_inr] at H
        replace hp := hp
        obtain ⟨rfl, hAt⟩ := hp
        refine blk_r ?_
        refine then_r ?_
        cases H
        exact ret1 rfl (rv_tmp rfl rfl) hAt
theorem ok_f_ref09_Grade (N : Nat) (x0 : GPanel) (x1 : GRule) (r : (List Int)) (H : f_ref09_Grade N x0 x1 = some r) : FnOk Try.prog 24 [fV GPanel.rep x0, fV GRule.rep x1] (fV (Rep.slice r_i64) r) := by
  unfold f_ref09_Grade at H
  refine fn_enter Try.func24 rfl rfl (by kernel_rfl) ?_
  intro κ B h0 F a w hAt
  refine wp_seq ?_
  refine reg [⟨fRef GPanel.rep x0, [], [(0, none)], []⟩,
      ⟨fRef GRule.rep x1, [], [(1, none)], []⟩,
      ⟨fV (Rep.slice r_i64) [], [(4, some (tipE 3 r_i64.sz))], [], []⟩] [2, 3] [] hAt
      ⟨ok_box rfl opd0,
      ok_box rfl opd0,
      ok_nilTip rfl (.inl rfl), trivial⟩ (by kernel_rfl) ?_
  clear hAt
  intro a w hAt
  replace hAt : At B h0 (mkG [(2, fRef GPanel.rep x0), (3, fRef GRule.rep x1)]) (mkO []) F 61 a w := hAt
  refine then_n ?_
  refine wp_seq ?_
  refine reg [⟨fV (Rep.slice r_i64) [], [(5, some (tipE 3 r_i64.sz))], [], []⟩] [2, 3, 5] [5] hAt
      ⟨ok_nilTip rfl (.inl rfl), trivial⟩ (by kernel_rfl) ?_
  clear hAt
  intro a w hAt
  replace hAt : At B h0 (mkG [(2, fRef GPanel.rep x0), (3, fRef GRule.rep x1), (5, fV (Rep.slice r_i64) [])]) (mkO [(5, tipE 3 r_i64.sz)]) F 61 a w := hAt
  refine then_n ?_
  refine wp_seq ?_
  refine wp_seq ?_
  refine reg [⟨fV r_i64 0, [], [], []⟩] [2, 3, 5, 6] [5] hAt
      ⟨ok_assign rfl opdI, trivial⟩ (by kernel_rfl) ?_
  clear hAt
  intro a w hAt
  replace hAt : At B h0 (mkG [(2, fRef GPanel.rep x0), (3, fRef GRule.rep x1), (5, fV (Rep.slice r_i64) []), (6, fV r_i64 0)]) (mkO [(5, tipE 3 r_i64.sz)]) F 61 a w := hAt
  refine then_n ?_
  refine wp_block ?_
  obtain ⟨o12, hl13, H⟩ := bindE H
  refine wp_mono (wp_loopN (f := f_ref09_Grade_L1 N x0 x1) (fun (s1 : ((List Int) × Int)) a w => At B h0 (mkG [(2, fRef GPanel.rep x0), (3, fRef GRule.rep x1), (5, fV (Rep.slice r_i64) s1.1), (6, fV r_i64 s1.2)]) (mkO [(5, tipE 3 r_i64.sz)]) F 61 a w) (fun o e a w => (fun v => e = .exit 0 ∧ At B h0 (mkG [(5, fV (Rep.slice r_i64) v)]) (mkO [(5, tipE 3 r_i64.sz)]) F 61 a w) o) ?_ N ([], 0) o12 _ _ hl13 ?_) ?_
  · clear H hAt hl13
    intro s1 r14 a w H hAt
    unfold f_ref09_Grade_L1 at H
    refine wp_seq ?_
    refine wp_seq ?_
    refine reg [⟨fV r_i64 s1.2, [], [(6, none)], []⟩,
        ⟨fRef (Rep.slice r_i64) x0.Readings, [], [(2, none)], []⟩,
        ⟨fV (Rep.slice r_i64) x0.Readings, [], [(9, some 1)], []⟩,
        ⟨fV r_i64 (List.length x0.Readings : Int), [], [(10, some 2)], []⟩,
        ⟨fV Rep.bool (cmpI .lss s1.2 (List.length x0.Readings : Int)), [], [(8, some 0), (11, some 3)], []⟩] [2, 3, 5, 6, 12] [5] hAt
        ⟨ok_move rfl opd0,
        ok_field GPanel.l4 fo24_4 rfl opd0,
        ok_load ty22 rfl opd0,
        ok_len un22 rfl opd0,
        ok_cmp (op := .lss) (by simp) rfl rfl opd0 opd1, trivial⟩ (by kernel_rfl) ?_
    clear hAt
    intro a w hAt
    replace hAt : At B h0 (mkG [(2, fRef GPanel.rep x0), (3, fRef GRule.rep x1), (5, fV (Rep.slice r_i64) s1.1), (6, fV r_i64 s1.2), (12, fV Rep.bool (cmpI .lss s1.2 (List.length x0.Readings : Int)))]) (mkO [(5, tipE 3 r_i64.sz)]) F 61 a w := hAt
    refine then_n ?_
    refine wp_if hAt (by rfl) ?_ ?_
    · intro hb11
      have H := iteT hb11 H
      refine wp_skip ?_
      refine then_n ?_
      refine wp_seq ?_
      refine wp_block ?_
      refine wp_seq ?_
      obtain ⟨v2, hv2, H⟩ := bindE H
      refine regd [⟨fRef r_i64 x0.Built, [], [(2, none)], []⟩,
          ⟨fV r_i64 x0.Built, [], [(15, some 0)], []⟩,
          ⟨fRef (Rep.slice r_i64) x0.Readings, [], [(2, none)], []⟩,
          ⟨fV (Rep.slice r_i64) x0.Readings, [], [(17, some 2)], []⟩,
          ⟨fV r_i64 s1.2, [], [(6, none)], []⟩,
          ⟨fRef r_i64 v2, [], [(18, some 3), (19, some 4)], []⟩,
          ⟨fV r_i64 v2, [], [(20, some 5)], []⟩,
          ⟨fV r_i64 (IntKind.i64.wrap (x0.Built - v2)), [], [(16, some 1), (21, some 6)], []⟩,
          ⟨fV r_i64 (max (IntKind.i64.wrap (x0.Built - v2)) 0), [], [(22, some 7)], []⟩,
          ⟨fV r_i64 (IntKind.i64.wrap (1000 * (max (IntKind.i64.wrap (x0.Built - v2)) 0))), [], [(23, some 8)], []⟩,
          ⟨fV r_i64 (IntKind.i64.wrap (1000 * (max (IntKind.i64.wrap (x0.Built - v2)) 0))), [], [(24, some 9)], []⟩] [0, 1, 2, 3, 4, 5, 6, 7, 8, 9, 10] [0, 1, 2, 3, 4, 5, 6, 7, 8, 9, 10] [2, 3, 5, 6, 7] [5] hAt
          ⟨ok_field GPanel.l3 fo24_3 rfl opd0,
          ok_load ty3 rfl opd0,
          ok_field GPanel.l4 fo24_4 rfl opd0,
          ok_load ty22 rfl opd0,
          ok_move rfl opd0,
          ok_index ty3 un22 hv2 rfl opd0 opd1,
          ok_load ty3 rfl opd0,
          ok_sub rfl opd0 opd1,
          ok_max rfl opd0 opdI,
          ok_mul rfl opdI opd0,
          ok_assign rfl opd0, trivial⟩ (by kernel_rfl) ?_
      clear hAt
      intro a w hAt
      replace hAt : At B h0 (mkG [(2, fRef GPanel.rep x0), (3, fRef GRule.rep x1), (5, fV (Rep.slice r_i64) s1.1), (6, fV r_i64 s1.2), (7, fV r_i64 (IntKind.i64.wrap (1000 * (max (IntKind.i64.wrap (x0.Built - v2)) 0))))]) (mkO [(5, tipE 3 r_i64.sz)]) F 61 a w := hAt
      refine then_n ?_
      refine wp_block ?_
      refine wp_seq ?_
      obtain ⟨v3, hv3, H⟩ := bindE H
      refine reg [⟨fRef (Rep.slice r_i64) x0.Readings, [], [(2, none)], []⟩,
          ⟨fV (Rep.slice r_i64) x0.Readings, [], [(29, some 0)], []⟩,
          ⟨fV r_i64 s1.2, [], [(6, none)], []⟩,
          ⟨fRef r_i64 v3, [], [(30, some 1), (31, some 2)], []⟩,
          ⟨fV r_i64 v3, [], [(32, some 3)], []⟩,
          ⟨fV Rep.bool (cmpI .eql v3 0), [], [(33, some 4)], []⟩,
          ⟨fV Rep.bool (cmpI .eql v3 0), [], [(34, some 5)], []⟩] [2, 3, 5, 6, 7, 28] [5] hAt
          ⟨ok_field GPanel.l4 fo24_4 rfl opd0,
          ok_load ty22 rfl opd0,
          ok_move rfl opd0,
          ok_index ty3 un22 hv3 rfl opd0 opd1,
          ok_load ty3 rfl opd0,
          ok_cmp (op := .eql) (by simp) rfl rfl opd0 opdI,
          ok_assign rfl opd0, trivial⟩ (by kernel_rfl) ?_
      clear hAt
      intro a w hAt
      replace hAt : At B h0 (mkG [(2, fRef GPanel.rep x0), (3, fRef GRule.rep x1), (5, fV (Rep.slice r_i64) s1.1), (6, fV r_i64 s1.2), (7, fV r_i64 (IntKind.i64.wrap (1000 * (max (IntKind.i64.wrap (x0.Built - v2)) 0)))), (28, fV Rep.bool (cmpI .eql v3 0))]) (mkO [(5, tipE 3 r_i64.sz)]) F 61 a w := hAt
      refine then_n ?_
      refine wp_if hAt (by rfl) ?_ ?_
      · intro hb10
        have H := iteT hb10 H
        obtain ⟨v4, hv4, H⟩ := bindE H
        refine reg [⟨fV (Rep.slice r_i64) s1.1, [(5, none), (35, some (tipE 3 r_i64.sz))], [(5, none)], [(5, none)]⟩,
            ⟨fV (Rep.slice r_i64) [0], [], [], []⟩,
            ⟨fV (Rep.slice r_i64) v4, [(35, none), (37, some (tipE 3 r_i64.sz))], [(35, some 0), (36, some 1)], [(35, some 0)]⟩,
            ⟨fV (Rep.slice r_i64) v4, [(37, none), (5, some (tipE 3 r_i64.sz))], [(37, some 2)], [(37, some 2)]⟩] [2, 3, 5, 6] [5] hAt
            ⟨ok_moveOwn rfl rfl (.inl rfl) opd0,
            ok_buildSlice ty3 un22 rfl rfl (fillC (Lens.arr _ _ 0 (by decide)) rfl opdI fillN),
            ok_append hv4 el3 un22 rfl rfl rfl opd0 opd1,
            ok_moveOwn rfl rfl (.inr rfl) opd0, trivial⟩ (by kernel_rfl) ?_
        clear hAt
        intro a w hAt
        replace hAt : At B h0 (mkG [(2, fRef GPanel.rep x0), (3, fRef GRule.rep x1), (5, fV (Rep.slice r_i64) v4), (6, fV r_i64 s1.2)]) (mkO [(5, tipE 3 r_i64.sz)]) F 61 a w := hAt
        refine blk_n ?_
        refine blk_n ?_
        refine then_n ?_
        refine reg [⟨fV r_i64 s1.2, [], [(6, none)], []⟩,
            ⟨fV r_i64 (IntKind.i64.wrap (s1.2 + 1)), [], [(13, some 0)], []⟩,
            ⟨fV r_i64 (IntKind.i64.wrap (s1.2 + 1)), [], [(14, some 1)], []⟩] [2, 3, 5, 6] [5] hAt
            ⟨ok_move rfl opd0,
            ok_add rfl opd0 opdI,
            ok_assign rfl opd0, trivial⟩ (by kernel_rfl) ?_
        clear hAt
        intro a w hAt
        replace hAt : At B h0 (mkG [(2, fRef GPanel.rep x0), (3, fRef GRule.rep x1), (5, fV (Rep.slice r_i64) v4), (6, fV r_i64 (IntKind.i64.wrap (s1.2 + 1)))]) (mkO [(5, tipE 3 r_i64.sz)]) F 61 a w := hAt
        cases H
        exact ⟨rfl, hAt.pick [2, 3, 5, 6] [5]⟩
      · intro hb10
        have H := iteF hb10 H
        refine wp_seq ?_
        refine reg [⟨fV r_i64 (IntKind.i64.wrap (1000 * (max (IntKind.i64.wrap (x0.Built - v2)) 0))), [], [(7, none)], []⟩,
            ⟨fRef r_i64 x1.Renew, [], [(3, none)], []⟩,
            ⟨fV r_i64 x1.Renew, [], [(40, some 1)], []⟩,
            ⟨fRef r_i64 x0.Built, [], [(2, none)], []⟩,
            ⟨fV r_i64 x0.Built, [], [(42, some 3)], []⟩,
            ⟨fV r_i64 (IntKind.i64.wrap (x1.Renew * x0.Built)), [], [(41, some 2), (43, some 4)], []⟩,
            ⟨fV Rep.bool (cmpI .geq (IntKind.i64.wrap (1000 * (max (IntKind.i64.wrap (x0.Built - v2)) 0))) (IntKind.i64.wrap (x1.Renew * x0.Built))), [], [(39, some 0), (44, some 5)], []⟩,
            ⟨fV Rep.bool (cmpI .geq (IntKind.i64.wrap (1000 * (max (IntKind.i64.wrap (x0.Built - v2)) 0))) (IntKind.i64.wrap (x1.Renew * x0.Built))), [], [(45, some 6)], []⟩] [2, 3, 5, 6, 7, 38] [5] hAt
            ⟨ok_move rfl opd0,
            ok_field GRule.l1 fo26_1 rfl opd0,
            ok_load ty3 rfl opd0,
            ok_field GPanel.l3 fo24_3 rfl opd0,
            ok_load ty3 rfl opd0,
            ok_mul rfl opd0 opd1,
            ok_cmp (op := .geq) (by simp) rfl rfl opd0 opd1,
            ok_assign rfl opd0, trivial⟩ (by kernel_rfl) ?_
        clear hAt
        intro a w hAt
        replace hAt : At B h0 (mkG [(2, fRef GPanel.rep x0), (3, fRef GRule.rep x1), (5, fV (Rep.slice r_i64) s1.1), (6, fV r_i64 s1.2), (7, fV r_i64 (IntKind.i64.wrap (1000 * (max (IntKind.i64.wrap (x0.Built - v2)) 0)))), (38, fV Rep.bool (cmpI .geq (IntKind.i64.wrap (1000 * (max (IntKind.i64.wrap (x0.Built - v2)) 0))) (IntKind.i64.wrap (x1.Renew * x0.Built))))]) (mkO [(5, tipE 3 r_i64.sz)]) F 61 a w := hAt
        refine then_n ?_
        refine wp_if hAt (by rfl) ?_ ?_
        · intro hb9
          have H := iteT hb9 H
          obtain ⟨v5, hv5, H⟩ := bindE H
          refine reg [⟨fV (Rep.slice r_i64) s1.1, [(5, none), (46, some (tipE 3 r_i64.sz))], [(5, none)], [(5, none)]⟩,
              ⟨fV (Rep.slice r_i64) [3], [], [], []⟩,
              ⟨fV (Rep.slice r_i64) v5, [(46, none), (48, some (tipE 3 r_i64.sz))], [(46, some 0), (47, some 1)], [(46, some 0)]⟩,
              ⟨fV (Rep.slice r_i64) v5, [(48, none), (5, some (tipE 3 r_i64.sz))], [(48, some 2)], [(48, some 2)]⟩] [2, 3, 5, 6] [5] hAt
              ⟨ok_moveOwn rfl rfl (.inl rfl) opd0,
              ok_buildSlice ty3 un22 rfl rfl (fillC (Lens.arr _ _ 0 (by decide)) rfl opdI fillN),
              ok_append hv5 el3 un22 rfl rfl rfl opd0 opd1,
              ok_moveOwn rfl rfl (.inr rfl) opd0, trivial⟩ (by kernel_rfl) ?_
          clear hAt
          intro a w hAt
          replace hAt : At B h0 (mkG [(2, fRef GPanel.rep x0), (3, fRef GRule.rep x1), (5, fV (Rep.slice r_i64) v5), (6, fV r_i64 s1.2)]) (mkO [(5, tipE 3 r_i64.sz)]) F 61 a w := hAt
          refine blk_n ?_
          refine blk_n ?_
          refine then_n ?_
          refine reg [⟨fV r_i64 s1.2, [], [(6, none)], []⟩,
              ⟨fV r_i64 (IntKind.i64.wrap (s1.2 + 1)), [], [(13, some 0)], []⟩,
              ⟨fV r_i64 (IntKind.i64.wrap (s1.2 + 1)), [], [(14, some 1)], []⟩] [2, 3, 5, 6] [5] hAt
              ⟨ok_move rfl opd0,
              ok_add rfl opd0 opdI,
              ok_assign rfl opd0, trivial⟩ (by kernel_rfl) ?_
          clear hAt
          intro a w hAt
          replace hAt : At B h0 (mkG [(2, fRef GPanel.rep x0), (3, fRef GRule.rep x1), (5, fV (Rep.slice r_i64) v5), (6, fV r_i64 (IntKind.i64.wrap (s1.2 + 1)))]) (mkO [(5, tipE 3 r_i64.sz)]) F 61 a w := hAt
          cases H
          exact ⟨rfl, hAt.pick [2, 3, 5, 6] [5]⟩
        · intro hb9
          have H := iteF hb9 H
          refine wp_seq ?_
          refine reg [⟨fV r_i64 (IntKind.i64.wrap (1000 * (max (IntKind.i64.wrap (x0.Built - v2)) 0))), [], [(7, none)], []⟩,
              ⟨fRef r_i64 x1.Substantial, [], [(3, none)], []⟩,
              ⟨fV r_i64 x1.Substantial, [], [(51, some 1)], []⟩,
              ⟨fRef r_i64 x0.Built, [], [(2, none)], []⟩,
              ⟨fV r_i64 x0.Built, [], [(53, some 3)], []⟩,
              ⟨fV r_i64 (IntKind.i64.wrap (x1.Substantial * x0.Built)), [], [(52, some 2), (54, some 4)], []⟩,
              ⟨fV Rep.bool (cmpI .geq (IntKind.i64.wrap (1000 * (max (IntKind.i64.wrap (x0.Built - v2)) 0))) (IntKind.i64.wrap (x1.Substantial * x0.Built))), [], [(50, some 0), (55, some 5)], []⟩,
              ⟨fV Rep.bool (cmpI .geq (IntKind.i64.wrap (1000 * (max (IntKind.i64.wrap (x0.Built - v2)) 0))) (IntKind.i64.wrap (x1.Substantial * x0.Built))), [], [(56, some 6)], []⟩] [2, 3, 5, 6, 49] [5] hAt
              ⟨ok_move rfl opd0,
              ok_field GRule.l0 fo26_0 rfl opd0,
              ok_load ty3 rfl opd0,
              ok_field GPanel.l3 fo24_3 rfl opd0,
              ok_load ty3 rfl opd0,
              ok_mul rfl opd0 opd1,
              ok_cmp (op := .geq) (by simp) rfl rfl opd0 opd1,
              ok_assign rfl opd0, trivial⟩ (by kernel_rfl) ?_
          clear hAt
          intro a w hAt
          replace hAt : At B h0 (mkG [(2, fRef GPanel.rep x0), (3, fRef GRule.rep x1), (5, fV (Rep.slice r_i64) s1.1), (6, fV r_i64 s1.2), (49, fV Rep.bool (cmpI .geq (IntKind.i64.wrap (1000 * (max (IntKind.i64.wrap (x0.Built - v2)) 0))) (IntKind.i64.wrap (x1.Substantial * x0.Built))))]) (mkO [(5, tipE 3 r_i64.sz)]) F 61 a w := hAt
          refine then_n ?_
          refine wp_if hAt (by rfl) ?_ ?_
          · intro hb8
            have H := iteT hb8 H
            obtain ⟨v6, hv6, H⟩ := bindE H
            refine reg [⟨fV (Rep.slice r_i64) s1.1, [(5, none), (57, some (tipE 3 r_i64.sz))], [(5, none)], [(5, none)]⟩,
                ⟨fV (Rep.slice r_i64) [2], [], [], []⟩,
                ⟨fV (Rep.slice r_i64) v6, [(57, none), (59, some (tipE 3 r_i64.sz))], [(57, some 0), (58, some 1)], [(57, some 0)]⟩,
                ⟨fV (Rep.slice r_i64) v6, [(59, none), (5, some (tipE 3 r_i64.sz))], [(59, some 2)], [(59, some 2)]⟩] [2, 3, 5, 6] [5] hAt
                ⟨ok_moveOwn rfl rfl (.inl rfl) opd0,
                ok_buildSlice ty3 un22 rfl rfl (fillC (Lens.arr _ _ 0 (by decide)) rfl opdI fillN),
                ok_append hv6 el3 un22 rfl rfl rfl opd0 opd1,
                ok_moveOwn rfl rfl (.inr rfl) opd0, trivial⟩ (by kernel_rfl) ?_
            clear hAt
            intro a w hAt
            replace hAt : At B h0 (mkG [(2, fRef GPanel.rep x0), (3, fRef GRule.rep x1), (5, fV (Rep.slice r_i64) v6), (6, fV r_i64 s1.2)]) (mkO [(5, tipE 3 r_i64.sz)]) F 61 a w := hAt
            refine blk_n ?_
            refine blk_n ?_
            refine then_n ?_
            refine reg [⟨fV r_i64 s1.2, [], [(6, none)], []⟩,
                ⟨fV r_i64 (IntKind.i64.wrap (s1.2 + 1)), [], [(13, some 0)], []⟩,
                ⟨fV r_i64 (IntKind.i64.wrap (s1.2 + 1)), [], [(14, some 1)], []⟩] [2, 3, 5, 6] [5] hAt
                ⟨ok_move rfl opd0,
                ok_add rfl opd0 opdI,
                ok_assign rfl opd0, trivial⟩ (by kernel_rfl) ?_
            clear hAt
            intro a w hAt
            replace hAt : At B h0 (mkG [(2, fRef GPanel.rep x0), (3, fRef GRule.rep x1), (5, fV (Rep.slice r_i64) v6), (6, fV r_i64 (IntKind.i64.wrap (s1.2 + 1)))]) (mkO [(5, tipE 3 r_i64.sz)]) F 61 a w := hAt
            cases H
            exact ⟨rfl, hAt.pick [2, 3, 5, 6] [5]⟩
          · intro hb8
            have H := iteF hb8 H
            obtain ⟨v7, hv7, H⟩ := bindE H
            refine reg [⟨fV (Rep.slice r_i64) s1.1, [(5, none), (25, some (tipE 3 r_i64.sz))], [(5, none)], [(5, none)]⟩,
                ⟨fV (Rep.slice r_i64) [1], [], [], []⟩,
                ⟨fV (Rep.slice r_i64) v7, [(25, none), (27, some (tipE 3 r_i64.sz))], [(25, some 0), (26, some 1)], [(25, some 0)]⟩,
                ⟨fV (Rep.slice r_i64) v7, [(27, none), (5, some (tipE 3 r_i64.sz))], [(27, some 2)], [(27, some 2)]⟩] [2, 3, 5, 6] [5] hAt
                ⟨ok_moveOwn rfl rfl (.inl rfl) opd0,
                ok_buildSlice ty3 un22 rfl rfl (fillC (Lens.arr _ _ 0 (by decide)) rfl opdI fillN),
                ok_append hv7 el3 un22 rfl rfl rfl opd0 opd1,
                ok_moveOwn rfl rfl (.inr rfl) opd0, trivial⟩ (by kernel_rfl) ?_
            clear hAt
            intro a w hAt
            replace hAt : At B h0 (mkG [(2, fRef GPanel.rep x0), (3, fRef GRule.rep x1), (5, fV (Rep.slice r_i64) v7), (6, fV r_i64 s1.2)]) (mkO [(5, tipE 3 r_i64.sz)]) F 61 a w := hAt
            refine blk_n ?_
            refine blk_n ?_
            refine then_n ?_
            refine reg [⟨fV r_i64 s1.2, [], [(6, none)], []⟩,
                ⟨fV r_i64 (IntKind.i64.wrap (s1.2 + 1)), [], [(13, some 0)], []⟩,
                ⟨fV r_i64 (IntKind.i64.wrap (s1.2 + 1)), [], [(14, some 1)], []⟩] [2, 3, 5, 6] [5] hAt
                ⟨ok_move rfl opd0,
                ok_add rfl opd0 opdI,
                ok_assign rfl opd0, trivial⟩ (by kernel_rfl) ?_
            clear hAt
            intro a w hAt
            replace hAt : At B h0 (mkG [(2, fRef GPanel.rep x0), (3, fRef GRule.rep x1), (5, fV (Rep.slice r_i64) v7), (6, fV r_i64 (IntKind.i64.wrap (s1.2 + 1)))]) (mkO [(5, tipE 3 r_i64.sz)]) F 61 a w := hAt
            cases H
            exact ⟨rfl, hAt.pick [2, 3, 5, 6] [5]⟩
    · intro hb11
      have H := iteF hb11 H
      refine wp_exit ?_
      refine then_x ?_
      cases H
      exact ⟨ex_ne, rfl, hAt.pick [5] [5]⟩
  · exact hAt.pick [2, 3, 5, 6] [5]
  · clear hAt
    intro e a w hp
    obtain ⟨rfl, hAt⟩ := hp
    refine blk_eq ?_
    refine then_n ?_
    refine wp_seq ?_
    refine reg [⟨fV (Rep.slice r_i64) o12, [], [(5, none)], []⟩,
        ⟨fV (Rep.slice r_i64) o12, [], [(60, some 0)], []⟩] [4] [] hAt
        ⟨ok_move rfl opd0,
        ok_assign rfl opd0, trivial⟩ (by kernel_rfl) ?_
    clear hAt
    intro a w hAt
    replace hAt : At B h0 (mkG [(4, fV (Rep.slice r_i64) o12)]) (mkO []) F 61 a w := hAt
    refine then_n ?_
    refine wp_ret ?_
    cases H
    exact ret1 rfl (rv_tmp rfl rfl) hAt
theorem ok_f_law09_SurveyPanels (N : Nat) (x0 : GPanel) (x1 : GRule) (r : Bool) (H : f_law09_SurveyPanels N x0 x1 = some r) : FnOk Try.prog 3 [fV GPanel.rep x0, fV GRule.rep x1] (fV Rep.bool r) := by
  unfold f_law09_SurveyPanels at H
  refine fn_enter Try.func3 rfl rfl (by kernel_rfl) ?_
  intro κ B h0 F a w hAt
  refine wp_seq ?_
  refine reg [⟨fRef GPanel.rep x0, [], [(0, none)], []⟩,
      ⟨fRef GRule.rep x1, [], [(1, none)], []⟩,
      ⟨fV Rep.bool false, [], [], []⟩] [2, 3] [] hAt
      ⟨ok_box rfl opd0,
      ok_box rfl opd0,
      ok_assign rfl opdB, trivial⟩ (by kernel_rfl) ?_
  clear hAt
  intro a w hAt
  replace hAt : At B h0 (mkG [(2, fRef GPanel.rep x0), (3, fRef GRule.rep x1)]) (mkO []) F 76 a w := hAt
  refine then_n ?_
  refine wp_seq ?_
  refine wp_seq ?_
  obtain ⟨v1, hv1, H⟩ := bindE H
  refine reg [⟨fV Rep.bool v1, [], [], []⟩,
      ⟨fV Rep.bool (!v1), [], [(10, some 0)], []⟩] [2, 3, 11] [] hAt
      ⟨ok_call (ok_f_law09_awake N _ hv1) Try.func14 (by kernel_rfl) (by kernel_rfl) rfl trivial,
      ok_not rfl opd0, trivial⟩ (by kernel_rfl) ?_
  clear hAt
  intro a w hAt
  replace hAt : At B h0 (mkG [(2, fRef GPanel.rep x0), (3, fRef GRule.rep x1), (11, fV Rep.bool (!v1))]) (mkO []) F 76 a w := hAt
  refine then_n ?_
  refine wp_if hAt (by rfl) ?_ ?_
  · intro hb18
    have H := iteT hb18 H
    refine wp_seq ?_
    refine reg [⟨fV Rep.bool false, [], [], []⟩] [4] [] hAt
        ⟨ok_assign rfl opdB, trivial⟩ (by kernel_rfl) ?_
    clear hAt
    intro a w hAt
    replace hAt : At B h0 (mkG [(4, fV Rep.bool false)]) (mkO []) F 76 a w := hAt
    refine then_n ?_
    refine wp_ret ?_
    refine then_r ?_
    cases H
    exact ret1 rfl (rv_tmp rfl rfl) hAt
  · intro hb18
    have H := iteF hb18 H
    refine wp_skip ?_
    refine then_n ?_
    refine wp_seq ?_
    refine wp_seq ?_
    obtain ⟨v2, hv2, H⟩ := bindE H
    refine reg [⟨fV GPanel.rep x0, [], [(2, none)], []⟩,
        ⟨fV Rep.bool v2, [], [(12, some 0)], []⟩,
        ⟨fV Rep.bool (!v2), [], [(13, some 1)], []⟩] [2, 3, 14] [] hAt
        ⟨ok_load ty24 rfl opd0,
        ok_call (ok_f_law09_slim N x0 _ hv2) Try.func15 (by kernel_rfl) (by kernel_rfl) rfl ⟨opd0, trivial⟩,
        ok_not rfl opd0, trivial⟩ (by kernel_rfl) ?_
    clear hAt
    intro a w hAt
    replace hAt : At B h0 (mkG [(2, fRef GPanel.rep x0), (3, fRef GRule.rep x1), (14, fV Rep.bool (!v2))]) (mkO []) F 76 a w := hAt
    refine then_n ?_
    refine wp_if hAt (by rfl) ?_ ?_
    · intro hb17
      have H := iteT hb17 H
      refine wp_seq ?_
      refine reg [⟨fV Rep.bool true, [], [], []⟩] [4] [] hAt
          ⟨ok_assign rfl opdB, trivial⟩ (by kernel_rfl) ?_
      clear hAt
      intro a w hAt
      replace hAt : At B h0 (mkG [(4, fV Rep.bool true)]) (mkO []) F 76 a w := hAt
      refine then_n ?_
      refine wp_ret ?_
      refine then_r ?_
      cases H
      exact ret1 rfl (rv_tmp rfl rfl) hAt
    · intro hb17
      have H := iteF hb17 H
      refine wp_skip ?_
      refine then_n ?_
      refine wp_seq ?_
      obtain ⟨v3, hv3, H⟩ := bindE H
      refine reg [⟨fV GPanel.rep x0, [], [(2, none)], []⟩,
          ⟨fT2 (fV (Rep.slice GRat.rep) v3.1) (fV r_i64 v3.2), [], [(16, some 0)], []⟩,
          ⟨fT2 (fV (Rep.slice GRat.rep) v3.1) (fV r_i64 v3.2), [], [(17, some 1)], []⟩,
          ⟨fV (Rep.slice GRat.rep) v3.1, [], [(15, some 2)], []⟩,
          ⟨fV r_i64 v3.2, [], [(15, some 2)], []⟩,
          ⟨fV (Rep.slice GRat.rep) v3.1, [], [(18, some 3)], []⟩,
          ⟨fV r_i64 v3.2, [], [(19, some 4)], []⟩] [2, 3, 5, 6] [] hAt
          ⟨ok_load ty24 rfl opd0,
          ok_call (ok_f_survey_Wastage N x0 _ hv3) Try.func16 (by kernel_rfl) (by kernel_rfl) rfl ⟨opd0, trivial⟩,
          ok_move rfl opd0,
          ok_ext20 rfl rfl opd0,
          ok_ext21 rfl rfl opd0,
          ok_assign rfl opd0,
          ok_assign rfl opd0, trivial⟩ (by kernel_rfl) ?_
      clear hAt
      intro a w hAt
      replace hAt : At B h0 (mkG [(2, fRef GPanel.rep x0), (3, fRef GRule.rep x1), (5, fV (Rep.slice GRat.rep) v3.1), (6, fV r_i64 v3.2)]) (mkO []) F 76 a w := hAt
      refine then_n ?_
      refine wp_seq ?_
      obtain ⟨v4, hv4, H⟩ := bindE H
      refine reg [⟨fV GPanel.rep x0, [], [(2, none)], []⟩,
          ⟨fV GRule.rep x1, [], [(3, none)], []⟩,
          ⟨fT2 (fV (Rep.slice r_i64) v4.1) (fV r_i64 v4.2), [], [(21, some 0), (22, some 1)], []⟩,
          ⟨fT2 (fV (Rep.slice r_i64) v4.1) (fV r_i64 v4.2), [], [(23, some 2)], []⟩,
          ⟨fV (Rep.slice r_i64) v4.1, [], [(20, some 3)], []⟩,
          ⟨fV r_i64 v4.2, [], [(20, some 3)], []⟩,
          ⟨fV (Rep.slice r_i64) v4.1, [], [(24, some 4)], []⟩,
          ⟨fV r_i64 v4.2, [], [(25, some 5)], []⟩] [2, 3, 5, 6, 7, 8] [] hAt
          ⟨ok_load ty24 rfl opd0,
          ok_load ty26 rfl opd0,
          ok_call (ok_f_survey_Grade N x0 x1 _ hv4) Try.func17 (by kernel_rfl) (by kernel_rfl) rfl ⟨opd0, ⟨opd1, trivial⟩⟩,
          ok_move rfl opd0,
          ok_ext20 rfl rfl opd0,
          ok_ext21 rfl rfl opd0,
          ok_assign rfl opd0,
          ok_assign rfl opd0, trivial⟩ (by kernel_rfl) ?_
      clear hAt
      intro a w hAt
      replace hAt : At B h0 (mkG [(2, fRef GPanel.rep x0), (3, fRef GRule.rep x1), (5, fV (Rep.slice GRat.rep) v3.1), (6, fV r_i64 v3.2), (7, fV (Rep.slice r_i64) v4.1), (8, fV r_i64 v4.2)]) (mkO []) F 76 a w := hAt
      refine then_n ?_
      refine wp_seq ?_
      obtain ⟨v5, hv5, H⟩ := bindE H
      refine reg [⟨fV GPanel.rep x0, [], [(2, none)], []⟩,
          ⟨fV r_i64 v5, [], [(26, some 0)], []⟩,
          ⟨fV r_i64 v5, [], [(27, some 1)], []⟩] [2, 3, 5, 6, 7, 8, 9] [] hAt
          ⟨ok_load ty24 rfl opd0,
          ok_call (ok_f_ref09_CheckPanel N x0 _ hv5) Try.func18 (by kernel_rfl) (by kernel_rfl) rfl ⟨opd0, trivial⟩,
          ok_assign rfl opd0, trivial⟩ (by kernel_rfl) ?_
      clear hAt
      intro a w hAt
      replace hAt : At B h0 (mkG [(2, fRef GPanel.rep x0), (3, fRef GRule.rep x1), (5, fV (Rep.slice GRat.rep) v3.1), (6, fV r_i64 v3.2), (7, fV (Rep.slice r_i64) v4.1), (8, fV r_i64 v4.2), (9, fV r_i64 v5)]) (mkO []) F 76 a w := hAt
      refine then_n ?_
      refine wp_seq ?_
      refine wp_seq ?_
      obtain ⟨v6, hv6, H⟩ := bindE H
      obtain ⟨v7, hv7, H⟩ := bindE H
      refine reg [⟨fV GPanel.rep x0, [], [(2, none)], []⟩,
          ⟨fV r_i64 v6, [], [(28, some 0)], []⟩,
          ⟨fV r_i64 v5, [], [(9, none)], []⟩,
          ⟨fV Rep.bool (cmpI .neq v6 v5), [], [(29, some 1), (30, some 2)], []⟩,
          ⟨fV Rep.bool (cmpI .neq v6 v5), [], [(31, some 3)], []⟩,
          ⟨Fact.when ((!(cmpI .neq v6 v5)) = true) (fV r_i64 v3.2), [], [(32, some 4), (6, none)], []⟩,
          ⟨Fact.when ((!(cmpI .neq v6 v5)) = true) (fV r_i64 v5), [], [(32, some 4), (9, none)], []⟩,
          ⟨Fact.when ((!(cmpI .neq v6 v5)) = true) (fV Rep.bool (cmpI .neq v3.2 v5)), [], [(32, some 4), (33, some 5), (34, some 6)], []⟩,
          ⟨fV Rep.bool ((cmpI .neq v6 v5) || (cmpI .neq v3.2 v5)), [], [(32, some 4), (35, some 7)], []⟩,
          ⟨fV Rep.bool ((cmpI .neq v6 v5) || (cmpI .neq v3.2 v5)), [], [(36, some 8)], []⟩,
          ⟨Fact.when ((!((cmpI .neq v6 v5) || (cmpI .neq v3.2 v5))) = true) (fV r_i64 v4.2), [], [(37, some 9), (8, none)], []⟩,
          ⟨Fact.when ((!((cmpI .neq v6 v5) || (cmpI .neq v3.2 v5))) = true) (fV GPanel.rep x0), [], [(37, some 9), (2, none)], []⟩,
          ⟨Fact.when ((!((cmpI .neq v6 v5) || (cmpI .neq v3.2 v5))) = true) (fV GRule.rep x1), [], [(37, some 9), (3, none)], []⟩,
          ⟨Fact.when ((!((cmpI .neq v6 v5) || (cmpI .neq v3.2 v5))) = true) (fV r_i64 v7), [], [(37, some 9), (39, some 11), (40, some 12)], []⟩,
          ⟨Fact.when ((!((cmpI .neq v6 v5) || (cmpI .neq v3.2 v5))) = true) (fV Rep.bool (cmpI .neq v4.2 v7)), [], [(37, some 9), (38, some 10), (41, some 13)], []⟩,
          ⟨fV Rep.bool (((cmpI .neq v6 v5) || (cmpI .neq v3.2 v5)) || (cmpI .neq v4.2 v7)), [], [(37, some 9), (42, some 14)], []⟩] [2, 3, 5, 7, 8, 9, 43] [] hAt
          ⟨ok_load ty24 rfl opd0,
          ok_call (ok_f_survey_CheckPanel N x0 _ hv6) Try.func19 (by kernel_rfl) (by kernel_rfl) rfl ⟨opd0, trivial⟩,
          ok_move rfl opd0,
          ok_cmp (op := .neq) (by simp) rfl rfl opd0 opd1,
          ok_move rfl opd0,
          obl_tf rfl rfl rfl rfl rfl rfl rfl (fun hg => ok_move rfl opd1),
          obl_tf rfl rfl rfl rfl rfl rfl rfl (fun hg => ok_move rfl opd1),
          obl_tf rfl rfl rfl rfl rfl rfl rfl (fun hg => ok_cmp (op := .neq) (by simp) rfl rfl (opd1.on hg) (opd2.on hg)),
          ok_or rfl opd0 (fun e => (opd1.on (notT e))),
          ok_move rfl opd0,
          obl_tf rfl rfl rfl rfl rfl rfl rfl (fun hg => ok_move rfl opd1),
          obl_tf rfl rfl rfl rfl rfl rfl rfl (fun hg => ok_load ty24 rfl opd1),
          obl_tf rfl rfl rfl rfl rfl rfl rfl (fun hg => ok_load ty26 rfl opd1),
          obl_tf rfl rfl rfl rfl rfl rfl rfl (fun hg => ok_call (ok_f_law09_panelError N x0 x1 _ (iteT hg hv7)) Try.func20 (by kernel_rfl) (by kernel_rfl) rfl ⟨(opd1.on hg), ⟨(opd2.on hg), trivial⟩⟩),
          obl_tf rfl rfl rfl rfl rfl rfl rfl (fun hg => ok_cmp (op := .neq) (by simp) rfl rfl (opd1.on hg) (opd2.on hg)),
          ok_or rfl opd0 (fun e => (opd1.on (notT e))), trivial⟩ (by kernel_rfl) ?_
      clear hAt
      intro a w hAt
      replace hAt : At B h0 (mkG [(2, fRef GPanel.rep x0), (3, fRef GRule.rep x1), (5, fV (Rep.slice GRat.rep) v3.1), (7, fV (Rep.slice r_i64) v4.1), (8, fV r_i64 v4.2), (9, fV r_i64 v5), (43, fV Rep.bool (((cmpI .neq v6 v5) || (cmpI .neq v3.2 v5)) || (cmpI .neq v4.2 v7)))]) (mkO []) F 76 a w := hAt
      refine then_n ?_
      refine wp_if hAt (by rfl) ?_ ?_
      · intro hb16
        have H := iteT hb16 H
        refine wp_seq ?_
        refine reg [⟨fV Rep.bool false, [], [], []⟩] [4] [] hAt
            ⟨ok_assign rfl opdB, trivial⟩ (by kernel_rfl) ?_
        clear hAt
        intro a w hAt
        replace hAt : At B h0 (mkG [(4, fV Rep.bool false)]) (mkO []) F 76 a w := hAt
        refine then_n ?_
        refine wp_ret ?_
        refine then_r ?_
        cases H
        exact ret1 rfl (rv_tmp rfl rfl) hAt
      · intro hb16
        have H := iteF hb16 H
        refine wp_skip ?_
        refine then_n ?_
        refine wp_seq ?_
        refine wp_seq ?_
        refine reg [⟨fV r_i64 v5, [], [(9, none)], []⟩,
            ⟨fV Rep.bool (cmpI .neq v5 0), [], [(44, some 0)], []⟩] [2, 3, 5, 7, 8, 45] [] hAt
            ⟨ok_move rfl opd0,
            ok_cmp (op := .neq) (by simp) rfl rfl opd0 opdI, trivial⟩ (by kernel_rfl) ?_
        clear hAt
        intro a w hAt
        replace hAt : At B h0 (mkG [(2, fRef GPanel.rep x0), (3, fRef GRule.rep x1), (5, fV (Rep.slice GRat.rep) v3.1), (7, fV (Rep.slice r_i64) v4.1), (8, fV r_i64 v4.2), (45, fV Rep.bool (cmpI .neq v5 0))]) (mkO []) F 76 a w := hAt
        refine then_n ?_
        refine wp_if hAt (by rfl) ?_ ?_
        · intro hb15
          have H := iteT hb15 H
          refine wp_seq ?_
          refine reg [⟨fV (Rep.slice GRat.rep) v3.1, [], [(5, none)], []⟩,
              ⟨fV r_i64 (List.length v3.1 : Int), [], [(46, some 0)], []⟩,
              ⟨fV Rep.bool (cmpI .eql (List.length v3.1 : Int) 0), [], [(47, some 1)], []⟩,
              ⟨fV Rep.bool (cmpI .eql (List.length v3.1 : Int) 0), [], [(48, some 2)], []⟩,
              ⟨Fact.when ((cmpI .eql (List.length v3.1 : Int) 0) = true) (fV (Rep.slice r_i64) v4.1), [], [(49, some 3), (7, none)], []⟩,
              ⟨Fact.when ((cmpI .eql (List.length v3.1 : Int) 0) = true) (fV r_i64 (List.length v4.1 : Int)), [], [(49, some 3), (50, some 4)], []⟩,
              ⟨Fact.when ((cmpI .eql (List.length v3.1 : Int) 0) = true) (fV Rep.bool (cmpI .eql (List.length v4.1 : Int) 0)), [], [(49, some 3), (51, some 5)], []⟩,
              ⟨fV Rep.bool ((cmpI .eql (List.length v3.1 : Int) 0) && (cmpI .eql (List.length v4.1 : Int) 0)), [], [(49, some 3), (52, some 6)], []⟩,
              ⟨fV Rep.bool ((cmpI .eql (List.length v3.1 : Int) 0) && (cmpI .eql (List.length v4.1 : Int) 0)), [], [(53, some 7)], []⟩] [4] [] hAt
              ⟨ok_move rfl opd0,
              ok_len un29 rfl opd0,
              ok_cmp (op := .eql) (by simp) rfl rfl opd0 opdI,
              ok_move rfl opd0,
              obl_tt rfl rfl rfl rfl rfl rfl rfl (fun hg => ok_move rfl opd1),
              obl_tt rfl rfl rfl rfl rfl rfl rfl (fun hg => ok_len un22 rfl (opd1.on hg)),
              obl_tt rfl rfl rfl rfl rfl rfl rfl (fun hg => ok_cmp (op := .eql) (by simp) rfl rfl (opd1.on hg) opdI),
              ok_and rfl opd0 (fun e => (opd1.on e)),
              ok_assign rfl opd0, trivial⟩ (by kernel_rfl) ?_
          clear hAt
          intro a w hAt
          replace hAt : At B h0 (mkG [(4, fV Rep.bool ((cmpI .eql (List.length v3.1 : Int) 0) && (cmpI .eql (List.length v4.1 : Int) 0)))]) (mkO []) F 76 a w := hAt
          refine then_n ?_
          refine wp_ret ?_
          refine then_r ?_
          cases H
          exact ret1 rfl (rv_tmp rfl rfl) hAt
        · intro hb15
          have H := iteF hb15 H
          refine wp_skip ?_
          refine then_n ?_
          refine wp_seq ?_
          refine wp_seq ?_
          refine reg [⟨fV r_i64 v4.2, [], [(8, none)], []⟩,
              ⟨fV Rep.bool (cmpI .neq v4.2 0), [], [(54, some 0)], []⟩] [2, 3, 5, 7, 55] [] hAt
              ⟨ok_move rfl opd0,
              ok_cmp (op := .neq) (by simp) rfl rfl opd0 opdI, trivial⟩ (by kernel_rfl) ?_
          clear hAt
          intro a w hAt
          replace hAt : At B h0 (mkG [(2, fRef GPanel.rep x0), (3, fRef GRule.rep x1), (5, fV (Rep.slice GRat.rep) v3.1), (7, fV (Rep.slice r_i64) v4.1), (55, fV Rep.bool (cmpI .neq v4.2 0))]) (mkO []) F 76 a w := hAt
          refine then_n ?_
          refine wp_if hAt (by rfl) ?_ ?_
          · intro hb14
            have H := iteT hb14 H
            refine wp_seq ?_
            obtain ⟨v8, hv8, H⟩ := bindE H
            obtain ⟨v9, hv9, H⟩ := bindE H
            refine reg [⟨fV (Rep.slice r_i64) v4.1, [], [(7, none)], []⟩,
                ⟨fV r_i64 (List.length v4.1 : Int), [], [(56, some 0)], []⟩,
                ⟨fV Rep.bool (cmpI .eql (List.length v4.1 : Int) 0), [], [(57, some 1)], []⟩,
                ⟨fV Rep.bool (cmpI .eql (List.length v4.1 : Int) 0), [], [(58, some 2)], []⟩,
                ⟨Fact.when ((cmpI .eql (List.length v4.1 : Int) 0) = true) (fV (Rep.slice GRat.rep) v3.1), [], [(59, some 3), (5, none)], []⟩,
                ⟨Fact.when ((cmpI .eql (List.length v4.1 : Int) 0) = true) (fV GPanel.rep x0), [], [(59, some 3), (2, none)], []⟩,
                ⟨Fact.when ((cmpI .eql (List.length v4.1 : Int) 0) = true) (fV (Rep.slice GRat.rep) v8), [], [(59, some 3), (61, some 5)], []⟩,
                ⟨Fact.when ((cmpI .eql (List.length v4.1 : Int) 0) = true) (fV Rep.bool v9), [], [(59, some 3), (60, some 4), (62, some 6)], []⟩,
                ⟨fV Rep.bool ((cmpI .eql (List.length v4.1 : Int) 0) && v9), [], [(59, some 3), (63, some 7)], []⟩,
                ⟨fV Rep.bool ((cmpI .eql (List.length v4.1 : Int) 0) && v9), [], [(64, some 8)], []⟩] [4] [] hAt
                ⟨ok_move rfl opd0,
                ok_len un22 rfl opd0,
                ok_cmp (op := .eql) (by simp) rfl rfl opd0 opdI,
                ok_move rfl opd0,
                obl_tt rfl rfl rfl rfl rfl rfl rfl (fun hg => ok_move rfl opd1),
                obl_tt rfl rfl rfl rfl rfl rfl rfl (fun hg => ok_load ty24 rfl opd1),
                obl_tt rfl rfl rfl rfl rfl rfl rfl (fun hg => ok_call (ok_f_ref09_Wastage N x0 _ (iteT hg hv8)) Try.func22 (by kernel_rfl) (by kernel_rfl) rfl ⟨(opd1.on hg), trivial⟩),
                obl_tt rfl rfl rfl rfl rfl rfl rfl (fun hg => ok_call (ok_f_base_SameRats N v3.1 v8 _ (iteT hg hv9)) Try.func21 (by kernel_rfl) (by kernel_rfl) rfl ⟨(opd1.on hg), ⟨(opd2.on hg), trivial⟩⟩),
                ok_and rfl opd0 (fun e => (opd1.on e)),
                ok_assign rfl opd0, trivial⟩ (by kernel_rfl) ?_
            clear hAt
            intro a w hAt
            replace hAt : At B h0 (mkG [(4, fV Rep.bool ((cmpI .eql (List.length v4.1 : Int) 0) && v9))]) (mkO []) F 76 a w := hAt
            refine then_n ?_
            refine wp_ret ?_
            refine then_r ?_
            cases H
            exact ret1 rfl (rv_tmp rfl rfl) hAt
          · intro hb14
            have H := iteF hb14 H
            refine wp_skip ?_
            refine then_n ?_
            refine wp_seq ?_
            obtain ⟨v10, hv10, H⟩ := bindE H
            obtain ⟨v11, hv11, H⟩ := bindE H
            obtain ⟨v12, hv12, H⟩ := bindE H
            obtain ⟨v13, hv13, H⟩ := bindE H
            refine reg [⟨fV (Rep.slice GRat.rep) v3.1, [], [(5, none)], []⟩,
                ⟨fV GPanel.rep x0, [], [(2, none)], []⟩,
                ⟨fV (Rep.slice GRat.rep) v10, [], [(66, some 1)], []⟩,
                ⟨fV Rep.bool v11, [], [(65, some 0), (67, some 2)], []⟩,
                ⟨fV Rep.bool v11, [], [(68, some 3)], []⟩,
                ⟨Fact.when (v11 = true) (fV (Rep.slice r_i64) v4.1), [], [(69, some 4), (7, none)], []⟩,
                ⟨Fact.when (v11 = true) (fV GPanel.rep x0), [], [(69, some 4), (2, none)], []⟩,
                ⟨Fact.when (v11 = true) (fV GRule.rep x1), [], [(69, some 4), (3, none)], []⟩,
                ⟨Fact.when (v11 = true) (fV (Rep.slice r_i64) v12), [], [(69, some 4), (71, some 6), (72, some 7)], []⟩,
                ⟨Fact.when (v11 = true) (fV Rep.bool v13), [], [(69, some 4), (70, some 5), (73, some 8)], []⟩,
                ⟨fV Rep.bool (v11 && v13), [], [(69, some 4), (74, some 9)], []⟩,
                ⟨fV Rep.bool (v11 && v13), [], [(75, some 10)], []⟩] [4] [] hAt
                ⟨ok_move rfl opd0,
                ok_load ty24 rfl opd0,
                ok_call (ok_f_ref09_Wastage N x0 _ hv10) Try.func22 (by kernel_rfl) (by kernel_rfl) rfl ⟨opd0, trivial⟩,
                ok_call (ok_f_base_SameRats N v3.1 v10 _ hv11) Try.func21 (by kernel_rfl) (by kernel_rfl) rfl ⟨opd0, ⟨opd1, trivial⟩⟩,
                ok_move rfl opd0,
                obl_tt rfl rfl rfl rfl rfl rfl rfl (fun hg => ok_move rfl opd1),
                obl_tt rfl rfl rfl rfl rfl rfl rfl (fun hg => ok_load ty24 rfl opd1),
                obl_tt rfl rfl rfl rfl rfl rfl rfl (fun hg => ok_load ty26 rfl opd1),
                obl_tt rfl rfl rfl rfl rfl rfl rfl (fun hg => ok_call (ok_f_ref09_Grade N x0 x1 _ (iteT hg hv12)) Try.func24 (by kernel_rfl) (by kernel_rfl) rfl ⟨(opd1.on hg), ⟨(opd2.on hg), trivial⟩⟩),
                obl_tt rfl rfl rfl rfl rfl rfl rfl (fun hg => ok_call (ok_f_base_Ints N v4.1 v12 _ (iteT hg hv13)) Try.func23 (by kernel_rfl) (by kernel_rfl) rfl ⟨(opd1.on hg), ⟨(opd2.on hg), trivial⟩⟩),
                ok_and rfl opd0 (fun e => (opd1.on e)),
                ok_assign rfl opd0, trivial⟩ (by kernel_rfl) ?_
            clear hAt
            intro a w hAt
            replace hAt : At B h0 (mkG [(4, fV Rep.bool (v11 && v13))]) (mkO []) F 76 a w := hAt
            refine then_n ?_
            refine wp_ret ?_
            cases H
            exact ret1 rfl (rv_tmp rfl rfl) hAt
end Go.KB
