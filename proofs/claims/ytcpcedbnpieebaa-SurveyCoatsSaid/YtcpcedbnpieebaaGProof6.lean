/- The Go functions compute what the plain functions compute. Printed by a program. No condition. -/
import Derived.Test.YtcpcedbnpieebaaGProof5
namespace Go.KB
open Go.Proofs
set_option maxRecDepth 100000
set_option linter.unusedVariables false
theorem ok_f_ref09_Thickness (N : Nat) (x0 : GCoat) (x1 : (List Int)) (r : Int × Int) (H : f_ref09_Thickness N x0 x1 = some r) : FnOk Try.prog 51 [fV GCoat.rep x0, fV (Rep.slice r_i64) x1] (fT2 (fV r_i64 (r.1)) (fV r_i64 (r.2))) := by
  unfold f_ref09_Thickness at H
  refine fn_enter Try.func51 rfl rfl (by kernel_rfl) ?_
  intro κ B h0 F a w hAt
  refine wp_seq ?_
  refine reg [⟨fRef GCoat.rep x0, [], [(0, none)], []⟩,
      ⟨fV r_i64 0, [], [], []⟩,
      ⟨fV r_i64 0, [], [], []⟩] [1, 2] [] hAt
      ⟨ok_box rfl opd0,
      ok_assign rfl opdI,
      ok_assign rfl opdI, trivial⟩ (by kernel_rfl) ?_
  clear hAt
  intro a w hAt
  replace hAt : At B h0 (mkG [(1, fV (Rep.slice r_i64) x1), (2, fRef GCoat.rep x0)]) (mkO []) F 68 a w := hAt
  refine then_n ?_
  refine wp_seq ?_
  refine wp_seq ?_
  obtain ⟨v1, hv1, H⟩ := bindE H
  refine reg [⟨fV GCoat.rep x0, [], [(2, none)], []⟩,
      ⟨fV r_i64 v1, [], [(12, some 0)], []⟩,
      ⟨fV r_i64 v1, [], [(13, some 1)], []⟩] [1, 2, 6] [] hAt
      ⟨ok_load ty95 rfl opd0,
      ok_call (ok_f_ref09_CheckCoat N x0 _ hv1) Try.func92 (by kernel_rfl) (by kernel_rfl) rfl ⟨opd0, trivial⟩,
      ok_assign rfl opd0, trivial⟩ (by kernel_rfl) ?_
  clear hAt
  intro a w hAt
  replace hAt : At B h0 (mkG [(1, fV (Rep.slice r_i64) x1), (2, fRef GCoat.rep x0), (6, fV r_i64 v1)]) (mkO []) F 68 a w := hAt
  refine then_n ?_
  refine wp_seq ?_
  refine reg [⟨fV r_i64 v1, [], [(6, none)], []⟩,
      ⟨fV Rep.bool (cmpI .neq v1 0), [], [(14, some 0)], []⟩] [1, 2, 6, 15] [] hAt
      ⟨ok_move rfl opd0,
      ok_cmp (op := .neq) (by simp) rfl rfl opd0 opdI, trivial⟩ (by kernel_rfl) ?_
  clear hAt
  intro a w hAt
  replace hAt : At B h0 (mkG [(1, fV (Rep.slice r_i64) x1), (2, fRef GCoat.rep x0), (6, fV r_i64 v1), (15, fV Rep.bool (cmpI .neq v1 0))]) (mkO []) F 68 a w := hAt
  refine then_n ?_
  refine wp_if hAt (by rfl) ?_ ?_
  · intro hb19
    have H := iteT hb19 H
    refine wp_seq ?_
    refine reg [⟨fV r_i64 v1, [], [(6, none)], []⟩,
        ⟨fV r_i64 0, [], [], []⟩,
        ⟨fV r_i64 v1, [], [(16, some 0)], []⟩] [4, 5] [] hAt
        ⟨ok_move rfl opd0,
        ok_assign rfl opdI,
        ok_assign rfl opd0, trivial⟩ (by kernel_rfl) ?_
    clear hAt
    intro a w hAt
    replace hAt : At B h0 (mkG [(4, fV r_i64 0), (5, fV r_i64 v1)]) (mkO []) F 68 a w := hAt
    refine then_n ?_
    refine wp_ret ?_
    refine then_r ?_
    cases H
    exact ret2 rfl (rv_tmp rfl rfl) (rv_tmp rfl rfl) hAt
  · intro hb19
    have H := iteF hb19 H
    refine wp_skip ?_
    refine then_n ?_
    refine wp_seq ?_
    refine wp_seq ?_
    refine reg [⟨fV (Rep.slice r_i64) x1, [], [(1, none)], []⟩,
        ⟨fV r_i64 (List.length x1 : Int), [], [(17, some 0)], []⟩,
        ⟨fV Rep.bool (cmpI .eql (List.length x1 : Int) 0), [], [(18, some 1)], []⟩] [1, 2, 19] [] hAt
        ⟨ok_move rfl opd0,
        ok_len un22 rfl opd0,
        ok_cmp (op := .eql) (by simp) rfl rfl opd0 opdI, trivial⟩ (by kernel_rfl) ?_
    clear hAt
    intro a w hAt
    replace hAt : At B h0 (mkG [(1, fV (Rep.slice r_i64) x1), (2, fRef GCoat.rep x0), (19, fV Rep.bool (cmpI .eql (List.length x1 : Int) 0))]) (mkO []) F 68 a w := hAt
    refine then_n ?_
    refine wp_if hAt (by rfl) ?_ ?_
    · intro hb18
      have H := iteT hb18 H
      refine wp_seq ?_
      refine reg [⟨fV r_i64 0, [], [], []⟩,
          ⟨fV r_i64 11, [], [], []⟩] [4, 5] [] hAt
          ⟨ok_assign rfl opdI,
          ok_assign rfl opdI, trivial⟩ (by kernel_rfl) ?_
      clear hAt
      intro a w hAt
      replace hAt : At B h0 (mkG [(4, fV r_i64 0), (5, fV r_i64 11)]) (mkO []) F 68 a w := hAt
      refine then_n ?_
      refine wp_ret ?_
      refine then_r ?_
      cases H
      exact ret2 rfl (rv_tmp rfl rfl) (rv_tmp rfl rfl) hAt
    · intro hb18
      have H := iteF hb18 H
      refine wp_skip ?_
      refine then_n ?_
      refine wp_seq ?_
      refine wp_seq ?_
      refine reg [⟨fV (Rep.slice r_i64) x1, [], [(1, none)], []⟩,
          ⟨fV r_i64 (List.length x1 : Int), [], [(20, some 0)], []⟩,
          ⟨fV Rep.bool (cmpI .gtr (List.length x1 : Int) 100), [], [(21, some 1)], []⟩] [1, 2, 22] [] hAt
          ⟨ok_move rfl opd0,
          ok_len un22 rfl opd0,
          ok_cmp (op := .gtr) (by simp) rfl rfl opd0 opdI, trivial⟩ (by kernel_rfl) ?_
      clear hAt
      intro a w hAt
      replace hAt : At B h0 (mkG [(1, fV (Rep.slice r_i64) x1), (2, fRef GCoat.rep x0), (22, fV Rep.bool (cmpI .gtr (List.length x1 : Int) 100))]) (mkO []) F 68 a w := hAt
      refine then_n ?_
      refine wp_if hAt (by rfl) ?_ ?_
      · intro hb17
        have H := iteT hb17 H
        refine wp_seq ?_
        refine reg [⟨fV r_i64 0, [], [], []⟩,
            ⟨fV r_i64 8, [], [], []⟩] [4, 5] [] hAt
            ⟨ok_assign rfl opdI,
            ok_assign rfl opdI, trivial⟩ (by kernel_rfl) ?_
        clear hAt
        intro a w hAt
        replace hAt : At B h0 (mkG [(4, fV r_i64 0), (5, fV r_i64 8)]) (mkO []) F 68 a w := hAt
        refine then_n ?_
        refine wp_ret ?_
        refine then_r ?_
        cases H
        exact ret2 rfl (rv_tmp rfl rfl) (rv_tmp rfl rfl) hAt
      · intro hb17
        have H := iteF hb17 H
        refine wp_skip ?_
        refine then_n ?_
        refine wp_seq ?_
        refine reg [⟨fV r_i64 0, [], [], []⟩,
            ⟨fV Rep.bool false, [], [], []⟩,
            ⟨fV Rep.bool false, [], [], []⟩] [1, 2, 7, 8, 9] [] hAt
            ⟨ok_assign rfl opdI,
            ok_assign rfl opdB,
            ok_assign rfl opdB, trivial⟩ (by kernel_rfl) ?_
        clear hAt
        intro a w hAt
        replace hAt : At B h0 (mkG [(1, fV (Rep.slice r_i64) x1), (2, fRef GCoat.rep x0), (7, fV r_i64 0), (8, fV Rep.bool false), (9, fV Rep.bool false)]) (mkO []) F 68 a w := hAt
        refine then_n ?_
        refine wp_seq ?_
        refine wp_seq ?_
        refine reg [⟨fV r_i64 0, [], [], []⟩] [1, 2, 7, 8, 9, 10] [] hAt
            ⟨ok_assign rfl opdI, trivial⟩ (by kernel_rfl) ?_
        clear hAt
        intro a w hAt
        replace hAt : At B h0 (mkG [(1, fV (Rep.slice r_i64) x1), (2, fRef GCoat.rep x0), (7, fV r_i64 0), (8, fV Rep.bool false), (9, fV Rep.bool false), (10, fV r_i64 0)]) (mkO []) F 68 a w := hAt
        refine then_n ?_
        refine wp_block ?_
        obtain ⟨o10, hl11, H⟩ := bindE H
        refine wp_mono (wp_loopN (f := f_ref09_Thickness_L1 N x0 x1) (fun (s2 : (Int × Bool × Bool × Int)) a w => At B h0 (mkG [(1, fV (Rep.slice r_i64) x1), (2, fRef GCoat.rep x0), (7, fV r_i64 s2.1), (8, fV Rep.bool s2.2.1), (9, fV Rep.bool s2.2.2.1), (10, fV r_i64 s2.2.2.2)]) (mkO []) F 68 a w) (fun o e a w => (Sum.elim (fun v => e = .exit 0 ∧ At B h0 (mkG [(1, fV (Rep.slice r_i64) x1), (7, fV r_i64 v.1), (8, fV Rep.bool v.2.1), (9, fV Rep.bool v.2.2)]) (mkO []) F 68 a w) (fun v => e = .ret ∧ At B h0 (mkG [(4, fV r_i64 v.1), (5, fV r_i64 v.2)]) (mkO []) F 68 a w)) o) ?_ N (0, false, false, 0) o10 _ _ hl11 ?_) ?_
        · clear H hAt hl11
          intro s2 r16 a w H hAt
          unfold f_ref09_Thickness_L1 at H
          refine wp_seq ?_
          refine wp_seq ?_
          refine reg [⟨fV r_i64 s2.2.2.2, [], [(10, none)], []⟩,
              ⟨fV (Rep.slice r_i64) x1, [], [(1, none)], []⟩,
              ⟨fV r_i64 (List.length x1 : Int), [], [(24, some 1)], []⟩,
              ⟨fV Rep.bool (cmpI .lss s2.2.2.2 (List.length x1 : Int)), [], [(23, some 0), (25, some 2)], []⟩] [1, 2, 7, 8, 9, 10, 26] [] hAt
              ⟨ok_move rfl opd0,
              ok_move rfl opd0,
              ok_len un22 rfl opd0,
              ok_cmp (op := .lss) (by simp) rfl rfl opd0 opd1, trivial⟩ (by kernel_rfl) ?_
          clear hAt
          intro a w hAt
          replace hAt : At B h0 (mkG [(1, fV (Rep.slice r_i64) x1), (2, fRef GCoat.rep x0), (7, fV r_i64 s2.1), (8, fV Rep.bool s2.2.1), (9, fV Rep.bool s2.2.2.1), (10, fV r_i64 s2.2.2.2), (26, fV Rep.bool (cmpI .lss s2.2.2.2 (List.length x1 : Int)))]) (mkO []) F 68 a w := hAt
          refine then_n ?_
          refine wp_if hAt (by rfl) ?_ ?_
          · intro hb9
            have H := iteT hb9 H
            refine wp_skip ?_
            refine then_n ?_
            refine wp_seq ?_
            refine wp_block ?_
            refine wp_seq ?_
            obtain ⟨v3, hv3, H⟩ := bindE H
            refine reg [⟨fV (Rep.slice r_i64) x1, [], [(1, none)], []⟩,
                ⟨fV r_i64 s2.2.2.2, [], [(10, none)], []⟩,
                ⟨fRef r_i64 v3, [], [(29, some 0), (30, some 1)], []⟩,
                ⟨fV r_i64 v3, [], [(31, some 2)], []⟩,
                ⟨fV r_i64 v3, [], [(32, some 3)], []⟩] [1, 2, 7, 8, 9, 10, 11] [] hAt
                ⟨ok_move rfl opd0,
                ok_move rfl opd0,
                ok_index ty3 un22 hv3 rfl opd0 opd1,
                ok_load ty3 rfl opd0,
                ok_assign rfl opd0, trivial⟩ (by kernel_rfl) ?_
            clear hAt
            intro a w hAt
            replace hAt : At B h0 (mkG [(1, fV (Rep.slice r_i64) x1), (2, fRef GCoat.rep x0), (7, fV r_i64 s2.1), (8, fV Rep.bool s2.2.1), (9, fV Rep.bool s2.2.2.1), (10, fV r_i64 s2.2.2.2), (11, fV r_i64 v3)]) (mkO []) F 68 a w := hAt
            refine then_n ?_
            refine wp_seq ?_
            refine wp_seq ?_
            obtain ⟨v4, hv4, H⟩ := bindE H
            refine reg [⟨fV r_i64 v3, [], [(11, none)], []⟩,
                ⟨fV Rep.bool v4, [], [(33, some 0)], []⟩,
                ⟨fV Rep.bool (!v4), [], [(34, some 1)], []⟩] [1, 2, 7, 8, 9, 10, 11, 35] [] hAt
                ⟨ok_move rfl opd0,
                ok_call (ok_f_ref09_within N v3 0 20000 _ hv4) Try.func69 (by kernel_rfl) (by kernel_rfl) rfl ⟨opd0, ⟨opdI, ⟨opdI, trivial⟩⟩⟩,
                ok_not rfl opd0, trivial⟩ (by kernel_rfl) ?_
            clear hAt
            intro a w hAt
            replace hAt : At B h0 (mkG [(1, fV (Rep.slice r_i64) x1), (2, fRef GCoat.rep x0), (7, fV r_i64 s2.1), (8, fV Rep.bool s2.2.1), (9, fV Rep.bool s2.2.2.1), (10, fV r_i64 s2.2.2.2), (11, fV r_i64 v3), (35, fV Rep.bool (!v4))]) (mkO []) F 68 a w := hAt
            refine then_n ?_
            refine wp_if hAt (by rfl) ?_ ?_
            · intro hb8
              have H := iteT hb8 H
              refine wp_seq ?_
              refine reg [⟨fV r_i64 0, [], [], []⟩,
                  ⟨fV r_i64 2, [], [], []⟩] [4, 5] [] hAt
                  ⟨ok_assign rfl opdI,
                  ok_assign rfl opdI, trivial⟩ (by kernel_rfl) ?_
              clear hAt
              intro a w hAt
              replace hAt : At B h0 (mkG [(4, fV r_i64 0), (5, fV r_i64 2)]) (mkO []) F 68 a w := hAt
              refine then_n ?_
              refine wp_ret ?_
              refine then_r ?_
              refine blk_r ?_
              refine then_r ?_
              cases H
              exact ⟨ret_ne, rfl, hAt.pick [4, 5] []⟩
            · intro hb8
              have H := iteF hb8 H
              refine wp_skip ?_
              refine then_n ?_
              refine wp_seq ?_
              obtain ⟨o6, hl7, H⟩ := bindE H
              refine wp_mono (Q := (fun o e a w => (fun v => e = .normal ∧ At B h0 (mkG [(1, fV (Rep.slice r_i64) x1), (2, fRef GCoat.rep x0), (7, fV r_i64 v), (8, fV Rep.bool s2.2.1), (9, fV Rep.bool s2.2.2.1), (10, fV r_i64 s2.2.2.2), (11, fV r_i64 v3)]) (mkO []) F 68 a w) o) o6) ?_ ?_
              · clear H
                have H := hl7
                clear hl7
                refine wp_seq ?_
                refine reg [⟨fV r_i64 v3, [], [(11, none)], []⟩,
                    ⟨fRef r_i64 x0.Nominal, [], [(2, none)], []⟩,
                    ⟨fV r_i64 x0.Nominal, [], [(37, some 1)], []⟩,
                    ⟨fV Rep.bool (cmpI .geq v3 x0.Nominal), [], [(36, some 0), (38, some 2)], []⟩] [1, 2, 7, 8, 9, 10, 11, 39] [] hAt
                    ⟨ok_move rfl opd0,
                    ok_field GCoat.l1 fo95_1 rfl opd0,
                    ok_load ty3 rfl opd0,
                    ok_cmp (op := .geq) (by simp) rfl rfl opd0 opd1, trivial⟩ (by kernel_rfl) ?_
                clear hAt
                intro a w hAt
                replace hAt : At B h0 (mkG [(1, fV (Rep.slice r_i64) x1), (2, fRef GCoat.rep x0), (7, fV r_i64 s2.1), (8, fV Rep.bool s2.2.1), (9, fV Rep.bool s2.2.2.1), (10, fV r_i64 s2.2.2.2), (11, fV r_i64 v3), (39, fV Rep.bool (cmpI .geq v3 x0.Nominal))]) (mkO []) F 68 a w := hAt
                refine then_n ?_
                refine wp_if hAt (by rfl) ?_ ?_
                · intro hb5
                  have H := iteT hb5 H
                  refine reg [⟨fV r_i64 s2.1, [], [(7, none)], []⟩,
                      ⟨fV r_i64 (IntKind.i64.wrap (s2.1 + 1)), [], [(40, some 0)], []⟩,
                      ⟨fV r_i64 (IntKind.i64.wrap (s2.1 + 1)), [], [(41, some 1)], []⟩] [1, 2, 7, 8, 9, 10, 11] [] hAt
                      ⟨ok_move rfl opd0,
                      ok_add rfl opd0 opdI,
                      ok_assign rfl opd0, trivial⟩ (by kernel_rfl) ?_
                  clear hAt
                  intro a w hAt
                  replace hAt : At B h0 (mkG [(1, fV (Rep.slice r_i64) x1), (2, fRef GCoat.rep x0), (7, fV r_i64 (IntKind.i64.wrap (s2.1 + 1))), (8, fV Rep.bool s2.2.1), (9, fV Rep.bool s2.2.2.1), (10, fV r_i64 s2.2.2.2), (11, fV r_i64 v3)]) (mkO []) F 68 a w := hAt
                  cases H
                  exact ⟨rfl, hAt.pick [1, 2, 7, 8, 9, 10, 11] []⟩
                · intro hb5
                  have H := iteF hb5 H
                  refine wp_skip ?_
                  cases H
                  exact ⟨rfl, hAt.pick [1, 2, 7, 8, 9, 10, 11] []⟩
              · clear hAt
                intro e a w hp
                obtain ⟨rfl, hAt⟩ := hp
                refine then_n ?_
                refine wp_seq ?_
                refine reg [⟨fV Rep.bool s2.2.1, [], [(8, none)], []⟩,
                    ⟨fV Rep.bool s2.2.1, [], [(42, some 0)], []⟩,
                    ⟨Fact.when ((!s2.2.1) = true) (fV r_i64 v3), [], [(43, some 1), (11, none)], []⟩,
                    ⟨Fact.when ((!s2.2.1) = true) (fV r_i64 (IntKind.i64.wrap (10 * v3))), [], [(43, some 1), (44, some 2)], []⟩,
                    ⟨Fact.when ((!s2.2.1) = true) (fRef r_i64 x0.Nominal), [], [(43, some 1), (2, none)], []⟩,
                    ⟨Fact.when ((!s2.2.1) = true) (fV r_i64 x0.Nominal), [], [(43, some 1), (46, some 4)], []⟩,
                    ⟨Fact.when ((!s2.2.1) = true) (fV r_i64 (IntKind.i64.wrap (9 * x0.Nominal))), [], [(43, some 1), (47, some 5)], []⟩,
                    ⟨Fact.when ((!s2.2.1) = true) (fV Rep.bool (cmpI .lss (IntKind.i64.wrap (10 * v3)) (IntKind.i64.wrap (9 * x0.Nominal)))), [], [(43, some 1), (45, some 3), (48, some 6)], []⟩,
                    ⟨fV Rep.bool (s2.2.1 || (cmpI .lss (IntKind.i64.wrap (10 * v3)) (IntKind.i64.wrap (9 * x0.Nominal)))), [], [(43, some 1), (49, some 7)], []⟩,
                    ⟨fV Rep.bool (s2.2.1 || (cmpI .lss (IntKind.i64.wrap (10 * v3)) (IntKind.i64.wrap (9 * x0.Nominal)))), [], [(50, some 8)], []⟩] [1, 2, 7, 8, 9, 10, 11] [] hAt
                    ⟨ok_move rfl opd0,
                    ok_move rfl opd0,
                    obl_tf rfl rfl rfl rfl rfl rfl rfl (fun hg => ok_move rfl opd1),
                    obl_tf rfl rfl rfl rfl rfl rfl rfl (fun hg => ok_mul rfl opdI (opd1.on hg)),
                    obl_tf rfl rfl rfl rfl rfl rfl rfl (fun hg => ok_field GCoat.l1 fo95_1 rfl opd1),
                    obl_tf rfl rfl rfl rfl rfl rfl rfl (fun hg => ok_load ty3 rfl (opd1.on hg)),
                    obl_tf rfl rfl rfl rfl rfl rfl rfl (fun hg => ok_mul rfl opdI (opd1.on hg)),
                    obl_tf rfl rfl rfl rfl rfl rfl rfl (fun hg => ok_cmp (op := .lss) (by simp) rfl rfl (opd1.on hg) (opd2.on hg)),
                    ok_or rfl opd0 (fun e => (opd1.on (notT e))),
                    ok_assign rfl opd0, trivial⟩ (by kernel_rfl) ?_
                clear hAt
                intro a w hAt
                replace hAt : At B h0 (mkG [(1, fV (Rep.slice r_i64) x1), (2, fRef GCoat.rep x0), (7, fV r_i64 o6), (8, fV Rep.bool (s2.2.1 || (cmpI .lss (IntKind.i64.wrap (10 * v3)) (IntKind.i64.wrap (9 * x0.Nominal))))), (9, fV Rep.bool s2.2.2.1), (10, fV r_i64 s2.2.2.2), (11, fV r_i64 v3)]) (mkO []) F 68 a w := hAt
                refine then_n ?_
                refine reg [⟨fV Rep.bool s2.2.2.1, [], [(9, none)], []⟩,
                    ⟨fV Rep.bool s2.2.2.1, [], [(51, some 0)], []⟩,
                    ⟨Fact.when ((!s2.2.2.1) = true) (fV r_i64 v3), [], [(52, some 1), (11, none)], []⟩,
                    ⟨Fact.when ((!s2.2.2.1) = true) (fRef r_i64 x0.Most), [], [(52, some 1), (2, none)], []⟩,
                    ⟨Fact.when ((!s2.2.2.1) = true) (fV r_i64 x0.Most), [], [(52, some 1), (54, some 3)], []⟩,
                    ⟨Fact.when ((!s2.2.2.1) = true) (fV Rep.bool (cmpI .gtr v3 x0.Most)), [], [(52, some 1), (53, some 2), (55, some 4)], []⟩,
                    ⟨fV Rep.bool (s2.2.2.1 || (cmpI .gtr v3 x0.Most)), [], [(52, some 1), (56, some 5)], []⟩,
                    ⟨fV Rep.bool (s2.2.2.1 || (cmpI .gtr v3 x0.Most)), [], [(57, some 6)], []⟩] [1, 2, 7, 8, 9, 10] [] hAt
                    ⟨ok_move rfl opd0,
                    ok_move rfl opd0,
                    obl_tf rfl rfl rfl rfl rfl rfl rfl (fun hg => ok_move rfl opd1),
                    obl_tf rfl rfl rfl rfl rfl rfl rfl (fun hg => ok_field GCoat.l2 fo95_2 rfl opd1),
                    obl_tf rfl rfl rfl rfl rfl rfl rfl (fun hg => ok_load ty3 rfl (opd1.on hg)),
                    obl_tf rfl rfl rfl rfl rfl rfl rfl (fun hg => ok_cmp (op := .gtr) (by simp) rfl rfl (opd1.on hg) (opd2.on hg)),
                    ok_or rfl opd0 (fun e => (opd1.on (notT e))),
                    ok_assign rfl opd0, trivial⟩ (by kernel_rfl) ?_
                clear hAt
                intro a w hAt
                replace hAt : At B h0 (mkG [(1, fV (Rep.slice r_i64) x1), (2, fRef GCoat.rep x0), (7, fV r_i64 o6), (8, fV Rep.bool (s2.2.1 || (cmpI .lss (IntKind.i64.wrap (10 * v3)) (IntKind.i64.wrap (9 * x0.Nominal))))), (9, fV Rep.bool (s2.2.2.1 || (cmpI .gtr v3 x0.Most))), (10, fV r_i64 s2.2.2.2)]) (mkO []) F 68 a w := hAt
                refine blk_n ?_
                refine then_n ?_
                refine reg [⟨fV r_i64 s2.2.2.2, [], [(10, none)], []⟩,
                    ⟨fV r_i64 (IntKind.i64.wrap (s2.2.2.2 + 1)), [], [(27, some 0)], []⟩,
                    ⟨fV r_i64 (IntKind.i64.wrap (s2.2.2.2 + 1)), [], [(28, some 1)], []⟩] [1, 2, 7, 8, 9, 10] [] hAt
                    ⟨ok_move rfl opd0,
                    ok_add rfl opd0 opdI,
                    ok_assign rfl opd0, trivial⟩ (by kernel_rfl) ?_
                clear hAt
                intro a w hAt
                replace hAt : At B h0 (mkG [(1, fV (Rep.slice r_i64) x1), (2, fRef GCoat.rep x0), (7, fV r_i64 o6), (8, fV Rep.bool (s2.2.1 || (cmpI .lss (IntKind.i64.wrap (10 * v3)) (IntKind.i64.wrap (9 * x0.Nominal))))), (9, fV Rep.bool (s2.2.2.1 || (cmpI .gtr v3 x0.Most))), (10, fV r_i64 (IntKind.i64.wrap (s2.2.2.2 + 1)))]) (mkO []) F 68 a w := hAt
                cases H
                exact ⟨rfl, hAt.pick [1, 2, 7, 8, 9, 10] []⟩
          · intro hb9
            have H := iteF hb9 H
            refine wp_exit ?_
            refine then_x ?_
            cases H
            exact ⟨ex_ne, rfl, hAt.pick [1, 7, 8, 9] []⟩
        · exact hAt.pick [1, 2, 7, 8, 9, 10] []
        · clear hAt
          intro e a w hp
          cases o10 with
          | inl l12 =>
            rw [Sum.elim_inl] at H
            obtain ⟨rfl, hAt⟩ := hp
            refine blk_eq ?_
            refine then_n ?_
            refine wp_seq ?_
            refine wp_seq ?_
            refine reg [⟨fV Rep.bool l12.2.2, [], [(9, none)], []⟩] [1, 7, 8, 58] [] hAt
                ⟨ok_move rfl opd0, trivial⟩ (by kernel_rfl) ?_
            clear hAt
            intro a w hAt
            replace hAt : At B h0 (mkG [(1, fV (Rep.slice r_i64) x1), (7, fV r_i64 l12.1), (8, fV Rep.bool l12.2.1), (58, fV Rep.bool l12.2.2)]) (mkO []) F 68 a w := hAt
            refine then_n ?_
            refine wp_if hAt (by rfl) ?_ ?_
            · intro hb15
              have H := iteT hb15 H
              refine wp_seq ?_
              refine reg [⟨fV r_i64 1, [], [], []⟩,
                  ⟨fV r_i64 0, [], [], []⟩] [4, 5] [] hAt
                  ⟨ok_assign rfl opdI,
                  ok_assign rfl opdI, trivial⟩ (by kernel_rfl) ?_
              clear hAt
              intro a w hAt
              replace hAt : At B h0 (mkG [(4, fV r_i64 1), (5, fV r_i64 0)]) (mkO []) F 68 a w := hAt
              refine then_n ?_
              refine wp_ret ?_
              refine then_r ?_
              cases H
              exact ret2 rfl (rv_tmp rfl rfl) (rv_tmp rfl rfl) hAt
            · intro hb15
              have H := iteF hb15 H
              refine wp_skip ?_
              refine then_n ?_
              refine wp_seq ?_
              refine wp_seq ?_
              refine reg [⟨fV Rep.bool l12.2.1, [], [(8, none)], []⟩,
                  ⟨fV Rep.bool l12.2.1, [], [(59, some 0)], []⟩,
                  ⟨Fact.when ((!l12.2.1) = true) (fV r_i64 l12.1), [], [(60, some 1), (7, none)], []⟩,
                  ⟨Fact.when ((!l12.2.1) = true) (fV r_i64 (IntKind.i64.wrap (10 * l12.1))), [], [(60, some 1), (61, some 2)], []⟩,
                  ⟨Fact.when ((!l12.2.1) = true) (fV (Rep.slice r_i64) x1), [], [(60, some 1), (1, none)], []⟩,
                  ⟨Fact.when ((!l12.2.1) = true) (fV r_i64 (List.length x1 : Int)), [], [(60, some 1), (63, some 4)], []⟩,
                  ⟨Fact.when ((!l12.2.1) = true) (fV r_i64 (IntKind.i64.wrap (9 * (List.length x1 : Int)))), [], [(60, some 1), (64, some 5)], []⟩,
                  ⟨Fact.when ((!l12.2.1) = true) (fV Rep.bool (cmpI .lss (IntKind.i64.wrap (10 * l12.1)) (IntKind.i64.wrap (9 * (List.length x1 : Int))))), [], [(60, some 1), (62, some 3), (65, some 6)], []⟩,
                  ⟨fV Rep.bool (l12.2.1 || (cmpI .lss (IntKind.i64.wrap (10 * l12.1)) (IntKind.i64.wrap (9 * (List.length x1 : Int))))), [], [(60, some 1), (66, some 7)], []⟩] [67] [] hAt
                  ⟨ok_move rfl opd0,
                  ok_move rfl opd0,
                  obl_tf rfl rfl rfl rfl rfl rfl rfl (fun hg => ok_move rfl opd1),
                  obl_tf rfl rfl rfl rfl rfl rfl rfl (fun hg => ok_mul rfl opdI (opd1.on hg)),
                  obl_tf rfl rfl rfl rfl rfl rfl rfl (fun hg => ok_move rfl opd1),
                  obl_tf rfl rfl rfl rfl rfl rfl rfl (fun hg => ok_len un22 rfl (opd1.on hg)),
                  obl_tf rfl rfl rfl rfl rfl rfl rfl (fun hg => ok_mul rfl opdI (opd1.on hg)),
                  obl_tf rfl rfl rfl rfl rfl rfl rfl (fun hg => ok_cmp (op := .lss) (by simp) rfl rfl (opd1.on hg) (opd2.on hg)),
                  ok_or rfl opd0 (fun e => (opd1.on (notT e))), trivial⟩ (by kernel_rfl) ?_
              clear hAt
              intro a w hAt
              replace hAt : At B h0 (mkG [(67, fV Rep.bool (l12.2.1 || (cmpI .lss (IntKind.i64.wrap (10 * l12.1)) (IntKind.i64.wrap (9 * (List.length x1 : Int))))))]) (mkO []) F 68 a w := hAt
              refine then_n ?_
              refine wp_if hAt (by rfl) ?_ ?_
              · intro hb14
                have H := iteT hb14 H
                refine wp_seq ?_
                refine reg [⟨fV r_i64 2, [], [], []⟩,
                    ⟨fV r_i64 0, [], [], []⟩] [4, 5] [] hAt
                    ⟨ok_assign rfl opdI,
                    ok_assign rfl opdI, trivial⟩ (by kernel_rfl) ?_
                clear hAt
                intro a w hAt
                replace hAt : At B h0 (mkG [(4, fV r_i64 2), (5, fV r_i64 0)]) (mkO []) F 68 a w := hAt
                refine then_n ?_
                refine wp_ret ?_
                refine then_r ?_
                cases H
                exact ret2 rfl (rv_tmp rfl rfl) (rv_tmp rfl rfl) hAt
              · intro hb14
                have H := iteF hb14 H
                refine wp_skip ?_
                refine then_n ?_
                refine wp_seq ?_
                refine reg [⟨fV r_i64 0, [], [], []⟩,
                    ⟨fV r_i64 0, [], [], []⟩] [4, 5] [] hAt
                    ⟨ok_assign rfl opdI,
                    ok_assign rfl opdI, trivial⟩ (by kernel_rfl) ?_
                clear hAt
                intro a w hAt
                replace hAt : At B h0 (mkG [(4, fV r_i64 0), (5, fV r_i64 0)]) (mkO []) F 68 a w := hAt
                refine then_n ?_
                refine wp_ret ?_
                cases H
                exact ret2 rfl (rv_tmp rfl rfl) (rv_tmp rfl rfl) hAt
          | inr r13 =>
            rw [Sum.elim_inr] at H
            replace hp := hp
            obtain ⟨rfl, hAt⟩ := hp
            refine blk_r ?_
            refine then_r ?_
            cases H
            exact ret2 rfl (rv_tmp rfl rfl) (rv_tmp rfl rfl) hAt
theorem ok_f_survey_CheckScheme (N : Nat) (x0 : (List GCoat)) (r : Int) (H : f_survey_CheckScheme N x0 = some r) : FnOk Try.prog 52 [fV (Rep.slice GCoat.rep) x0] (fV r_i64 r) := by
  unfold f_survey_CheckScheme at H
  refine fn_enter Try.func52 rfl rfl (by kernel_rfl) ?_
  intro κ B h0 F a w hAt
  refine wp_seq ?_
  refine reg [⟨fV r_i64 0, [], [], []⟩] [0] [] hAt
      ⟨ok_assign rfl opdI, trivial⟩ (by kernel_rfl) ?_
  clear hAt
  intro a w hAt
  replace hAt : At B h0 (mkG [(0, fV (Rep.slice GCoat.rep) x0)]) (mkO []) F 41 a w := hAt
  refine then_n ?_
  refine wp_seq ?_
  refine wp_block ?_
  refine wp_seq ?_
  refine reg [⟨fV (Rep.slice GCoat.rep) x0, [], [(0, none)], []⟩,
      ⟨fV r_i64 (List.length x0 : Int), [], [(8, some 0)], []⟩,
      ⟨fV Rep.bool (cmpI .eql (List.length x0 : Int) 0), [], [(9, some 1)], []⟩,
      ⟨fV Rep.bool (cmpI .eql (List.length x0 : Int) 0), [], [(10, some 2)], []⟩] [0, 7] [] hAt
      ⟨ok_move rfl opd0,
      ok_len un93 rfl opd0,
      ok_cmp (op := .eql) (by simp) rfl rfl opd0 opdI,
      ok_assign rfl opd0, trivial⟩ (by kernel_rfl) ?_
  clear hAt
  intro a w hAt
  replace hAt : At B h0 (mkG [(0, fV (Rep.slice GCoat.rep) x0), (7, fV Rep.bool (cmpI .eql (List.length x0 : Int) 0))]) (mkO []) F 41 a w := hAt
  refine then_n ?_
  refine wp_if hAt (by rfl) ?_ ?_
  · intro hb15
    have H := iteT hb15 H
    refine wp_seq ?_
    refine reg [⟨fV r_i64 11, [], [], []⟩] [2] [] hAt
        ⟨ok_assign rfl opdI, trivial⟩ (by kernel_rfl) ?_
    clear hAt
    intro a w hAt
    replace hAt : At B h0 (mkG [(2, fV r_i64 11)]) (mkO []) F 41 a w := hAt
    refine then_n ?_
    refine wp_ret ?_
    refine blk_r ?_
    refine then_r ?_
    cases H
    exact ret1 rfl (rv_tmp rfl rfl) hAt
  · intro hb15
    have H := iteF hb15 H
    refine wp_seq ?_
    refine reg [⟨fV (Rep.slice GCoat.rep) x0, [], [(0, none)], []⟩,
        ⟨fV r_i64 (List.length x0 : Int), [], [(12, some 0)], []⟩,
        ⟨fV Rep.bool (cmpI .gtr (List.length x0 : Int) 8), [], [(13, some 1)], []⟩,
        ⟨fV Rep.bool (cmpI .gtr (List.length x0 : Int) 8), [], [(14, some 2)], []⟩] [0, 11] [] hAt
        ⟨ok_move rfl opd0,
        ok_len un93 rfl opd0,
        ok_cmp (op := .gtr) (by simp) rfl rfl opd0 opdI,
        ok_assign rfl opd0, trivial⟩ (by kernel_rfl) ?_
    clear hAt
    intro a w hAt
    replace hAt : At B h0 (mkG [(0, fV (Rep.slice GCoat.rep) x0), (11, fV Rep.bool (cmpI .gtr (List.length x0 : Int) 8))]) (mkO []) F 41 a w := hAt
    refine then_n ?_
    refine wp_if hAt (by rfl) ?_ ?_
    · intro hb14
      have H := iteT hb14 H
      refine wp_seq ?_
      refine reg [⟨fV r_i64 8, [], [], []⟩] [2] [] hAt
          ⟨ok_assign rfl opdI, trivial⟩ (by kernel_rfl) ?_
      clear hAt
      intro a w hAt
      replace hAt : At B h0 (mkG [(2, fV r_i64 8)]) (mkO []) F 41 a w := hAt
      refine then_n ?_
      refine wp_ret ?_
      refine blk_r ?_
      refine then_r ?_
      cases H
      exact ret1 rfl (rv_tmp rfl rfl) hAt
    · intro hb14
      have H := iteF hb14 H
      refine wp_skip ?_
      refine blk_n ?_
      refine then_n ?_
      refine wp_seq ?_
      refine reg [⟨Fact.triv, [(15, some (mapE kStr Rep.bool ([] : (List (Str × Bool)))))], [], []⟩,
          ⟨Fact.triv, [(15, none), (3, some (mapE kStr Rep.bool ([] : (List (Str × Bool)))))], [], [(15, some 0)]⟩] [0] [3] hAt
          ⟨ok_makeMap rfl rfl,
          (ok_moveOwn (f := Fact.triv) rfl rfl (.inr rfl) (fun _ _ _ => trivial)), trivial⟩ (by kernel_rfl) ?_
      clear hAt
      intro a w hAt
      replace hAt : At B h0 (mkG [(0, fV (Rep.slice GCoat.rep) x0)]) (mkO [(3, mapE kStr Rep.bool ([] : (List (Str × Bool))))]) F 41 a w := hAt
      refine then_n ?_
      refine wp_seq ?_
      refine wp_seq ?_
      refine reg [⟨fV (Rep.slice GCoat.rep) x0, [], [(0, none)], []⟩,
          ⟨fV r_i64 (List.length x0 : Int), [], [(16, some 0)], []⟩,
          ⟨fV r_i64 0, [], [], []⟩] [16, 17, 18] [3] hAt
          ⟨ok_move rfl opd0,
          ok_len un93 rfl opd0,
          ok_move rfl opdI, trivial⟩ (by kernel_rfl) ?_
      clear hAt
      intro a w hAt
      replace hAt : At B h0 (mkG [(16, fV (Rep.slice GCoat.rep) x0), (17, fV r_i64 (List.length x0 : Int)), (18, fV r_i64 0)]) (mkO [(3, mapE kStr Rep.bool ([] : (List (Str × Bool))))]) F 41 a w := hAt
      refine then_n ?_
      refine wp_block ?_
      obtain ⟨o9, hl10, H⟩ := bindE H
      refine wp_mono (wp_loopN (f := f_survey_CheckScheme_L1 N x0) (fun (s1 : ((List (Str × Bool)) × Int)) a w => At B h0 (mkG [(16, fV (Rep.slice GCoat.rep) x0), (17, fV r_i64 (List.length x0 : Int)), (18, fV r_i64 s1.2)]) (mkO [(3, mapE kStr Rep.bool s1.1)]) F 41 a w) (fun o e a w => (Sum.elim (fun v => e = .exit 1 ∧ At B h0 (mkG []) (mkO []) F 41 a w) (fun v => e = .ret ∧ At B h0 (mkG [(2, fV r_i64 v)]) (mkO []) F 41 a w)) o) ?_ N (([] : (List (Str × Bool))), 0) o9 _ _ hl10 ?_) ?_
      · clear H hAt hl10
        intro s1 r13 a w H hAt
        unfold f_survey_CheckScheme_L1 at H
        refine wp_seq ?_
        refine reg [⟨fV Rep.bool (cmpI .lss s1.2 (List.length x0 : Int)), [], [(18, none), (17, none)], []⟩] [16, 17, 18, 19] [3] hAt
            ⟨ok_cmp (op := .lss) (by simp) rfl rfl opd0 opd1, trivial⟩ (by kernel_rfl) ?_
        clear hAt
        intro a w hAt
        replace hAt : At B h0 (mkG [(16, fV (Rep.slice GCoat.rep) x0), (17, fV r_i64 (List.length x0 : Int)), (18, fV r_i64 s1.2), (19, fV Rep.bool (cmpI .lss s1.2 (List.length x0 : Int)))]) (mkO [(3, mapE kStr Rep.bool s1.1)]) F 41 a w := hAt
        refine then_n ?_
        refine wp_seq ?_
        refine wp_if hAt (by rfl) ?_ ?_
        · intro hb8
          have H := iteT hb8 H
          refine wp_skip ?_
          refine then_n ?_
          refine wp_seq ?_
          refine wp_block ?_
          refine wp_seq ?_
          obtain ⟨v2, hv2, H⟩ := bindE H
          refine reg [⟨fRef GCoat.rep v2, [], [(16, none), (18, none)], []⟩,
              ⟨fV GCoat.rep v2, [], [(20, some 0)], []⟩,
              ⟨Fact.triv, [(5, some (boxE 95 GCoat.rep (⟨[], 0, 0, 0, 0⟩ : GCoat)))], [], []⟩,
              ⟨Fact.triv, [(5, some (boxE 95 GCoat.rep v2))], [(21, some 1)], [(5, some 2)]⟩] [16, 17, 18] [3, 5] hAt
              ⟨ok_index ty95 un93 hv2 rfl opd0 opd1,
              ok_load ty95 rfl opd0,
              ok_alloc ty95 rfl rfl,
              ok_storeBox ty95 rfl rfl opd0, trivial⟩ (by kernel_rfl) ?_
          clear hAt
          intro a w hAt
          replace hAt : At B h0 (mkG [(16, fV (Rep.slice GCoat.rep) x0), (17, fV r_i64 (List.length x0 : Int)), (18, fV r_i64 s1.2)]) (mkO [(3, mapE kStr Rep.bool s1.1), (5, boxE 95 GCoat.rep v2)]) F 41 a w := hAt
          refine then_n ?_
          refine wp_seq ?_
          refine wp_block ?_
          refine wp_seq ?_
          obtain ⟨v3, hv3, H⟩ := bindE H
          refine reg [⟨fOff 5 0, [], [], [(5, none)]⟩,
              ⟨fV Rep.str v2.Name, [], [(23, some 0)], [(5, none)]⟩,
              ⟨fV Rep.bool v3, [], [(24, some 1)], []⟩,
              ⟨fV Rep.bool (!v3), [], [(25, some 2)], []⟩,
              ⟨fV Rep.bool (!v3), [], [(26, some 3)], []⟩] [16, 17, 18, 22] [3, 5] hAt
              ⟨ok_fieldOwn fo95_0 rfl,
              ok_loadOwn GCoat.l0 ty9 rfl opd0,
              ok_call (ok_f_survey_name N v2.Name _ hv3) Try.func70 (by kernel_rfl) (by kernel_rfl) rfl ⟨opd0, trivial⟩,
              ok_not rfl opd0,
              ok_assign rfl opd0, trivial⟩ (by kernel_rfl) ?_
          clear hAt
          intro a w hAt
          replace hAt : At B h0 (mkG [(16, fV (Rep.slice GCoat.rep) x0), (17, fV r_i64 (List.length x0 : Int)), (18, fV r_i64 s1.2), (22, fV Rep.bool (!v3))]) (mkO [(3, mapE kStr Rep.bool s1.1), (5, boxE 95 GCoat.rep v2)]) F 41 a w := hAt
          refine then_n ?_
          refine wp_if hAt (by rfl) ?_ ?_
          · intro hb7
            have H := iteT hb7 H
            refine wp_seq ?_
            refine reg [⟨fV r_i64 4, [], [], []⟩] [2] [] hAt
                ⟨ok_assign rfl opdI, trivial⟩ (by kernel_rfl) ?_
            clear hAt
            intro a w hAt
            replace hAt : At B h0 (mkG [(2, fV r_i64 4)]) (mkO []) F 41 a w := hAt
            refine then_n ?_
            refine wp_ret ?_
            refine blk_r ?_
            refine then_r ?_
            refine blk_r ?_
            refine then_r ?_
            cases H
            exact ⟨ret_ne, rfl, hAt.pick [2] []⟩
          · intro hb7
            have H := iteF hb7 H
            refine wp_seq ?_
            refine reg [⟨fCp 3, [], [], []⟩,
                ⟨fOff 5 0, [], [], [(5, none)]⟩,
                ⟨fV Rep.str v2.Name, [], [(29, some 1)], [(5, none)]⟩,
                ⟨fV Rep.bool (mget false s1.1 v2.Name), [], [(28, some 0), (30, some 2)], [(3, none)]⟩,
                ⟨fV Rep.bool (mget false s1.1 v2.Name), [], [(31, some 3)], []⟩] [16, 17, 18, 27] [3, 5] hAt
                ⟨ok_cp rfl,
                ok_fieldOwn fo95_0 rfl,
                ok_loadOwn GCoat.l0 ty9 rfl opd0,
                ok_lookup ko9 ty4 un150 rfl opd0 opd1,
                ok_assign rfl opd0, trivial⟩ (by kernel_rfl) ?_
            clear hAt
            intro a w hAt
            replace hAt : At B h0 (mkG [(16, fV (Rep.slice GCoat.rep) x0), (17, fV r_i64 (List.length x0 : Int)), (18, fV r_i64 s1.2), (27, fV Rep.bool (mget false s1.1 v2.Name))]) (mkO [(3, mapE kStr Rep.bool s1.1), (5, boxE 95 GCoat.rep v2)]) F 41 a w := hAt
            refine then_n ?_
            refine wp_if hAt (by rfl) ?_ ?_
            · intro hb6
              have H := iteT hb6 H
              refine wp_seq ?_
              refine reg [⟨fV r_i64 5, [], [], []⟩] [2] [] hAt
                  ⟨ok_assign rfl opdI, trivial⟩ (by kernel_rfl) ?_
              clear hAt
              intro a w hAt
              replace hAt : At B h0 (mkG [(2, fV r_i64 5)]) (mkO []) F 41 a w := hAt
              refine then_n ?_
              refine wp_ret ?_
              refine blk_r ?_
              refine then_r ?_
              refine blk_r ?_
              refine then_r ?_
              cases H
              exact ⟨ret_ne, rfl, hAt.pick [2] []⟩
            · intro hb6
              have H := iteF hb6 H
              refine wp_skip ?_
              refine blk_n ?_
              refine then_n ?_
              refine wp_seq ?_
              refine wp_seq ?_
              obtain ⟨v4, hv4, H⟩ := bindE H
              refine reg [⟨fV GCoat.rep v2, [], [], [(5, none)]⟩,
                  ⟨fV r_i64 v4, [], [(32, some 0)], []⟩,
                  ⟨fV r_i64 v4, [], [(33, some 1)], []⟩] [6, 16, 17, 18] [3, 5] hAt
                  ⟨ok_loadBox ty95 rfl,
                  ok_call (ok_f_survey_checkCoat N v2 _ hv4) Try.func89 (by kernel_rfl) (by kernel_rfl) rfl ⟨opd0, trivial⟩,
                  ok_assign rfl opd0, trivial⟩ (by kernel_rfl) ?_
              clear hAt
              intro a w hAt
              replace hAt : At B h0 (mkG [(6, fV r_i64 v4), (16, fV (Rep.slice GCoat.rep) x0), (17, fV r_i64 (List.length x0 : Int)), (18, fV r_i64 s1.2)]) (mkO [(3, mapE kStr Rep.bool s1.1), (5, boxE 95 GCoat.rep v2)]) F 41 a w := hAt
              refine then_n ?_
              refine wp_seq ?_
              refine reg [⟨fV r_i64 v4, [], [(6, none)], []⟩,
                  ⟨fV Rep.bool (cmpI .neq v4 0), [], [(34, some 0)], []⟩] [6, 16, 17, 18, 35] [3, 5] hAt
                  ⟨ok_move rfl opd0,
                  ok_cmp (op := .neq) (by simp) rfl rfl opd0 opdI, trivial⟩ (by kernel_rfl) ?_
              clear hAt
              intro a w hAt
              replace hAt : At B h0 (mkG [(6, fV r_i64 v4), (16, fV (Rep.slice GCoat.rep) x0), (17, fV r_i64 (List.length x0 : Int)), (18, fV r_i64 s1.2), (35, fV Rep.bool (cmpI .neq v4 0))]) (mkO [(3, mapE kStr Rep.bool s1.1), (5, boxE 95 GCoat.rep v2)]) F 41 a w := hAt
              refine then_n ?_
              refine wp_if hAt (by rfl) ?_ ?_
              · intro hb5
                have H := iteT hb5 H
                refine wp_seq ?_
                refine reg [⟨fV r_i64 v4, [], [(6, none)], []⟩,
                    ⟨fV r_i64 v4, [], [(36, some 0)], []⟩] [2] [] hAt
                    ⟨ok_move rfl opd0,
                    ok_assign rfl opd0, trivial⟩ (by kernel_rfl) ?_
                clear hAt
                intro a w hAt
                replace hAt : At B h0 (mkG [(2, fV r_i64 v4)]) (mkO []) F 41 a w := hAt
                refine then_n ?_
                refine wp_ret ?_
                refine then_r ?_
                refine blk_r ?_
                refine then_r ?_
                cases H
                exact ⟨ret_ne, rfl, hAt.pick [2] []⟩
              · intro hb5
                have H := iteF hb5 H
                refine wp_skip ?_
                refine then_n ?_
                refine reg [⟨fCp 3, [], [], []⟩,
                    ⟨fOff 5 0, [], [], [(5, none)]⟩,
                    ⟨fV Rep.str v2.Name, [], [(38, some 1)], [(5, none)]⟩,
                    ⟨Fact.triv, [(3, some (mapE kStr Rep.bool (mset s1.1 v2.Name true)))], [(37, some 0), (39, some 2)], [(3, none)]⟩] [16, 17, 18] [3] hAt
                    ⟨ok_cp rfl,
                    ok_fieldOwn fo95_0 rfl,
                    ok_loadOwn GCoat.l0 ty9 rfl opd0,
                    ok_mapUpdate ko9 un150 rfl (.inl rfl) opd0 opd1 opdB, trivial⟩ (by kernel_rfl) ?_
                clear hAt
                intro a w hAt
                replace hAt : At B h0 (mkG [(16, fV (Rep.slice GCoat.rep) x0), (17, fV r_i64 (List.length x0 : Int)), (18, fV r_i64 s1.2)]) (mkO [(3, mapE kStr Rep.bool (mset s1.1 v2.Name true))]) F 41 a w := hAt
                refine blk_n ?_
                refine then_n ?_
                refine reg [⟨fV r_i64 (IntKind.i64.wrap (s1.2 + 1)), [], [(18, none)], []⟩,
                    ⟨fV r_i64 (IntKind.i64.wrap (s1.2 + 1)), [], [(40, some 0)], []⟩] [16, 17, 18] [3] hAt
                    ⟨ok_add rfl opd0 opdI,
                    ok_move rfl opd0, trivial⟩ (by kernel_rfl) ?_
                clear hAt
                intro a w hAt
                replace hAt : At B h0 (mkG [(16, fV (Rep.slice GCoat.rep) x0), (17, fV r_i64 (List.length x0 : Int)), (18, fV r_i64 (IntKind.i64.wrap (s1.2 + 1)))]) (mkO [(3, mapE kStr Rep.bool (mset s1.1 v2.Name true))]) F 41 a w := hAt
                cases H
                exact ⟨rfl, hAt.pick [16, 17, 18] [3]⟩
        · intro hb8
          have H := iteF hb8 H
          refine wp_exit ?_
          refine then_x ?_
          cases H
          exact ⟨ex_ne, rfl, hAt.pick [] []⟩
      · exact hAt.pick [16, 17, 18] [3]
      · clear hAt
        intro e a w hp
        cases o9 with
        | inl l11 =>
          rw [Sum.elim_inl] at H
          obtain ⟨rfl, hAt⟩ := hp
          refine blk_eq ?_
          refine then_n ?_
          refine wp_seq ?_
          refine reg [⟨fV r_i64 0, [], [], []⟩] [2] [] hAt
              ⟨ok_assign rfl opdI, trivial⟩ (by kernel_rfl) ?_
          clear hAt
          intro a w hAt
          replace hAt : At B h0 (mkG [(2, fV r_i64 0)]) (mkO []) F 41 a w := hAt
          refine then_n ?_
          refine wp_ret ?_
          cases H
          exact ret1 rfl (rv_tmp rfl rfl) hAt
        | inr r12 =>
          rw [Sum.elim_inr] at H
          replace hp := hp
          obtain ⟨rfl, hAt⟩ := hp
          refine blk_r ?_
          refine then_r ?_
          cases H
          exact ret1 rfl (rv_tmp rfl rfl) hAt
theorem ok_f_ref09_CheckScheme (N : Nat) (x0 : (List GCoat)) (r : Int) (H : f_ref09_CheckScheme N x0 = some r) : FnOk Try.prog 53 [fV (Rep.slice GCoat.rep) x0] (fV r_i64 r) := by
  unfold f_ref09_CheckScheme at H
  refine fn_enter Try.func53 rfl rfl (by kernel_rfl) ?_
  intro κ B h0 F a w hAt
  refine wp_seq ?_
  refine reg [⟨fV r_i64 0, [], [], []⟩] [0] [] hAt
      ⟨ok_assign rfl opdI, trivial⟩ (by kernel_rfl) ?_
  clear hAt
  intro a w hAt
  replace hAt : At B h0 (mkG [(0, fV (Rep.slice GCoat.rep) x0)]) (mkO []) F 49 a w := hAt
  refine then_n ?_
  refine wp_seq ?_
  refine wp_seq ?_
  refine reg [⟨fV (Rep.slice GCoat.rep) x0, [], [(0, none)], []⟩,
      ⟨fV r_i64 (List.length x0 : Int), [], [(6, some 0)], []⟩,
      ⟨fV Rep.bool (cmpI .eql (List.length x0 : Int) 0), [], [(7, some 1)], []⟩] [0, 8] [] hAt
      ⟨ok_move rfl opd0,
      ok_len un93 rfl opd0,
      ok_cmp (op := .eql) (by simp) rfl rfl opd0 opdI, trivial⟩ (by kernel_rfl) ?_
  clear hAt
  intro a w hAt
  replace hAt : At B h0 (mkG [(0, fV (Rep.slice GCoat.rep) x0), (8, fV Rep.bool (cmpI .eql (List.length x0 : Int) 0))]) (mkO []) F 49 a w := hAt
  refine then_n ?_
  refine wp_if hAt (by rfl) ?_ ?_
  · intro hb25
    have H := iteT hb25 H
    refine wp_seq ?_
    refine reg [⟨fV r_i64 11, [], [], []⟩] [2] [] hAt
        ⟨ok_assign rfl opdI, trivial⟩ (by kernel_rfl) ?_
    clear hAt
    intro a w hAt
    replace hAt : At B h0 (mkG [(2, fV r_i64 11)]) (mkO []) F 49 a w := hAt
    refine then_n ?_
    refine wp_ret ?_
    refine then_r ?_
    cases H
    exact ret1 rfl (rv_tmp rfl rfl) hAt
  · intro hb25
    have H := iteF hb25 H
    refine wp_skip ?_
    refine then_n ?_
    refine wp_seq ?_
    refine wp_seq ?_
    refine reg [⟨fV (Rep.slice GCoat.rep) x0, [], [(0, none)], []⟩,
        ⟨fV r_i64 (List.length x0 : Int), [], [(9, some 0)], []⟩,
        ⟨fV Rep.bool (cmpI .gtr (List.length x0 : Int) 8), [], [(10, some 1)], []⟩] [0, 11] [] hAt
        ⟨ok_move rfl opd0,
        ok_len un93 rfl opd0,
        ok_cmp (op := .gtr) (by simp) rfl rfl opd0 opdI, trivial⟩ (by kernel_rfl) ?_
    clear hAt
    intro a w hAt
    replace hAt : At B h0 (mkG [(0, fV (Rep.slice GCoat.rep) x0), (11, fV Rep.bool (cmpI .gtr (List.length x0 : Int) 8))]) (mkO []) F 49 a w := hAt
    refine then_n ?_
    refine wp_if hAt (by rfl) ?_ ?_
    · intro hb24
      have H := iteT hb24 H
      refine wp_seq ?_
      refine reg [⟨fV r_i64 8, [], [], []⟩] [2] [] hAt
          ⟨ok_assign rfl opdI, trivial⟩ (by kernel_rfl) ?_
      clear hAt
      intro a w hAt
      replace hAt : At B h0 (mkG [(2, fV r_i64 8)]) (mkO []) F 49 a w := hAt
      refine then_n ?_
      refine wp_ret ?_
      refine then_r ?_
      cases H
      exact ret1 rfl (rv_tmp rfl rfl) hAt
    · intro hb24
      have H := iteF hb24 H
      refine wp_skip ?_
      refine then_n ?_
      refine wp_seq ?_
      refine wp_seq ?_
      refine reg [⟨fV r_i64 0, [], [], []⟩] [0, 3] [] hAt
          ⟨ok_assign rfl opdI, trivial⟩ (by kernel_rfl) ?_
      clear hAt
      intro a w hAt
      replace hAt : At B h0 (mkG [(0, fV (Rep.slice GCoat.rep) x0), (3, fV r_i64 0)]) (mkO []) F 49 a w := hAt
      refine then_n ?_
      refine wp_block ?_
      obtain ⟨o19, hl20, H⟩ := bindE H
      refine wp_mono (wp_loopN (f := f_ref09_CheckScheme_L2 N x0) (fun (s1 : Int) a w => At B h0 (mkG [(0, fV (Rep.slice GCoat.rep) x0), (3, fV r_i64 s1)]) (mkO []) F 49 a w) (fun o e a w => (Sum.elim (fun v => e = .exit 0 ∧ At B h0 (mkG []) (mkO []) F 49 a w) (fun v => e = .ret ∧ At B h0 (mkG [(2, fV r_i64 v)]) (mkO []) F 49 a w)) o) ?_ N 0 o19 _ _ hl20 ?_) ?_
      · clear H hAt hl20
        intro s1 r23 a w H hAt
        unfold f_ref09_CheckScheme_L2 at H
        refine wp_seq ?_
        refine wp_seq ?_
        refine reg [⟨fV r_i64 s1, [], [(3, none)], []⟩,
            ⟨fV (Rep.slice GCoat.rep) x0, [], [(0, none)], []⟩,
            ⟨fV r_i64 (List.length x0 : Int), [], [(13, some 1)], []⟩,
            ⟨fV Rep.bool (cmpI .lss s1 (List.length x0 : Int)), [], [(12, some 0), (14, some 2)], []⟩] [0, 3, 15] [] hAt
            ⟨ok_move rfl opd0,
            ok_move rfl opd0,
            ok_len un93 rfl opd0,
            ok_cmp (op := .lss) (by simp) rfl rfl opd0 opd1, trivial⟩ (by kernel_rfl) ?_
        clear hAt
        intro a w hAt
        replace hAt : At B h0 (mkG [(0, fV (Rep.slice GCoat.rep) x0), (3, fV r_i64 s1), (15, fV Rep.bool (cmpI .lss s1 (List.length x0 : Int)))]) (mkO []) F 49 a w := hAt
        refine then_n ?_
        refine wp_if hAt (by rfl) ?_ ?_
        · intro hb18
          have H := iteT hb18 H
          refine wp_skip ?_
          refine then_n ?_
          refine wp_seq ?_
          refine wp_block ?_
          refine wp_seq ?_
          refine wp_seq ?_
          obtain ⟨v2, hv2, H⟩ := bindE H
          obtain ⟨v3, hv3, H⟩ := bindE H
          refine reg [⟨fV (Rep.slice GCoat.rep) x0, [], [(0, none)], []⟩,
              ⟨fV r_i64 s1, [], [(3, none)], []⟩,
              ⟨fRef GCoat.rep v2, [], [(18, some 0), (19, some 1)], []⟩,
              ⟨fRef Rep.str v2.Name, [], [(20, some 2)], []⟩,
              ⟨fV Rep.str v2.Name, [], [(21, some 3)], []⟩,
              ⟨fV Rep.bool v3, [], [(22, some 4)], []⟩,
              ⟨fV Rep.bool (!v3), [], [(23, some 5)], []⟩] [0, 3, 24] [] hAt
              ⟨ok_move rfl opd0,
              ok_move rfl opd0,
              ok_index ty95 un93 hv2 rfl opd0 opd1,
              ok_field GCoat.l0 fo95_0 rfl opd0,
              ok_load ty9 rfl opd0,
              ok_call (ok_f_base_IsName N v2.Name _ hv3) Try.func68 (by kernel_rfl) (by kernel_rfl) rfl ⟨opd0, trivial⟩,
              ok_not rfl opd0, trivial⟩ (by kernel_rfl) ?_
          clear hAt
          intro a w hAt
          replace hAt : At B h0 (mkG [(0, fV (Rep.slice GCoat.rep) x0), (3, fV r_i64 s1), (24, fV Rep.bool (!v3))]) (mkO []) F 49 a w := hAt
          refine then_n ?_
          refine wp_if hAt (by rfl) ?_ ?_
          · intro hb17
            have H := iteT hb17 H
            refine wp_seq ?_
            refine reg [⟨fV r_i64 4, [], [], []⟩] [2] [] hAt
                ⟨ok_assign rfl opdI, trivial⟩ (by kernel_rfl) ?_
            clear hAt
            intro a w hAt
            replace hAt : At B h0 (mkG [(2, fV r_i64 4)]) (mkO []) F 49 a w := hAt
            refine then_n ?_
            refine wp_ret ?_
            refine then_r ?_
            refine blk_r ?_
            refine then_r ?_
            cases H
            exact ⟨ret_ne, rfl, hAt.pick [2] []⟩
          · intro hb17
            have H := iteF hb17 H
            refine wp_skip ?_
            refine then_n ?_
            refine wp_seq ?_
            refine wp_seq ?_
            refine reg [⟨fV r_i64 0, [], [], []⟩] [0, 3, 4] [] hAt
                ⟨ok_assign rfl opdI, trivial⟩ (by kernel_rfl) ?_
            clear hAt
            intro a w hAt
            replace hAt : At B h0 (mkG [(0, fV (Rep.slice GCoat.rep) x0), (3, fV r_i64 s1), (4, fV r_i64 0)]) (mkO []) F 49 a w := hAt
            refine then_n ?_
            refine wp_block ?_
            obtain ⟨o9, hl10, H⟩ := bindE H
            refine wp_mono (wp_loopN (f := f_ref09_CheckScheme_L1 N x0 s1) (fun (s4 : Int) a w => At B h0 (mkG [(0, fV (Rep.slice GCoat.rep) x0), (3, fV r_i64 s1), (4, fV r_i64 s4)]) (mkO []) F 49 a w) (fun o e a w => (Sum.elim (fun v => e = .exit 2 ∧ At B h0 (mkG [(0, fV (Rep.slice GCoat.rep) x0), (3, fV r_i64 s1)]) (mkO []) F 49 a w) (fun v => e = .ret ∧ At B h0 (mkG [(2, fV r_i64 v)]) (mkO []) F 49 a w)) o) ?_ N 0 o9 _ _ hl10 ?_) ?_
            · clear H hAt hl10
              intro s4 r16 a w H hAt
              unfold f_ref09_CheckScheme_L1 at H
              refine wp_seq ?_
              refine wp_seq ?_
              refine reg [⟨fV r_i64 s4, [], [(4, none)], []⟩,
                  ⟨fV r_i64 s1, [], [(3, none)], []⟩,
                  ⟨fV Rep.bool (cmpI .lss s4 s1), [], [(25, some 0), (26, some 1)], []⟩] [0, 3, 4, 27] [] hAt
                  ⟨ok_move rfl opd0,
                  ok_move rfl opd0,
                  ok_cmp (op := .lss) (by simp) rfl rfl opd0 opd1, trivial⟩ (by kernel_rfl) ?_
              clear hAt
              intro a w hAt
              replace hAt : At B h0 (mkG [(0, fV (Rep.slice GCoat.rep) x0), (3, fV r_i64 s1), (4, fV r_i64 s4), (27, fV Rep.bool (cmpI .lss s4 s1))]) (mkO []) F 49 a w := hAt
              refine then_n ?_
              refine wp_if hAt (by rfl) ?_ ?_
              · intro hb8
                have H := iteT hb8 H
                refine wp_skip ?_
                refine then_n ?_
                refine wp_seq ?_
                refine wp_block ?_
                refine wp_seq ?_
                obtain ⟨v5, hv5, H⟩ := bindE H
                obtain ⟨v6, hv6, H⟩ := bindE H
                refine regd [⟨fV (Rep.slice GCoat.rep) x0, [], [(0, none)], []⟩,
                    ⟨fV r_i64 s4, [], [(4, none)], []⟩,
                    ⟨fRef GCoat.rep v5, [], [(30, some 0), (31, some 1)], []⟩,
                    ⟨fRef Rep.str v5.Name, [], [(32, some 2)], []⟩,
                    ⟨fV Rep.str v5.Name, [], [(33, some 3)], []⟩,
                    ⟨fV (Rep.slice GCoat.rep) x0, [], [(0, none)], []⟩,
                    ⟨fV r_i64 s1, [], [(3, none)], []⟩,
                    ⟨fRef GCoat.rep v6, [], [(35, some 5), (36, some 6)], []⟩,
                    ⟨fRef Rep.str v6.Name, [], [(37, some 7)], []⟩,
                    ⟨fV Rep.str v6.Name, [], [(38, some 8)], []⟩,
                    ⟨fV Rep.bool (cmpS .eql v5.Name v6.Name), [], [(34, some 4), (39, some 9)], []⟩] [0, 1, 2, 3, 4, 5, 6, 7, 8, 9, 10] [0, 1, 2, 3, 4, 5, 6, 7, 8, 9, 10] [0, 3, 4, 40] [] hAt
                    ⟨ok_move rfl opd0,
                    ok_move rfl opd0,
                    ok_index ty95 un93 hv5 rfl opd0 opd1,
                    ok_field GCoat.l0 fo95_0 rfl opd0,
                    ok_load ty9 rfl opd0,
                    ok_move rfl opd0,
                    ok_move rfl opd0,
                    ok_index ty95 un93 hv6 rfl opd0 opd1,
                    ok_field GCoat.l0 fo95_0 rfl opd0,
                    ok_load ty9 rfl opd0,
                    ok_cmpS (op := .eql) (by simp) rfl rfl opd0 opd1, trivial⟩ (by kernel_rfl) ?_
                clear hAt
                intro a w hAt
                replace hAt : At B h0 (mkG [(0, fV (Rep.slice GCoat.rep) x0), (3, fV r_i64 s1), (4, fV r_i64 s4), (40, fV Rep.bool (cmpS .eql v5.Name v6.Name))]) (mkO []) F 49 a w := hAt
                refine then_n ?_
                refine wp_if hAt (by rfl) ?_ ?_
                · intro hb7
                  have H := iteT hb7 H
                  refine wp_seq ?_
                  refine reg [⟨fV r_i64 5, [], [], []⟩] [2] [] hAt
                      ⟨ok_assign rfl opdI, trivial⟩ (by kernel_rfl) ?_
                  clear hAt
                  intro a w hAt
                  replace hAt : At B h0 (mkG [(2, fV r_i64 5)]) (mkO []) F 49 a w := hAt
                  refine then_n ?_
                  refine wp_ret ?_
                  refine blk_r ?_
                  refine then_r ?_
                  cases H
                  exact ⟨ret_ne, rfl, hAt.pick [2] []⟩
                · intro hb7
                  have H := iteF hb7 H
                  refine wp_skip ?_
                  refine blk_n ?_
                  refine then_n ?_
                  refine reg [⟨fV r_i64 s4, [], [(4, none)], []⟩,
                      ⟨fV r_i64 (IntKind.i64.wrap (s4 + 1)), [], [(28, some 0)], []⟩,
                      ⟨fV r_i64 (IntKind.i64.wrap (s4 + 1)), [], [(29, some 1)], []⟩] [0, 3, 4] [] hAt
                      ⟨ok_move rfl opd0,
                      ok_add rfl opd0 opdI,
                      ok_assign rfl opd0, trivial⟩ (by kernel_rfl) ?_
                  clear hAt
                  intro a w hAt
                  replace hAt : At B h0 (mkG [(0, fV (Rep.slice GCoat.rep) x0), (3, fV r_i64 s1), (4, fV r_i64 (IntKind.i64.wrap (s4 + 1)))]) (mkO []) F 49 a w := hAt
                  cases H
                  exact ⟨rfl, hAt.pick [0, 3, 4] []⟩
              · intro hb8
                have H := iteF hb8 H
                refine wp_exit ?_
                refine then_x ?_
                cases H
                exact ⟨ex_ne, rfl, hAt.pick [0, 3] []⟩
            · exact hAt.pick [0, 3, 4] []
            · clear hAt
              intro e a w hp
              cases o9 with
              | inl l11 =>
                rw [Sum.elim_inl] at H
                obtain ⟨rfl, hAt⟩ := hp
                refine blk_eq ?_
                refine then_n ?_
                refine wp_seq ?_
                obtain ⟨v13, hv13, H⟩ := bindE H
                obtain ⟨v14, hv14, H⟩ := bindE H
                refine reg [⟨fV (Rep.slice GCoat.rep) x0, [], [(0, none)], []⟩,
                    ⟨fV r_i64 s1, [], [(3, none)], []⟩,
                    ⟨fRef GCoat.rep v13, [], [(41, some 0), (42, some 1)], []⟩,
                    ⟨fV GCoat.rep v13, [], [(43, some 2)], []⟩,
                    ⟨fV r_i64 v14, [], [(44, some 3)], []⟩,
                    ⟨fV r_i64 v14, [], [(45, some 4)], []⟩] [0, 3, 5] [] hAt
                    ⟨ok_move rfl opd0,
                    ok_move rfl opd0,
                    ok_index ty95 un93 hv13 rfl opd0 opd1,
                    ok_load ty95 rfl opd0,
                    ok_call (ok_f_ref09_coatRange N v13 _ hv14) Try.func93 (by kernel_rfl) (by kernel_rfl) rfl ⟨opd0, trivial⟩,
                    ok_assign rfl opd0, trivial⟩ (by kernel_rfl) ?_
                clear hAt
                intro a w hAt
                replace hAt : At B h0 (mkG [(0, fV (Rep.slice GCoat.rep) x0), (3, fV r_i64 s1), (5, fV r_i64 v14)]) (mkO []) F 49 a w := hAt
                refine then_n ?_
                refine wp_seq ?_
                refine reg [⟨fV r_i64 v14, [], [(5, none)], []⟩,
                    ⟨fV Rep.bool (cmpI .neq v14 0), [], [(46, some 0)], []⟩] [0, 3, 5, 47] [] hAt
                    ⟨ok_move rfl opd0,
                    ok_cmp (op := .neq) (by simp) rfl rfl opd0 opdI, trivial⟩ (by kernel_rfl) ?_
                clear hAt
                intro a w hAt
                replace hAt : At B h0 (mkG [(0, fV (Rep.slice GCoat.rep) x0), (3, fV r_i64 s1), (5, fV r_i64 v14), (47, fV Rep.bool (cmpI .neq v14 0))]) (mkO []) F 49 a w := hAt
                refine then_n ?_
                refine wp_if hAt (by rfl) ?_ ?_
                · intro hb15
                  have H := iteT hb15 H
                  refine wp_seq ?_
                  refine reg [⟨fV r_i64 v14, [], [(5, none)], []⟩,
                      ⟨fV r_i64 v14, [], [(48, some 0)], []⟩] [2] [] hAt
                      ⟨ok_move rfl opd0,
                      ok_assign rfl opd0, trivial⟩ (by kernel_rfl) ?_
                  clear hAt
                  intro a w hAt
                  replace hAt : At B h0 (mkG [(2, fV r_i64 v14)]) (mkO []) F 49 a w := hAt
                  refine then_n ?_
                  refine wp_ret ?_
                  refine blk_r ?_
                  refine then_r ?_
                  cases H
                  exact ⟨ret_ne, rfl, hAt.pick [2] []⟩
                · intro hb15
                  have H := iteF hb15 H
                  refine wp_skip ?_
                  refine blk_n ?_
                  refine then_n ?_
                  refine reg [⟨fV r_i64 s1, [], [(3, none)], []⟩,
                      ⟨fV r_i64 (IntKind.i64.wrap (s1 + 1)), [], [(16, some 0)], []⟩,
                      ⟨fV r_i64 (IntKind.i64.wrap (s1 + 1)), [], [(17, some 1)], []⟩] [0, 3] [] hAt
                      ⟨ok_move rfl opd0,
                      ok_add rfl opd0 opdI,
                      ok_assign rfl opd0, trivial⟩ (by kernel_rfl) ?_
                  clear hAt
                  intro a w hAt
                  replace hAt : At B h0 (mkG [(0, fV (Rep.slice GCoat.rep) x0), (3, fV r_i64 (IntKind.i64.wrap (s1 + 1)))]) (mkO []) F 49 a w := hAt
                  cases H
                  exact ⟨rfl, hAt.pick [0, 3] []⟩
              | inr r12 =>
                rw [Sum.elim_inr] at H
                replace hp := hp
                obtain ⟨rfl, hAt⟩ := hp
                refine blk_r ?_
                refine then_r ?_
                refine blk_r ?_
                refine then_r ?_
                cases H
                exact ⟨ret_ne, rfl, hAt.pick [2] []⟩
        · intro hb18
          have H := iteF hb18 H
          refine wp_exit ?_
          refine then_x ?_
          cases H
          exact ⟨ex_ne, rfl, hAt.pick [] []⟩
      · exact hAt.pick [0, 3] []
      · clear hAt
        intro e a w hp
        cases o19 with
        | inl l21 =>
          rw [Sum.elim_inl] at H
          obtain ⟨rfl, hAt⟩ := hp
          refine blk_eq ?_
          refine then_n ?_
          refine wp_seq ?_
          refine reg [⟨fV r_i64 0, [], [], []⟩] [2] [] hAt
              ⟨ok_assign rfl opdI, trivial⟩ (by kernel_rfl) ?_
          clear hAt
          intro a w hAt
          replace hAt : At B h0 (mkG [(2, fV r_i64 0)]) (mkO []) F 49 a w := hAt
          refine then_n ?_
          refine wp_ret ?_
          cases H
          exact ret1 rfl (rv_tmp rfl rfl) hAt
        | inr r22 =>
          rw [Sum.elim_inr] at H
          replace hp := hp
          obtain ⟨rfl, hAt⟩ := hp
          refine blk_r ?_
          refine then_r ?_
          cases H
          exact ret1 rfl (rv_tmp rfl rfl) hAt
theorem ok_f_law09_SurveyCoats (N : Nat) (x0 : (List GCoat)) (x1 : GCoat) (x2 : (List Int)) (r : Bool) (H : f_law09_SurveyCoats N x0 x1 x2 = some r) : FnOk Try.prog 9 [fV (Rep.slice GCoat.rep) x0, fV GCoat.rep x1, fV (Rep.slice r_i64) x2] (fV Rep.bool r) := by
  unfold f_law09_SurveyCoats at H
  refine fn_enter Try.func9 rfl rfl (by kernel_rfl) ?_
  intro κ B h0 F a w hAt
  refine wp_seq ?_
  refine reg [⟨fRef GCoat.rep x1, [], [(1, none)], []⟩,
      ⟨fV Rep.bool false, [], [], []⟩] [0, 2, 4] [] hAt
      ⟨ok_box rfl opd0,
      ok_assign rfl opdB, trivial⟩ (by kernel_rfl) ?_
  clear hAt
  intro a w hAt
  replace hAt : At B h0 (mkG [(0, fV (Rep.slice GCoat.rep) x0), (2, fV (Rep.slice r_i64) x2), (4, fRef GCoat.rep x1)]) (mkO []) F 51 a w := hAt
  refine then_n ?_
  refine wp_seq ?_
  refine wp_seq ?_
  obtain ⟨v1, hv1, H⟩ := bindE H
  refine reg [⟨fV Rep.bool v1, [], [], []⟩,
      ⟨fV Rep.bool (!v1), [], [(11, some 0)], []⟩] [0, 2, 4, 12] [] hAt
      ⟨ok_call (ok_f_law09_awake N _ hv1) Try.func14 (by kernel_rfl) (by kernel_rfl) rfl trivial,
      ok_not rfl opd0, trivial⟩ (by kernel_rfl) ?_
  clear hAt
  intro a w hAt
  replace hAt : At B h0 (mkG [(0, fV (Rep.slice GCoat.rep) x0), (2, fV (Rep.slice r_i64) x2), (4, fRef GCoat.rep x1), (12, fV Rep.bool (!v1))]) (mkO []) F 51 a w := hAt
  refine then_n ?_
  refine wp_if hAt (by rfl) ?_ ?_
  · intro hb9
    have H := iteT hb9 H
    refine wp_seq ?_
    refine reg [⟨fV Rep.bool false, [], [], []⟩] [6] [] hAt
        ⟨ok_assign rfl opdB, trivial⟩ (by kernel_rfl) ?_
    clear hAt
    intro a w hAt
    replace hAt : At B h0 (mkG [(6, fV Rep.bool false)]) (mkO []) F 51 a w := hAt
    refine then_n ?_
    refine wp_ret ?_
    refine then_r ?_
    cases H
    exact ret1 rfl (rv_tmp rfl rfl) hAt
  · intro hb9
    have H := iteF hb9 H
    refine wp_skip ?_
    refine then_n ?_
    refine wp_seq ?_
    refine wp_seq ?_
    obtain ⟨v2, hv2, H⟩ := bindE H
    obtain ⟨v3, hv3, H⟩ := bindE H
    refine reg [⟨fV GCoat.rep x1, [], [(4, none)], []⟩,
        ⟨fV (Rep.slice GCoat.rep) [x1], [(14, some (tipE 95 GCoat.rep.sz))], [(13, some 0)], []⟩,
        ⟨fV (Rep.slice GCoat.rep) x0, [], [(0, none)], []⟩,
        ⟨fV (Rep.slice GCoat.rep) v2, [(14, none), (16, some (tipE 95 GCoat.rep.sz))], [(14, some 1), (15, some 2)], [(14, some 1)]⟩,
        ⟨fV Rep.bool v3, [], [(16, some 3)], []⟩,
        ⟨fV Rep.bool (!v3), [], [(17, some 4)], []⟩,
        ⟨fV Rep.bool (!v3), [], [(18, some 5)], []⟩,
        ⟨Fact.when ((!(!v3)) = true) (fV (Rep.slice r_i64) x2), [], [(19, some 6), (2, none)], []⟩,
        ⟨Fact.when ((!(!v3)) = true) (fV r_i64 (List.length x2 : Int)), [], [(19, some 6), (20, some 7)], []⟩,
        ⟨Fact.when ((!(!v3)) = true) (fV Rep.bool (cmpI .gtr (List.length x2 : Int) 110)), [], [(19, some 6), (21, some 8)], []⟩,
        ⟨fV Rep.bool ((!v3) || (cmpI .gtr (List.length x2 : Int) 110)), [], [(19, some 6), (22, some 9)], []⟩] [0, 2, 4, 23] [] hAt
        ⟨ok_load ty95 rfl opd0,
        ok_buildTip ty95 un93 rfl rfl rfl (fillC (Lens.arr _ _ 0 (by decide)) rfl opd0 fillN),
        ok_move rfl opd0,
        ok_appendB (b := 47) hv2 (by kernel_rfl) el95 un93 rfl rfl rfl opd0 opd1,
        ok_call (ok_f_law09_brief N v2 ([] : (List GPainting)) _ hv3) Try.func49 (by kernel_rfl) (by kernel_rfl) rfl ⟨opd0, ⟨opdN, trivial⟩⟩,
        ok_not rfl opd0,
        ok_move rfl opd0,
        obl_tf rfl rfl rfl rfl rfl rfl rfl (fun hg => ok_move rfl opd1),
        obl_tf rfl rfl rfl rfl rfl rfl rfl (fun hg => ok_len un22 rfl (opd1.on hg)),
        obl_tf rfl rfl rfl rfl rfl rfl rfl (fun hg => ok_cmp (op := .gtr) (by simp) rfl rfl (opd1.on hg) opdI),
        ok_or rfl opd0 (fun e => (opd1.on (notT e))), trivial⟩ (by kernel_rfl) ?_
    clear hAt
    intro a w hAt
    replace hAt : At B h0 (mkG [(0, fV (Rep.slice GCoat.rep) x0), (2, fV (Rep.slice r_i64) x2), (4, fRef GCoat.rep x1), (23, fV Rep.bool ((!v3) || (cmpI .gtr (List.length x2 : Int) 110)))]) (mkO []) F 51 a w := hAt
    refine then_n ?_
    refine wp_if hAt (by rfl) ?_ ?_
    · intro hb8
      have H := iteT hb8 H
      refine wp_seq ?_
      refine reg [⟨fV Rep.bool true, [], [], []⟩] [6] [] hAt
          ⟨ok_assign rfl opdB, trivial⟩ (by kernel_rfl) ?_
      clear hAt
      intro a w hAt
      replace hAt : At B h0 (mkG [(6, fV Rep.bool true)]) (mkO []) F 51 a w := hAt
      refine then_n ?_
      refine wp_ret ?_
      refine then_r ?_
      cases H
      exact ret1 rfl (rv_tmp rfl rfl) hAt
    · intro hb8
      have H := iteF hb8 H
      refine wp_skip ?_
      refine then_n ?_
      refine wp_seq ?_
      obtain ⟨v4, hv4, H⟩ := bindE H
      refine reg [⟨fV GCoat.rep x1, [], [(4, none)], []⟩,
          ⟨fV (Rep.slice r_i64) x2, [], [(2, none)], []⟩,
          ⟨fT2 (fV r_i64 v4.1) (fV r_i64 v4.2), [], [(25, some 0), (26, some 1)], []⟩,
          ⟨fT2 (fV r_i64 v4.1) (fV r_i64 v4.2), [], [(27, some 2)], []⟩,
          ⟨fV r_i64 v4.1, [], [(24, some 3)], []⟩,
          ⟨fV r_i64 v4.2, [], [(24, some 3)], []⟩,
          ⟨fV r_i64 v4.1, [], [(28, some 4)], []⟩,
          ⟨fV r_i64 v4.2, [], [(29, some 5)], []⟩] [0, 2, 4, 7, 8] [] hAt
          ⟨ok_load ty95 rfl opd0,
          ok_move rfl opd0,
          ok_call (ok_f_survey_Thickness N x1 x2 _ hv4) Try.func50 (by kernel_rfl) (by kernel_rfl) rfl ⟨opd0, ⟨opd1, trivial⟩⟩,
          ok_move rfl opd0,
          ok_ext20 rfl rfl opd0,
          ok_ext21 rfl rfl opd0,
          ok_assign rfl opd0,
          ok_assign rfl opd0, trivial⟩ (by kernel_rfl) ?_
      clear hAt
      intro a w hAt
      replace hAt : At B h0 (mkG [(0, fV (Rep.slice GCoat.rep) x0), (2, fV (Rep.slice r_i64) x2), (4, fRef GCoat.rep x1), (7, fV r_i64 v4.1), (8, fV r_i64 v4.2)]) (mkO []) F 51 a w := hAt
      refine then_n ?_
      refine wp_seq ?_
      obtain ⟨v5, hv5, H⟩ := bindE H
      refine reg [⟨fV GCoat.rep x1, [], [(4, none)], []⟩,
          ⟨fV (Rep.slice r_i64) x2, [], [(2, none)], []⟩,
          ⟨fT2 (fV r_i64 v5.1) (fV r_i64 v5.2), [], [(31, some 0), (32, some 1)], []⟩,
          ⟨fT2 (fV r_i64 v5.1) (fV r_i64 v5.2), [], [(33, some 2)], []⟩,
          ⟨fV r_i64 v5.1, [], [(30, some 3)], []⟩,
          ⟨fV r_i64 v5.2, [], [(30, some 3)], []⟩,
          ⟨fV r_i64 v5.1, [], [(34, some 4)], []⟩,
          ⟨fV r_i64 v5.2, [], [(35, some 5)], []⟩] [0, 7, 8, 9, 10] [] hAt
          ⟨ok_load ty95 rfl opd0,
          ok_move rfl opd0,
          ok_call (ok_f_ref09_Thickness N x1 x2 _ hv5) Try.func51 (by kernel_rfl) (by kernel_rfl) rfl ⟨opd0, ⟨opd1, trivial⟩⟩,
          ok_move rfl opd0,
          ok_ext20 rfl rfl opd0,
          ok_ext21 rfl rfl opd0,
          ok_assign rfl opd0,
          ok_assign rfl opd0, trivial⟩ (by kernel_rfl) ?_
      clear hAt
      intro a w hAt
      replace hAt : At B h0 (mkG [(0, fV (Rep.slice GCoat.rep) x0), (7, fV r_i64 v4.1), (8, fV r_i64 v4.2), (9, fV r_i64 v5.1), (10, fV r_i64 v5.2)]) (mkO []) F 51 a w := hAt
      refine then_n ?_
      refine wp_seq ?_
      obtain ⟨v6, hv6, H⟩ := bindE H
      obtain ⟨v7, hv7, H⟩ := bindE H
      refine reg [⟨fV (Rep.slice GCoat.rep) x0, [], [(0, none)], []⟩,
          ⟨fV r_i64 v6, [], [(36, some 0)], []⟩,
          ⟨fV (Rep.slice GCoat.rep) x0, [], [(0, none)], []⟩,
          ⟨fV r_i64 v7, [], [(38, some 2)], []⟩,
          ⟨fV Rep.bool (cmpI .eql v6 v7), [], [(37, some 1), (39, some 3)], []⟩,
          ⟨fV Rep.bool (cmpI .eql v6 v7), [], [(40, some 4)], []⟩,
          ⟨Fact.when ((cmpI .eql v6 v7) = true) (fV r_i64 v4.1), [], [(41, some 5), (7, none)], []⟩,
          ⟨Fact.when ((cmpI .eql v6 v7) = true) (fV r_i64 v5.1), [], [(41, some 5), (9, none)], []⟩,
          ⟨Fact.when ((cmpI .eql v6 v7) = true) (fV Rep.bool (cmpI .eql v4.1 v5.1)), [], [(41, some 5), (42, some 6), (43, some 7)], []⟩,
          ⟨fV Rep.bool ((cmpI .eql v6 v7) && (cmpI .eql v4.1 v5.1)), [], [(41, some 5), (44, some 8)], []⟩,
          ⟨fV Rep.bool ((cmpI .eql v6 v7) && (cmpI .eql v4.1 v5.1)), [], [(45, some 9)], []⟩,
          ⟨Fact.when (((cmpI .eql v6 v7) && (cmpI .eql v4.1 v5.1)) = true) (fV r_i64 v4.2), [], [(46, some 10), (8, none)], []⟩,
          ⟨Fact.when (((cmpI .eql v6 v7) && (cmpI .eql v4.1 v5.1)) = true) (fV r_i64 v5.2), [], [(46, some 10), (10, none)], []⟩,
          ⟨Fact.when (((cmpI .eql v6 v7) && (cmpI .eql v4.1 v5.1)) = true) (fV Rep.bool (cmpI .eql v4.2 v5.2)), [], [(46, some 10), (47, some 11), (48, some 12)], []⟩,
          ⟨fV Rep.bool (((cmpI .eql v6 v7) && (cmpI .eql v4.1 v5.1)) && (cmpI .eql v4.2 v5.2)), [], [(46, some 10), (49, some 13)], []⟩,
          ⟨fV Rep.bool (((cmpI .eql v6 v7) && (cmpI .eql v4.1 v5.1)) && (cmpI .eql v4.2 v5.2)), [], [(50, some 14)], []⟩] [6] [] hAt
          ⟨ok_move rfl opd0,
          ok_call (ok_f_survey_CheckScheme N x0 _ hv6) Try.func52 (by kernel_rfl) (by kernel_rfl) rfl ⟨opd0, trivial⟩,
          ok_move rfl opd0,
          ok_call (ok_f_ref09_CheckScheme N x0 _ hv7) Try.func53 (by kernel_rfl) (by kernel_rfl) rfl ⟨opd0, trivial⟩,
          ok_cmp (op := .eql) (by simp) rfl rfl opd0 opd1,
          ok_move rfl opd0,
          obl_tt rfl rfl rfl rfl rfl rfl rfl (fun hg => ok_move rfl opd1),
          obl_tt rfl rfl rfl rfl rfl rfl rfl (fun hg => ok_move rfl opd1),
          obl_tt rfl rfl rfl rfl rfl rfl rfl (fun hg => ok_cmp (op := .eql) (by simp) rfl rfl (opd1.on hg) (opd2.on hg)),
          ok_and rfl opd0 (fun e => (opd1.on e)),
          ok_move rfl opd0,
          obl_tt rfl rfl rfl rfl rfl rfl rfl (fun hg => ok_move rfl opd1),
          obl_tt rfl rfl rfl rfl rfl rfl rfl (fun hg => ok_move rfl opd1),
          obl_tt rfl rfl rfl rfl rfl rfl rfl (fun hg => ok_cmp (op := .eql) (by simp) rfl rfl (opd1.on hg) (opd2.on hg)),
          ok_and rfl opd0 (fun e => (opd1.on e)),
          ok_assign rfl opd0, trivial⟩ (by kernel_rfl) ?_
      clear hAt
      intro a w hAt
      replace hAt : At B h0 (mkG [(6, fV Rep.bool (((cmpI .eql v6 v7) && (cmpI .eql v4.1 v5.1)) && (cmpI .eql v4.2 v5.2)))]) (mkO []) F 51 a w := hAt
      refine then_n ?_
      refine wp_ret ?_
      cases H
      exact ret1 rfl (rv_tmp rfl rfl) hAt
end Go.KB
