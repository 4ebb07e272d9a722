/- The Go functions compute what the plain functions compute. Printed by a program. No condition. -/
import Derived.Test.YtcpcedbnpieebaaGProof4
namespace Go.KB
open Go.Proofs
set_option maxRecDepth 100000
set_option linter.unusedVariables false
theorem ok_f_law09_brief (N : Nat) (x0 : (List GCoat)) (x1 : (List GPainting)) (r : Bool) (H : f_law09_brief N x0 x1 = some r) : FnOk Try.prog 49 [fV (Rep.slice GCoat.rep) x0, fV (Rep.slice GPainting.rep) x1] (fV Rep.bool r) := by
  unfold f_law09_brief at H
  refine fn_enter Try.func49 rfl rfl (by kernel_rfl) ?_
  intro κ B h0 F a w hAt
  refine wp_seq ?_
  refine reg [⟨fV Rep.bool false, [], [], []⟩] [0, 1] [] hAt
      ⟨ok_assign rfl opdB, trivial⟩ (by kernel_rfl) ?_
  clear hAt
  intro a w hAt
  replace hAt : At B h0 (mkG [(0, fV (Rep.slice GCoat.rep) x0), (1, fV (Rep.slice GPainting.rep) x1)]) (mkO []) F 50 a w := hAt
  refine then_n ?_
  refine wp_seq ?_
  refine wp_seq ?_
  refine reg [⟨fV (Rep.slice GCoat.rep) x0, [], [(0, none)], []⟩,
      ⟨fV r_i64 (List.length x0 : Int), [], [(7, some 0)], []⟩,
      ⟨fV Rep.bool (cmpI .gtr (List.length x0 : Int) 12), [], [(8, some 1)], []⟩,
      ⟨fV Rep.bool (cmpI .gtr (List.length x0 : Int) 12), [], [(9, some 2)], []⟩,
      ⟨Fact.when ((!(cmpI .gtr (List.length x0 : Int) 12)) = true) (fV (Rep.slice GPainting.rep) x1), [], [(10, some 3), (1, none)], []⟩,
      ⟨Fact.when ((!(cmpI .gtr (List.length x0 : Int) 12)) = true) (fV r_i64 (List.length x1 : Int)), [], [(10, some 3), (11, some 4)], []⟩,
      ⟨Fact.when ((!(cmpI .gtr (List.length x0 : Int) 12)) = true) (fV Rep.bool (cmpI .gtr (List.length x1 : Int) 12)), [], [(10, some 3), (12, some 5)], []⟩,
      ⟨fV Rep.bool ((cmpI .gtr (List.length x0 : Int) 12) || (cmpI .gtr (List.length x1 : Int) 12)), [], [(10, some 3), (13, some 6)], []⟩] [0, 1, 14] [] hAt
      ⟨ok_move rfl opd0,
      ok_len un93 rfl opd0,
      ok_cmp (op := .gtr) (by simp) rfl rfl opd0 opdI,
      ok_move rfl opd0,
      obl_tf rfl rfl rfl rfl rfl rfl rfl (fun hg => ok_move rfl opd1),
      obl_tf rfl rfl rfl rfl rfl rfl rfl (fun hg => ok_len un102 rfl (opd1.on hg)),
      obl_tf rfl rfl rfl rfl rfl rfl rfl (fun hg => ok_cmp (op := .gtr) (by simp) rfl rfl (opd1.on hg) opdI),
      ok_or rfl opd0 (fun e => (opd1.on (notT e))), trivial⟩ (by kernel_rfl) ?_
  clear hAt
  intro a w hAt
  replace hAt : At B h0 (mkG [(0, fV (Rep.slice GCoat.rep) x0), (1, fV (Rep.slice GPainting.rep) x1), (14, fV Rep.bool ((cmpI .gtr (List.length x0 : Int) 12) || (cmpI .gtr (List.length x1 : Int) 12)))]) (mkO []) F 50 a w := hAt
  refine then_n ?_
  refine wp_if hAt (by rfl) ?_ ?_
  · intro hb20
    have H := iteT hb20 H
    refine wp_seq ?_
    refine reg [⟨fV Rep.bool false, [], [], []⟩] [4] [] hAt
        ⟨ok_assign rfl opdB, trivial⟩ (by kernel_rfl) ?_
    clear hAt
    intro a w hAt
    replace hAt : At B h0 (mkG [(4, fV Rep.bool false)]) (mkO []) F 50 a w := hAt
    refine then_n ?_
    refine wp_ret ?_
    refine then_r ?_
    cases H
    exact ret1 rfl (rv_tmp rfl rfl) hAt
  · intro hb20
    have H := iteF hb20 H
    refine wp_skip ?_
    refine then_n ?_
    refine wp_seq ?_
    refine wp_seq ?_
    refine reg [⟨fV r_i64 0, [], [], []⟩] [0, 1, 5] [] hAt
        ⟨ok_assign rfl opdI, trivial⟩ (by kernel_rfl) ?_
    clear hAt
    intro a w hAt
    replace hAt : At B h0 (mkG [(0, fV (Rep.slice GCoat.rep) x0), (1, fV (Rep.slice GPainting.rep) x1), (5, fV r_i64 0)]) (mkO []) F 50 a w := hAt
    refine then_n ?_
    refine wp_block ?_
    obtain ⟨o5, hl6, H⟩ := bindE H
    refine wp_mono (wp_loopN (f := f_law09_brief_L2 N x0) (fun (s1 : Int) a w => At B h0 (mkG [(0, fV (Rep.slice GCoat.rep) x0), (1, fV (Rep.slice GPainting.rep) x1), (5, fV r_i64 s1)]) (mkO []) F 50 a w) (fun o e a w => (Sum.elim (fun v => e = .exit 0 ∧ At B h0 (mkG [(1, fV (Rep.slice GPainting.rep) x1)]) (mkO []) F 50 a w) (fun v => e = .ret ∧ At B h0 (mkG [(4, fV Rep.bool v)]) (mkO []) F 50 a w)) o) ?_ N 0 o5 _ _ hl6 ?_) ?_
    · clear H hAt hl6
      intro s1 r19 a w H hAt
      unfold f_law09_brief_L2 at H
      refine wp_seq ?_
      refine wp_seq ?_
      refine reg [⟨fV r_i64 s1, [], [(5, none)], []⟩,
          ⟨fV (Rep.slice GCoat.rep) x0, [], [(0, none)], []⟩,
          ⟨fV r_i64 (List.length x0 : Int), [], [(16, some 1)], []⟩,
          ⟨fV Rep.bool (cmpI .lss s1 (List.length x0 : Int)), [], [(15, some 0), (17, some 2)], []⟩] [0, 1, 5, 18] [] hAt
          ⟨ok_move rfl opd0,
          ok_move rfl opd0,
          ok_len un93 rfl opd0,
          ok_cmp (op := .lss) (by simp) rfl rfl opd0 opd1, trivial⟩ (by kernel_rfl) ?_
      clear hAt
      intro a w hAt
      replace hAt : At B h0 (mkG [(0, fV (Rep.slice GCoat.rep) x0), (1, fV (Rep.slice GPainting.rep) x1), (5, fV r_i64 s1), (18, fV Rep.bool (cmpI .lss s1 (List.length x0 : Int)))]) (mkO []) F 50 a w := hAt
      refine then_n ?_
      refine wp_if hAt (by rfl) ?_ ?_
      · intro hb4
        have H := iteT hb4 H
        refine wp_skip ?_
        refine then_n ?_
        refine wp_seq ?_
        refine wp_block ?_
        refine wp_seq ?_
        obtain ⟨v2, hv2, H⟩ := bindE H
        refine reg [⟨fV (Rep.slice GCoat.rep) x0, [], [(0, none)], []⟩,
            ⟨fV r_i64 s1, [], [(5, none)], []⟩,
            ⟨fRef GCoat.rep v2, [], [(21, some 0), (22, some 1)], []⟩,
            ⟨fRef Rep.str v2.Name, [], [(23, some 2)], []⟩,
            ⟨fV Rep.str v2.Name, [], [(24, some 3)], []⟩,
            ⟨fV r_i64 (List.length v2.Name : Int), [], [(25, some 4)], []⟩,
            ⟨fV Rep.bool (cmpI .gtr (List.length v2.Name : Int) 50), [], [(26, some 5)], []⟩] [0, 1, 5, 27] [] hAt
            ⟨ok_move rfl opd0,
            ok_move rfl opd0,
            ok_index ty95 un93 hv2 rfl opd0 opd1,
            ok_field GCoat.l0 fo95_0 rfl opd0,
            ok_load ty9 rfl opd0,
            ok_lenS un9 rfl opd0,
            ok_cmp (op := .gtr) (by simp) rfl rfl opd0 opdI, trivial⟩ (by kernel_rfl) ?_
        clear hAt
        intro a w hAt
        replace hAt : At B h0 (mkG [(0, fV (Rep.slice GCoat.rep) x0), (1, fV (Rep.slice GPainting.rep) x1), (5, fV r_i64 s1), (27, fV Rep.bool (cmpI .gtr (List.length v2.Name : Int) 50))]) (mkO []) F 50 a w := hAt
        refine then_n ?_
        refine wp_if hAt (by rfl) ?_ ?_
        · intro hb3
          have H := iteT hb3 H
          refine wp_seq ?_
          refine reg [⟨fV Rep.bool false, [], [], []⟩] [4] [] hAt
              ⟨ok_assign rfl opdB, trivial⟩ (by kernel_rfl) ?_
          clear hAt
          intro a w hAt
          replace hAt : At B h0 (mkG [(4, fV Rep.bool false)]) (mkO []) F 50 a w := hAt
          refine then_n ?_
          refine wp_ret ?_
          refine blk_r ?_
          refine then_r ?_
          cases H
          exact ⟨ret_ne, rfl, hAt.pick [4] []⟩
        · intro hb3
          have H := iteF hb3 H
          refine wp_skip ?_
          refine blk_n ?_
          refine then_n ?_
          refine reg [⟨fV r_i64 s1, [], [(5, none)], []⟩,
              ⟨fV r_i64 (IntKind.i64.wrap (s1 + 1)), [], [(19, some 0)], []⟩,
              ⟨fV r_i64 (IntKind.i64.wrap (s1 + 1)), [], [(20, some 1)], []⟩] [0, 1, 5] [] hAt
              ⟨ok_move rfl opd0,
              ok_add rfl opd0 opdI,
              ok_assign rfl opd0, trivial⟩ (by kernel_rfl) ?_
          clear hAt
          intro a w hAt
          replace hAt : At B h0 (mkG [(0, fV (Rep.slice GCoat.rep) x0), (1, fV (Rep.slice GPainting.rep) x1), (5, fV r_i64 (IntKind.i64.wrap (s1 + 1)))]) (mkO []) F 50 a w := hAt
          cases H
          exact ⟨rfl, hAt.pick [0, 1, 5] []⟩
      · intro hb4
        have H := iteF hb4 H
        refine wp_exit ?_
        refine then_x ?_
        cases H
        exact ⟨ex_ne, rfl, hAt.pick [1] []⟩
    · exact hAt.pick [0, 1, 5] []
    · clear hAt
      intro e a w hp
      cases o5 with
      | inl l7 =>
        rw [Sum.elim_inl] at H
        obtain ⟨rfl, hAt⟩ := hp
        refine blk_eq ?_
        refine then_n ?_
        refine wp_seq ?_
        refine wp_seq ?_
        refine reg [⟨fV r_i64 0, [], [], []⟩] [1, 6] [] hAt
            ⟨ok_assign rfl opdI, trivial⟩ (by kernel_rfl) ?_
        clear hAt
        intro a w hAt
        replace hAt : At B h0 (mkG [(1, fV (Rep.slice GPainting.rep) x1), (6, fV r_i64 0)]) (mkO []) F 50 a w := hAt
        refine then_n ?_
        refine wp_block ?_
        obtain ⟨o14, hl15, H⟩ := bindE H
        refine wp_mono (wp_loopN (f := f_law09_brief_L1 N x1) (fun (s9 : Int) a w => At B h0 (mkG [(1, fV (Rep.slice GPainting.rep) x1), (6, fV r_i64 s9)]) (mkO []) F 50 a w) (fun o e a w => (Sum.elim (fun v => e = .exit 2 ∧ At B h0 (mkG []) (mkO []) F 50 a w) (fun v => e = .ret ∧ At B h0 (mkG [(4, fV Rep.bool v)]) (mkO []) F 50 a w)) o) ?_ N 0 o14 _ _ hl15 ?_) ?_
        · clear H hAt hl15
          intro s9 r18 a w H hAt
          unfold f_law09_brief_L1 at H
          refine wp_seq ?_
          refine wp_seq ?_
          refine reg [⟨fV r_i64 s9, [], [(6, none)], []⟩,
              ⟨fV (Rep.slice GPainting.rep) x1, [], [(1, none)], []⟩,
              ⟨fV r_i64 (List.length x1 : Int), [], [(29, some 1)], []⟩,
              ⟨fV Rep.bool (cmpI .lss s9 (List.length x1 : Int)), [], [(28, some 0), (30, some 2)], []⟩] [1, 6, 31] [] hAt
              ⟨ok_move rfl opd0,
              ok_move rfl opd0,
              ok_len un102 rfl opd0,
              ok_cmp (op := .lss) (by simp) rfl rfl opd0 opd1, trivial⟩ (by kernel_rfl) ?_
          clear hAt
          intro a w hAt
          replace hAt : At B h0 (mkG [(1, fV (Rep.slice GPainting.rep) x1), (6, fV r_i64 s9), (31, fV Rep.bool (cmpI .lss s9 (List.length x1 : Int)))]) (mkO []) F 50 a w := hAt
          refine then_n ?_
          refine wp_if hAt (by rfl) ?_ ?_
          · intro hb13
            have H := iteT hb13 H
            refine wp_skip ?_
            refine then_n ?_
            refine wp_seq ?_
            refine wp_block ?_
            refine wp_seq ?_
            obtain ⟨v10, hv10, H⟩ := bindE H
            obtain ⟨v11, hv11, H⟩ := bindE H
            refine reg [⟨fV (Rep.slice GPainting.rep) x1, [], [(1, none)], []⟩,
                ⟨fV r_i64 s9, [], [(6, none)], []⟩,
                ⟨fRef GPainting.rep v10, [], [(34, some 0), (35, some 1)], []⟩,
                ⟨fRef Rep.str v10.Coat, [], [(36, some 2)], []⟩,
                ⟨fV Rep.str v10.Coat, [], [(37, some 3)], []⟩,
                ⟨fV r_i64 (List.length v10.Coat : Int), [], [(38, some 4)], []⟩,
                ⟨fV Rep.bool (cmpI .gtr (List.length v10.Coat : Int) 50), [], [(39, some 5)], []⟩,
                ⟨fV Rep.bool (cmpI .gtr (List.length v10.Coat : Int) 50), [], [(40, some 6)], []⟩,
                ⟨Fact.when ((!(cmpI .gtr (List.length v10.Coat : Int) 50)) = true) (fV (Rep.slice GPainting.rep) x1), [], [(41, some 7), (1, none)], []⟩,
                ⟨Fact.when ((!(cmpI .gtr (List.length v10.Coat : Int) 50)) = true) (fV r_i64 s9), [], [(41, some 7), (6, none)], []⟩,
                ⟨Fact.when ((!(cmpI .gtr (List.length v10.Coat : Int) 50)) = true) (fRef GPainting.rep v11), [], [(41, some 7), (42, some 8), (43, some 9)], []⟩,
                ⟨Fact.when ((!(cmpI .gtr (List.length v10.Coat : Int) 50)) = true) (fRef (Rep.slice r_i64) v11.Readings), [], [(41, some 7), (44, some 10)], []⟩,
                ⟨Fact.when ((!(cmpI .gtr (List.length v10.Coat : Int) 50)) = true) (fV (Rep.slice r_i64) v11.Readings), [], [(41, some 7), (45, some 11)], []⟩,
                ⟨Fact.when ((!(cmpI .gtr (List.length v10.Coat : Int) 50)) = true) (fV r_i64 (List.length v11.Readings : Int)), [], [(41, some 7), (46, some 12)], []⟩,
                ⟨Fact.when ((!(cmpI .gtr (List.length v10.Coat : Int) 50)) = true) (fV Rep.bool (cmpI .gtr (List.length v11.Readings : Int) 110)), [], [(41, some 7), (47, some 13)], []⟩,
                ⟨fV Rep.bool ((cmpI .gtr (List.length v10.Coat : Int) 50) || (cmpI .gtr (List.length v11.Readings : Int) 110)), [], [(41, some 7), (48, some 14)], []⟩] [1, 6, 49] [] hAt
                ⟨ok_move rfl opd0,
                ok_move rfl opd0,
                ok_index ty107 un102 hv10 rfl opd0 opd1,
                ok_field GPainting.l0 fo107_0 rfl opd0,
                ok_load ty9 rfl opd0,
                ok_lenS un9 rfl opd0,
                ok_cmp (op := .gtr) (by simp) rfl rfl opd0 opdI,
                ok_move rfl opd0,
                obl_tf rfl rfl rfl rfl rfl rfl rfl (fun hg => ok_move rfl opd1),
                obl_tf rfl rfl rfl rfl rfl rfl rfl (fun hg => ok_move rfl opd1),
                obl_tf rfl rfl rfl rfl rfl rfl rfl (fun hg => ok_index ty107 un102 (iteT hg hv11) rfl (opd1.on hg) (opd2.on hg)),
                obl_tf rfl rfl rfl rfl rfl rfl rfl (fun hg => ok_field GPainting.l2 fo107_2 rfl (opd1.on hg)),
                obl_tf rfl rfl rfl rfl rfl rfl rfl (fun hg => ok_load ty22 rfl (opd1.on hg)),
                obl_tf rfl rfl rfl rfl rfl rfl rfl (fun hg => ok_len un22 rfl (opd1.on hg)),
                obl_tf rfl rfl rfl rfl rfl rfl rfl (fun hg => ok_cmp (op := .gtr) (by simp) rfl rfl (opd1.on hg) opdI),
                ok_or rfl opd0 (fun e => (opd1.on (notT e))), trivial⟩ (by kernel_rfl) ?_
            clear hAt
            intro a w hAt
            replace hAt : At B h0 (mkG [(1, fV (Rep.slice GPainting.rep) x1), (6, fV r_i64 s9), (49, fV Rep.bool ((cmpI .gtr (List.length v10.Coat : Int) 50) || (cmpI .gtr (List.length v11.Readings : Int) 110)))]) (mkO []) F 50 a w := hAt
            refine then_n ?_
            refine wp_if hAt (by rfl) ?_ ?_
            · intro hb12
              have H := iteT hb12 H
              refine wp_seq ?_
              refine reg [⟨fV Rep.bool false, [], [], []⟩] [4] [] hAt
                  ⟨ok_assign rfl opdB, trivial⟩ (by kernel_rfl) ?_
              clear hAt
              intro a w hAt
              replace hAt : At B h0 (mkG [(4, fV Rep.bool false)]) (mkO []) F 50 a w := hAt
              refine then_n ?_
              refine wp_ret ?_
              refine blk_r ?_
              refine then_r ?_
              cases H
              exact ⟨ret_ne, rfl, hAt.pick [4] []⟩
            · intro hb12
              have H := iteF hb12 H
              refine wp_skip ?_
              refine blk_n ?_
              refine then_n ?_
              refine reg [⟨fV r_i64 s9, [], [(6, none)], []⟩,
                  ⟨fV r_i64 (IntKind.i64.wrap (s9 + 1)), [], [(32, some 0)], []⟩,
                  ⟨fV r_i64 (IntKind.i64.wrap (s9 + 1)), [], [(33, some 1)], []⟩] [1, 6] [] hAt
                  ⟨ok_move rfl opd0,
                  ok_add rfl opd0 opdI,
                  ok_assign rfl opd0, trivial⟩ (by kernel_rfl) ?_
              clear hAt
              intro a w hAt
              replace hAt : At B h0 (mkG [(1, fV (Rep.slice GPainting.rep) x1), (6, fV r_i64 (IntKind.i64.wrap (s9 + 1)))]) (mkO []) F 50 a w := hAt
              cases H
              exact ⟨rfl, hAt.pick [1, 6] []⟩
          · intro hb13
            have H := iteF hb13 H
            refine wp_exit ?_
            refine then_x ?_
            cases H
            exact ⟨ex_ne, rfl, hAt.pick [] []⟩
        · exact hAt.pick [1, 6] []
        · clear hAt
          intro e a w hp
          cases o14 with
          | inl l16 =>
            rw [Sum.elim_inl] at H
            obtain ⟨rfl, hAt⟩ := hp
            refine blk_eq ?_
            refine then_n ?_
            refine wp_seq ?_
            refine reg [⟨fV Rep.bool true, [], [], []⟩] [4] [] hAt
                ⟨ok_assign rfl opdB, trivial⟩ (by kernel_rfl) ?_
            clear hAt
            intro a w hAt
            replace hAt : At B h0 (mkG [(4, fV Rep.bool true)]) (mkO []) F 50 a w := hAt
            refine then_n ?_
            refine wp_ret ?_
            cases H
            exact ret1 rfl (rv_tmp rfl rfl) hAt
          | inr r17 =>
            rw [Sum.elim_inr] at H
            replace hp := hp
            obtain ⟨rfl, hAt⟩ := hp
            refine blk_r ?_
            refine then_r ?_
            cases H
            exact ret1 rfl (rv_tmp rfl rfl) hAt
      | inr r8 =>
        rw [Sum.elim_inr] at H
        replace hp := hp
        obtain ⟨rfl, hAt⟩ := hp
        refine blk_r ?_
        refine then_r ?_
        cases H
        exact ret1 rfl (rv_tmp rfl rfl) hAt
theorem ok_f_survey_checkCoat (N : Nat) (x0 : GCoat) (r : Int) (H : f_survey_checkCoat N x0 = some r) : FnOk Try.prog 89 [fV GCoat.rep x0] (fV r_i64 r) := by
  unfold f_survey_checkCoat at H
  refine fn_enter Try.func89 rfl rfl (by kernel_rfl) ?_
  intro κ B h0 F a w hAt
  refine wp_seq ?_
  refine reg [⟨fRef GCoat.rep x0, [], [(0, none)], []⟩,
      ⟨fV r_i64 0, [], [], []⟩] [1] [] hAt
      ⟨ok_box rfl opd0,
      ok_assign rfl opdI, trivial⟩ (by kernel_rfl) ?_
  clear hAt
  intro a w hAt
  replace hAt : At B h0 (mkG [(1, fRef GCoat.rep x0)]) (mkO []) F 35 a w := hAt
  refine then_n ?_
  refine wp_seq ?_
  refine wp_seq ?_
  refine reg (⟨fRef r_i64 x0.Nominal, [], [(1, none)], []⟩ ::
      ⟨fV r_i64 x0.Nominal, [], [(3, some 0)], []⟩ ::
      ⟨fV Rep.bool (cmpI .lss x0.Nominal 1), [], [(4, some 1)], []⟩ ::
      ⟨fV Rep.bool (cmpI .lss x0.Nominal 1), [], [(5, some 2)], []⟩ ::
      ⟨Fact.when ((!(cmpI .lss x0.Nominal 1)) = true) (fRef r_i64 x0.Nominal), [], [(6, some 3), (1, none)], []⟩ ::
      ⟨Fact.when ((!(cmpI .lss x0.Nominal 1)) = true) (fV r_i64 x0.Nominal), [], [(6, some 3), (7, some 4)], []⟩ ::
      ⟨Fact.when ((!(cmpI .lss x0.Nominal 1)) = true) (fRef r_i64 x0.Most), [], [(6, some 3), (1, none)], []⟩ ::
      ⟨Fact.when ((!(cmpI .lss x0.Nominal 1)) = true) (fV r_i64 x0.Most), [], [(6, some 3), (9, some 6)], []⟩ ::
      ⟨Fact.when ((!(cmpI .lss x0.Nominal 1)) = true) (fV Rep.bool (cmpI .gtr x0.Nominal x0.Most)), [], [(6, some 3), (8, some 5), (10, some 7)], []⟩ ::
      ⟨fV Rep.bool ((cmpI .lss x0.Nominal 1) || (cmpI .gtr x0.Nominal x0.Most)), [], [(6, some 3), (11, some 8)], []⟩ ::
      ⟨fV Rep.bool ((cmpI .lss x0.Nominal 1) || (cmpI .gtr x0.Nominal x0.Most)), [], [(12, some 9)], []⟩ ::
      ⟨Fact.when ((!((cmpI .lss x0.Nominal 1) || (cmpI .gtr x0.Nominal x0.Most))) = true) (fRef r_i64 x0.Most), [], [(13, some 10), (1, none)], []⟩ ::
      ⟨Fact.when ((!((cmpI .lss x0.Nominal 1) || (cmpI .gtr x0.Nominal x0.Most))) = true) (fV r_i64 x0.Most), [], [(13, some 10), (14, some 11)], []⟩ ::
      ⟨Fact.when ((!((cmpI .lss x0.Nominal 1) || (cmpI .gtr x0.Nominal x0.Most))) = true) (fV Rep.bool (cmpI .gtr x0.Most 10000)), [], [(13, some 10), (15, some 12)], []⟩ ::
      ⟨fV Rep.bool (((cmpI .lss x0.Nominal 1) || (cmpI .gtr x0.Nominal x0.Most)) || (cmpI .gtr x0.Most 10000)), [], [(13, some 10), (16, some 13)], []⟩ ::
      ⟨fV Rep.bool (((cmpI .lss x0.Nominal 1) || (cmpI .gtr x0.Nominal x0.Most)) || (cmpI .gtr x0.Most 10000)), [], [(17, some 14)], []⟩ ::
      ⟨Fact.when ((!(((cmpI .lss x0.Nominal 1) || (cmpI .gtr x0.Nominal x0.Most)) || (cmpI .gtr x0.Most 10000))) = true) (fRef r_i64 x0.Soonest), [], [(18, some 15), (1, none)], []⟩ ::
      ⟨Fact.when ((!(((cmpI .lss x0.Nominal 1) || (cmpI .gtr x0.Nominal x0.Most)) || (cmpI .gtr x0.Most 10000))) = true) (fV r_i64 x0.Soonest), [], [(18, some 15), (19, some 16)], []⟩ ::
      ⟨Fact.when ((!(((cmpI .lss x0.Nominal 1) || (cmpI .gtr x0.Nominal x0.Most)) || (cmpI .gtr x0.Most 10000))) = true) (fV Rep.bool (cmpI .lss x0.Soonest 0)), [], [(18, some 15), (20, some 17)], []⟩ ::
      ⟨fV Rep.bool ((((cmpI .lss x0.Nominal 1) || (cmpI .gtr x0.Nominal x0.Most)) || (cmpI .gtr x0.Most 10000)) || (cmpI .lss x0.Soonest 0)), [], [(18, some 15), (21, some 18)], []⟩ ::
      ⟨fV Rep.bool ((((cmpI .lss x0.Nominal 1) || (cmpI .gtr x0.Nominal x0.Most)) || (cmpI .gtr x0.Most 10000)) || (cmpI .lss x0.Soonest 0)), [], [(22, some 19)], []⟩ ::
      ⟨Fact.when ((!((((cmpI .lss x0.Nominal 1) || (cmpI .gtr x0.Nominal x0.Most)) || (cmpI .gtr x0.Most 10000)) || (cmpI .lss x0.Soonest 0))) = true) (fRef r_i64 x0.Soonest), [], [(23, some 20), (1, none)], []⟩ ::
      ⟨Fact.when ((!((((cmpI .lss x0.Nominal 1) || (cmpI .gtr x0.Nominal x0.Most)) || (cmpI .gtr x0.Most 10000)) || (cmpI .lss x0.Soonest 0))) = true) (fV r_i64 x0.Soonest), [], [(23, some 20), (24, some 21)], []⟩ ::
      ⟨Fact.when ((!((((cmpI .lss x0.Nominal 1) || (cmpI .gtr x0.Nominal x0.Most)) || (cmpI .gtr x0.Most 10000)) || (cmpI .lss x0.Soonest 0))) = true) (fRef r_i64 x0.Latest), [], [(23, some 20), (1, none)], []⟩ ::
      ⟨Fact.when ((!((((cmpI .lss x0.Nominal 1) || (cmpI .gtr x0.Nominal x0.Most)) || (cmpI .gtr x0.Most 10000)) || (cmpI .lss x0.Soonest 0))) = true) (fV r_i64 x0.Latest), [], [(23, some 20), (26, some 23)], []⟩ ::
      ⟨Fact.when ((!((((cmpI .lss x0.Nominal 1) || (cmpI .gtr x0.Nominal x0.Most)) || (cmpI .gtr x0.Most 10000)) || (cmpI .lss x0.Soonest 0))) = true) (fV Rep.bool (cmpI .gtr x0.Soonest x0.Latest)), [], [(23, some 20), (25, some 22), (27, some 24)], []⟩ ::
      ⟨fV Rep.bool (((((cmpI .lss x0.Nominal 1) || (cmpI .gtr x0.Nominal x0.Most)) || (cmpI .gtr x0.Most 10000)) || (cmpI .lss x0.Soonest 0)) || (cmpI .gtr x0.Soonest x0.Latest)), [], [(23, some 20), (28, some 25)], []⟩ ::
      ⟨fV Rep.bool (((((cmpI .lss x0.Nominal 1) || (cmpI .gtr x0.Nominal x0.Most)) || (cmpI .gtr x0.Most 10000)) || (cmpI .lss x0.Soonest 0)) || (cmpI .gtr x0.Soonest x0.Latest)), [], [(29, some 26)], []⟩ ::
      ⟨Fact.when ((!(((((cmpI .lss x0.Nominal 1) || (cmpI .gtr x0.Nominal x0.Most)) || (cmpI .gtr x0.Most 10000)) || (cmpI .lss x0.Soonest 0)) || (cmpI .gtr x0.Soonest x0.Latest))) = true) (fRef r_i64 x0.Latest), [], [(30, some 27), (1, none)], []⟩ ::
      ⟨Fact.when ((!(((((cmpI .lss x0.Nominal 1) || (cmpI .gtr x0.Nominal x0.Most)) || (cmpI .gtr x0.Most 10000)) || (cmpI .lss x0.Soonest 0)) || (cmpI .gtr x0.Soonest x0.Latest))) = true) (fV r_i64 x0.Latest), [], [(30, some 27), (31, some 28)], []⟩ ::
      ⟨Fact.when ((!(((((cmpI .lss x0.Nominal 1) || (cmpI .gtr x0.Nominal x0.Most)) || (cmpI .gtr x0.Most 10000)) || (cmpI .lss x0.Soonest 0)) || (cmpI .gtr x0.Soonest x0.Latest))) = true) (fV Rep.bool (cmpI .gtr x0.Latest 1000000)), [], [(30, some 27), (32, some 29)], []⟩ ::
      ⟨fV Rep.bool ((((((cmpI .lss x0.Nominal 1) || (cmpI .gtr x0.Nominal x0.Most)) || (cmpI .gtr x0.Most 10000)) || (cmpI .lss x0.Soonest 0)) || (cmpI .gtr x0.Soonest x0.Latest)) || (cmpI .gtr x0.Latest 1000000)), [], [(30, some 27), (33, some 30)], []⟩ :: []) [34] [] hAt
      ⟨ok_field GCoat.l1 fo95_1 rfl opd0,
      ok_load ty3 rfl opd0,
      ok_cmp (op := .lss) (by simp) rfl rfl opd0 opdI,
      ok_move rfl opd0,
      obl_tf rfl rfl rfl rfl rfl rfl rfl (fun hg => ok_field GCoat.l1 fo95_1 rfl opd1),
      obl_tf rfl rfl rfl rfl rfl rfl rfl (fun hg => ok_load ty3 rfl (opd1.on hg)),
      obl_tf rfl rfl rfl rfl rfl rfl rfl (fun hg => ok_field GCoat.l2 fo95_2 rfl opd1),
      obl_tf rfl rfl rfl rfl rfl rfl rfl (fun hg => ok_load ty3 rfl (opd1.on hg)),
      obl_tf rfl rfl rfl rfl rfl rfl rfl (fun hg => ok_cmp (op := .gtr) (by simp) rfl rfl (opd1.on hg) (opd2.on hg)),
      ok_or rfl opd0 (fun e => (opd1.on (notT e))),
      ok_move rfl opd0,
      obl_tf rfl rfl rfl rfl rfl rfl rfl (fun hg => ok_field GCoat.l2 fo95_2 rfl opd1),
      obl_tf rfl rfl rfl rfl rfl rfl rfl (fun hg => ok_load ty3 rfl (opd1.on hg)),
      obl_tf rfl rfl rfl rfl rfl rfl rfl (fun hg => ok_cmp (op := .gtr) (by simp) rfl rfl (opd1.on hg) opdI),
      ok_or rfl opd0 (fun e => (opd1.on (notT e))),
      ok_move rfl opd0,
      obl_tf rfl rfl rfl rfl rfl rfl rfl (fun hg => ok_field GCoat.l3 fo95_3 rfl opd1),
      obl_tf rfl rfl rfl rfl rfl rfl rfl (fun hg => ok_load ty3 rfl (opd1.on hg)),
      obl_tf rfl rfl rfl rfl rfl rfl rfl (fun hg => ok_cmp (op := .lss) (by simp) rfl rfl (opd1.on hg) opdI),
      ok_or rfl opd0 (fun e => (opd1.on (notT e))),
      ok_move rfl opd0,
      obl_tf rfl rfl rfl rfl rfl rfl rfl (fun hg => ok_field GCoat.l3 fo95_3 rfl opd1),
      obl_tf rfl rfl rfl rfl rfl rfl rfl (fun hg => ok_load ty3 rfl (opd1.on hg)),
      obl_tf rfl rfl rfl rfl rfl rfl rfl (fun hg => ok_field GCoat.l4 fo95_4 rfl opd1),
      obl_tf rfl rfl rfl rfl rfl rfl rfl (fun hg => ok_load ty3 rfl (opd1.on hg)),
      obl_tf rfl rfl rfl rfl rfl rfl rfl (fun hg => ok_cmp (op := .gtr) (by simp) rfl rfl (opd1.on hg) (opd2.on hg)),
      ok_or rfl opd0 (fun e => (opd1.on (notT e))),
      ok_move rfl opd0,
      obl_tf rfl rfl rfl rfl rfl rfl rfl (fun hg => ok_field GCoat.l4 fo95_4 rfl opd1),
      obl_tf rfl rfl rfl rfl rfl rfl rfl (fun hg => ok_load ty3 rfl (opd1.on hg)),
      obl_tf rfl rfl rfl rfl rfl rfl rfl (fun hg => ok_cmp (op := .gtr) (by simp) rfl rfl (opd1.on hg) opdI),
      ok_or rfl opd0 (fun e => (opd1.on (notT e))), trivial⟩ (by kernel_rfl) ?_
  clear hAt
  intro a w hAt
  replace hAt : At B h0 (mkG [(34, fV Rep.bool ((((((cmpI .lss x0.Nominal 1) || (cmpI .gtr x0.Nominal x0.Most)) || (cmpI .gtr x0.Most 10000)) || (cmpI .lss x0.Soonest 0)) || (cmpI .gtr x0.Soonest x0.Latest)) || (cmpI .gtr x0.Latest 1000000)))]) (mkO []) F 35 a w := hAt
  refine then_n ?_
  refine wp_if hAt (by rfl) ?_ ?_
  · intro hb1
    have H := iteT hb1 H
    refine wp_seq ?_
    refine reg [⟨fV r_i64 2, [], [], []⟩] [2] [] hAt
        ⟨ok_assign rfl opdI, trivial⟩ (by kernel_rfl) ?_
    clear hAt
    intro a w hAt
    replace hAt : At B h0 (mkG [(2, fV r_i64 2)]) (mkO []) F 35 a w := hAt
    refine then_n ?_
    refine wp_ret ?_
    refine then_r ?_
    cases H
    exact ret1 rfl (rv_tmp rfl rfl) hAt
  · intro hb1
    have H := iteF hb1 H
    refine wp_skip ?_
    refine then_n ?_
    refine wp_seq ?_
    refine reg [⟨fV r_i64 0, [], [], []⟩] [2] [] hAt
        ⟨ok_assign rfl opdI, trivial⟩ (by kernel_rfl) ?_
    clear hAt
    intro a w hAt
    replace hAt : At B h0 (mkG [(2, fV r_i64 0)]) (mkO []) F 35 a w := hAt
    refine then_n ?_
    refine wp_ret ?_
    cases H
    exact ret1 rfl (rv_tmp rfl rfl) hAt
theorem ok_f_slices_Minlint_int (N : Nat) (x0 : (List Int)) (r : Int) (H : f_slices_Minlint_int N x0 = some r) : FnOk Try.prog 90 [fV (Rep.slice r_i64) x0] (fV r_i64 r) := by
  unfold f_slices_Minlint_int at H
  refine fn_enter Try.func90 rfl rfl (by kernel_rfl) ?_
  intro κ B h0 F a w hAt
  refine wp_seq ?_
  refine reg [⟨fV r_i64 0, [], [], []⟩] [0] [] hAt
      ⟨ok_assign rfl opdI, trivial⟩ (by kernel_rfl) ?_
  clear hAt
  intro a w hAt
  replace hAt : At B h0 (mkG [(0, fV (Rep.slice r_i64) x0)]) (mkO []) F 25 a w := hAt
  refine then_n ?_
  refine wp_seq ?_
  obtain ⟨o2, hl3, H⟩ := bindE H
  refine wp_mono (Q := (fun o e a w => (fun v => e = .normal ∧ At B h0 (mkG [(0, fV (Rep.slice r_i64) x0)]) (mkO []) F 25 a w) o) o2) ?_ ?_
  · clear H
    have H := hl3
    clear hl3
    refine wp_seq ?_
    refine reg [⟨fV (Rep.slice r_i64) x0, [], [(0, none)], []⟩,
        ⟨fV r_i64 (List.length x0 : Int), [], [(5, some 0)], []⟩,
        ⟨fV Rep.bool (cmpI .lss (List.length x0 : Int) 1), [], [(6, some 1)], []⟩] [0, 7] [] hAt
        ⟨ok_move rfl opd0,
        ok_len un22 rfl opd0,
        ok_cmp (op := .lss) (by simp) rfl rfl opd0 opdI, trivial⟩ (by kernel_rfl) ?_
    clear hAt
    intro a w hAt
    replace hAt : At B h0 (mkG [(0, fV (Rep.slice r_i64) x0), (7, fV Rep.bool (cmpI .lss (List.length x0 : Int) 1))]) (mkO []) F 25 a w := hAt
    refine then_n ?_
    refine wp_if hAt (by rfl) ?_ ?_
    · intro hb1
      have H := iteT hb1 H
      cases H
    · intro hb1
      have H := iteF hb1 H
      refine wp_skip ?_
      cases H
      exact ⟨rfl, hAt.pick [0] []⟩
  · clear hAt
    intro e a w hp
    obtain ⟨rfl, hAt⟩ := hp
    refine then_n ?_
    refine wp_seq ?_
    obtain ⟨v4, hv4, H⟩ := bindE H
    refine reg [⟨fV (Rep.slice r_i64) x0, [], [(0, none)], []⟩,
        ⟨fRef r_i64 v4, [], [(9, some 0)], []⟩,
        ⟨fV r_i64 v4, [], [(10, some 1)], []⟩,
        ⟨fV r_i64 v4, [], [(11, some 2)], []⟩] [0, 3] [] hAt
        ⟨ok_move rfl opd0,
        ok_index ty3 un22 hv4 rfl opd0 opdI,
        ok_load ty3 rfl opd0,
        ok_assign rfl opd0, trivial⟩ (by kernel_rfl) ?_
    clear hAt
    intro a w hAt
    replace hAt : At B h0 (mkG [(0, fV (Rep.slice r_i64) x0), (3, fV r_i64 v4)]) (mkO []) F 25 a w := hAt
    refine then_n ?_
    refine wp_seq ?_
    refine wp_seq ?_
    refine reg [⟨fV r_i64 1, [], [], []⟩] [0, 3, 4] [] hAt
        ⟨ok_assign rfl opdI, trivial⟩ (by kernel_rfl) ?_
    clear hAt
    intro a w hAt
    replace hAt : At B h0 (mkG [(0, fV (Rep.slice r_i64) x0), (3, fV r_i64 v4), (4, fV r_i64 1)]) (mkO []) F 25 a w := hAt
    refine then_n ?_
    refine wp_block ?_
    obtain ⟨o8, hl9, H⟩ := bindE H
    refine wp_mono (wp_loopN (f := f_slices_Minlint_int_L1 N x0) (fun (s5 : (Int × Int)) a w => At B h0 (mkG [(0, fV (Rep.slice r_i64) x0), (3, fV r_i64 s5.1), (4, fV r_i64 s5.2)]) (mkO []) F 25 a w) (fun o e a w => (fun v => e = .exit 0 ∧ At B h0 (mkG [(3, fV r_i64 v)]) (mkO []) F 25 a w) o) ?_ N (v4, 1) o8 _ _ hl9 ?_) ?_
    · clear H hAt hl9
      intro s5 r10 a w H hAt
      unfold f_slices_Minlint_int_L1 at H
      refine wp_seq ?_
      refine wp_seq ?_
      refine reg [⟨fV r_i64 s5.2, [], [(4, none)], []⟩,
          ⟨fV (Rep.slice r_i64) x0, [], [(0, none)], []⟩,
          ⟨fV r_i64 (List.length x0 : Int), [], [(13, some 1)], []⟩,
          ⟨fV Rep.bool (cmpI .lss s5.2 (List.length x0 : Int)), [], [(12, some 0), (14, some 2)], []⟩] [0, 3, 4, 15] [] hAt
          ⟨ok_move rfl opd0,
          ok_move rfl opd0,
          ok_len un22 rfl opd0,
          ok_cmp (op := .lss) (by simp) rfl rfl opd0 opd1, trivial⟩ (by kernel_rfl) ?_
      clear hAt
      intro a w hAt
      replace hAt : At B h0 (mkG [(0, fV (Rep.slice r_i64) x0), (3, fV r_i64 s5.1), (4, fV r_i64 s5.2), (15, fV Rep.bool (cmpI .lss s5.2 (List.length x0 : Int)))]) (mkO []) F 25 a w := hAt
      refine then_n ?_
      refine wp_if hAt (by rfl) ?_ ?_
      · intro hb7
        have H := iteT hb7 H
        refine wp_skip ?_
        refine then_n ?_
        refine wp_seq ?_
        refine wp_block ?_
        obtain ⟨v6, hv6, H⟩ := bindE H
        refine reg [⟨fV r_i64 s5.1, [], [(3, none)], []⟩,
            ⟨fV (Rep.slice r_i64) x0, [], [(0, none)], []⟩,
            ⟨fV r_i64 s5.2, [], [(4, none)], []⟩,
            ⟨fRef r_i64 v6, [], [(19, some 1), (20, some 2)], []⟩,
            ⟨fV r_i64 v6, [], [(21, some 3)], []⟩,
            ⟨fV r_i64 (min s5.1 v6), [], [(18, some 0), (22, some 4)], []⟩,
            ⟨fV r_i64 (min s5.1 v6), [], [(23, some 5)], []⟩] [0, 3, 4] [] hAt
            ⟨ok_move rfl opd0,
            ok_move rfl opd0,
            ok_move rfl opd0,
            ok_index ty3 un22 hv6 rfl opd0 opd1,
            ok_load ty3 rfl opd0,
            ok_min rfl opd0 opd1,
            ok_assign rfl opd0, trivial⟩ (by kernel_rfl) ?_
        clear hAt
        intro a w hAt
        replace hAt : At B h0 (mkG [(0, fV (Rep.slice r_i64) x0), (3, fV r_i64 (min s5.1 v6)), (4, fV r_i64 s5.2)]) (mkO []) F 25 a w := hAt
        refine blk_n ?_
        refine then_n ?_
        refine reg [⟨fV r_i64 s5.2, [], [(4, none)], []⟩,
            ⟨fV r_i64 (IntKind.i64.wrap (s5.2 + 1)), [], [(16, some 0)], []⟩,
            ⟨fV r_i64 (IntKind.i64.wrap (s5.2 + 1)), [], [(17, some 1)], []⟩] [0, 3, 4] [] hAt
            ⟨ok_move rfl opd0,
            ok_add rfl opd0 opdI,
            ok_assign rfl opd0, trivial⟩ (by kernel_rfl) ?_
        clear hAt
        intro a w hAt
        replace hAt : At B h0 (mkG [(0, fV (Rep.slice r_i64) x0), (3, fV r_i64 (min s5.1 v6)), (4, fV r_i64 (IntKind.i64.wrap (s5.2 + 1)))]) (mkO []) F 25 a w := hAt
        cases H
        exact ⟨rfl, hAt.pick [0, 3, 4] []⟩
      · intro hb7
        have H := iteF hb7 H
        refine wp_exit ?_
        refine then_x ?_
        cases H
        exact ⟨ex_ne, rfl, hAt.pick [3] []⟩
    · exact hAt.pick [0, 3, 4] []
    · clear hAt
      intro e a w hp
      obtain ⟨rfl, hAt⟩ := hp
      refine blk_eq ?_
      refine then_n ?_
      refine wp_seq ?_
      refine reg [⟨fV r_i64 o8, [], [(3, none)], []⟩,
          ⟨fV r_i64 o8, [], [(24, some 0)], []⟩] [2] [] hAt
          ⟨ok_move rfl opd0,
          ok_assign rfl opd0, trivial⟩ (by kernel_rfl) ?_
      clear hAt
      intro a w hAt
      replace hAt : At B h0 (mkG [(2, fV r_i64 o8)]) (mkO []) F 25 a w := hAt
      refine then_n ?_
      refine wp_ret ?_
      cases H
      exact ret1 rfl (rv_tmp rfl rfl) hAt
theorem ok_f_slices_Maxlint_int (N : Nat) (x0 : (List Int)) (r : Int) (H : f_slices_Maxlint_int N x0 = some r) : FnOk Try.prog 91 [fV (Rep.slice r_i64) x0] (fV r_i64 r) := by
  unfold f_slices_Maxlint_int at H
  refine fn_enter Try.func91 rfl rfl (by kernel_rfl) ?_
  intro κ B h0 F a w hAt
  refine wp_seq ?_
  refine reg [⟨fV r_i64 0, [], [], []⟩] [0] [] hAt
      ⟨ok_assign rfl opdI, trivial⟩ (by kernel_rfl) ?_
  clear hAt
  intro a w hAt
  replace hAt : At B h0 (mkG [(0, fV (Rep.slice r_i64) x0)]) (mkO []) F 25 a w := hAt
  refine then_n ?_
  refine wp_seq ?_
  obtain ⟨o2, hl3, H⟩ := bindE H
  refine wp_mono (Q := (fun o e a w => (fun v => e = .normal ∧ At B h0 (mkG [(0, fV (Rep.slice r_i64) x0)]) (mkO []) F 25 a w) o) o2) ?_ ?_
  · clear H
    have H := hl3
    clear hl3
    refine wp_seq ?_
    refine reg [⟨fV (Rep.slice r_i64) x0, [], [(0, none)], []⟩,
        ⟨fV r_i64 (List.length x0 : Int), [], [(5, some 0)], []⟩,
        ⟨fV Rep.bool (cmpI .lss (List.length x0 : Int) 1), [], [(6, some 1)], []⟩] [0, 7] [] hAt
        ⟨ok_move rfl opd0,
        ok_len un22 rfl opd0,
        ok_cmp (op := .lss) (by simp) rfl rfl opd0 opdI, trivial⟩ (by kernel_rfl) ?_
    clear hAt
    intro a w hAt
    replace hAt : At B h0 (mkG [(0, fV (Rep.slice r_i64) x0), (7, fV Rep.bool (cmpI .lss (List.length x0 : Int) 1))]) (mkO []) F 25 a w := hAt
    refine then_n ?_
    refine wp_if hAt (by rfl) ?_ ?_
    · intro hb1
      have H := iteT hb1 H
      cases H
    · intro hb1
      have H := iteF hb1 H
      refine wp_skip ?_
      cases H
      exact ⟨rfl, hAt.pick [0] []⟩
  · clear hAt
    intro e a w hp
    obtain ⟨rfl, hAt⟩ := hp
    refine then_n ?_
    refine wp_seq ?_
    obtain ⟨v4, hv4, H⟩ := bindE H
    refine reg [⟨fV (Rep.slice r_i64) x0, [], [(0, none)], []⟩,
        ⟨fRef r_i64 v4, [], [(9, some 0)], []⟩,
        ⟨fV r_i64 v4, [], [(10, some 1)], []⟩,
        ⟨fV r_i64 v4, [], [(11, some 2)], []⟩] [0, 3] [] hAt
        ⟨ok_move rfl opd0,
        ok_index ty3 un22 hv4 rfl opd0 opdI,
        ok_load ty3 rfl opd0,
        ok_assign rfl opd0, trivial⟩ (by kernel_rfl) ?_
    clear hAt
    intro a w hAt
    replace hAt : At B h0 (mkG [(0, fV (Rep.slice r_i64) x0), (3, fV r_i64 v4)]) (mkO []) F 25 a w := hAt
    refine then_n ?_
    refine wp_seq ?_
    refine wp_seq ?_
    refine reg [⟨fV r_i64 1, [], [], []⟩] [0, 3, 4] [] hAt
        ⟨ok_assign rfl opdI, trivial⟩ (by kernel_rfl) ?_
    clear hAt
    intro a w hAt
    replace hAt : At B h0 (mkG [(0, fV (Rep.slice r_i64) x0), (3, fV r_i64 v4), (4, fV r_i64 1)]) (mkO []) F 25 a w := hAt
    refine then_n ?_
    refine wp_block ?_
    obtain ⟨o8, hl9, H⟩ := bindE H
    refine wp_mono (wp_loopN (f := f_slices_Maxlint_int_L1 N x0) (fun (s5 : (Int × Int)) a w => At B h0 (mkG [(0, fV (Rep.slice r_i64) x0), (3, fV r_i64 s5.1), (4, fV r_i64 s5.2)]) (mkO []) F 25 a w) (fun o e a w => (fun v => e = .exit 0 ∧ At B h0 (mkG [(3, fV r_i64 v)]) (mkO []) F 25 a w) o) ?_ N (v4, 1) o8 _ _ hl9 ?_) ?_
    · clear H hAt hl9
      intro s5 r10 a w H hAt
      unfold f_slices_Maxlint_int_L1 at H
      refine wp_seq ?_
      refine wp_seq ?_
      refine reg [⟨fV r_i64 s5.2, [], [(4, none)], []⟩,
          ⟨fV (Rep.slice r_i64) x0, [], [(0, none)], []⟩,
          ⟨fV r_i64 (List.length x0 : Int), [], [(13, some 1)], []⟩,
          ⟨fV Rep.bool (cmpI .lss s5.2 (List.length x0 : Int)), [], [(12, some 0), (14, some 2)], []⟩] [0, 3, 4, 15] [] hAt
          ⟨ok_move rfl opd0,
          ok_move rfl opd0,
          ok_len un22 rfl opd0,
          ok_cmp (op := .lss) (by simp) rfl rfl opd0 opd1, trivial⟩ (by kernel_rfl) ?_
      clear hAt
      intro a w hAt
      replace hAt : At B h0 (mkG [(0, fV (Rep.slice r_i64) x0), (3, fV r_i64 s5.1), (4, fV r_i64 s5.2), (15, fV Rep.bool (cmpI .lss s5.2 (List.length x0 : Int)))]) (mkO []) F 25 a w := hAt
      refine then_n ?_
      refine wp_if hAt (by rfl) ?_ ?_
      · intro hb7
        have H := iteT hb7 H
        refine wp_skip ?_
        refine then_n ?_
        refine wp_seq ?_
        refine wp_block ?_
        obtain ⟨v6, hv6, H⟩ := bindE H
        refine reg [⟨fV r_i64 s5.1, [], [(3, none)], []⟩,
            ⟨fV (Rep.slice r_i64) x0, [], [(0, none)], []⟩,
            ⟨fV r_i64 s5.2, [], [(4, none)], []⟩,
            ⟨fRef r_i64 v6, [], [(19, some 1), (20, some 2)], []⟩,
            ⟨fV r_i64 v6, [], [(21, some 3)], []⟩,
            ⟨fV r_i64 (max s5.1 v6), [], [(18, some 0), (22, some 4)], []⟩,
            ⟨fV r_i64 (max s5.1 v6), [], [(23, some 5)], []⟩] [0, 3, 4] [] hAt
            ⟨ok_move rfl opd0,
            ok_move rfl opd0,
            ok_move rfl opd0,
            ok_index ty3 un22 hv6 rfl opd0 opd1,
            ok_load ty3 rfl opd0,
            ok_max rfl opd0 opd1,
            ok_assign rfl opd0, trivial⟩ (by kernel_rfl) ?_
        clear hAt
        intro a w hAt
        replace hAt : At B h0 (mkG [(0, fV (Rep.slice r_i64) x0), (3, fV r_i64 (max s5.1 v6)), (4, fV r_i64 s5.2)]) (mkO []) F 25 a w := hAt
        refine blk_n ?_
        refine then_n ?_
        refine reg [⟨fV r_i64 s5.2, [], [(4, none)], []⟩,
            ⟨fV r_i64 (IntKind.i64.wrap (s5.2 + 1)), [], [(16, some 0)], []⟩,
            ⟨fV r_i64 (IntKind.i64.wrap (s5.2 + 1)), [], [(17, some 1)], []⟩] [0, 3, 4] [] hAt
            ⟨ok_move rfl opd0,
            ok_add rfl opd0 opdI,
            ok_assign rfl opd0, trivial⟩ (by kernel_rfl) ?_
        clear hAt
        intro a w hAt
        replace hAt : At B h0 (mkG [(0, fV (Rep.slice r_i64) x0), (3, fV r_i64 (max s5.1 v6)), (4, fV r_i64 (IntKind.i64.wrap (s5.2 + 1)))]) (mkO []) F 25 a w := hAt
        cases H
        exact ⟨rfl, hAt.pick [0, 3, 4] []⟩
      · intro hb7
        have H := iteF hb7 H
        refine wp_exit ?_
        refine then_x ?_
        cases H
        exact ⟨ex_ne, rfl, hAt.pick [3] []⟩
    · exact hAt.pick [0, 3, 4] []
    · clear hAt
      intro e a w hp
      obtain ⟨rfl, hAt⟩ := hp
      refine blk_eq ?_
      refine then_n ?_
      refine wp_seq ?_
      refine reg [⟨fV r_i64 o8, [], [(3, none)], []⟩,
          ⟨fV r_i64 o8, [], [(24, some 0)], []⟩] [2] [] hAt
          ⟨ok_move rfl opd0,
          ok_assign rfl opd0, trivial⟩ (by kernel_rfl) ?_
      clear hAt
      intro a w hAt
      replace hAt : At B h0 (mkG [(2, fV r_i64 o8)]) (mkO []) F 25 a w := hAt
      refine then_n ?_
      refine wp_ret ?_
      cases H
      exact ret1 rfl (rv_tmp rfl rfl) hAt
theorem ok_f_survey_Thickness (N : Nat) (x0 : GCoat) (x1 : (List Int)) (r : Int × Int) (H : f_survey_Thickness N x0 x1 = some r) : FnOk Try.prog 50 [fV GCoat.rep x0, fV (Rep.slice r_i64) x1] (fT2 (fV r_i64 (r.1)) (fV r_i64 (r.2))) := by
  unfold f_survey_Thickness at H
  refine fn_enter Try.func50 rfl rfl (by kernel_rfl) ?_
  intro κ B h0 F a w hAt
  refine wp_seq ?_
  refine reg [⟨fRef GCoat.rep x0, [], [(0, none)], []⟩,
      ⟨fV r_i64 0, [], [], []⟩,
      ⟨fV r_i64 0, [], [], []⟩] [1, 2] [] hAt
      ⟨ok_box rfl opd0,
      ok_assign rfl opdI,
      ok_assign rfl opdI, trivial⟩ (by kernel_rfl) ?_
  clear hAt
  intro a w hAt
  replace hAt : At B h0 (mkG [(1, fV (Rep.slice r_i64) x1), (2, fRef GCoat.rep x0)]) (mkO []) F 70 a w := hAt
  refine then_n ?_
  refine wp_seq ?_
  refine wp_seq ?_
  obtain ⟨v1, hv1, H⟩ := bindE H
  refine reg [⟨fRef Rep.str x0.Name, [], [(2, none)], []⟩,
      ⟨fV Rep.str x0.Name, [], [(12, some 0)], []⟩,
      ⟨fV Rep.bool v1, [], [(13, some 1)], []⟩,
      ⟨fV Rep.bool (!v1), [], [(14, some 2)], []⟩] [1, 2, 15] [] hAt
      ⟨ok_field GCoat.l0 fo95_0 rfl opd0,
      ok_load ty9 rfl opd0,
      ok_call (ok_f_survey_name N x0.Name _ hv1) Try.func70 (by kernel_rfl) (by kernel_rfl) rfl ⟨opd0, trivial⟩,
      ok_not rfl opd0, trivial⟩ (by kernel_rfl) ?_
  clear hAt
  intro a w hAt
  replace hAt : At B h0 (mkG [(1, fV (Rep.slice r_i64) x1), (2, fRef GCoat.rep x0), (15, fV Rep.bool (!v1))]) (mkO []) F 70 a w := hAt
  refine then_n ?_
  refine wp_if hAt (by rfl) ?_ ?_
  · intro hb19
    have H := iteT hb19 H
    refine wp_seq ?_
    refine reg [⟨fV r_i64 0, [], [], []⟩,
        ⟨fV r_i64 4, [], [], []⟩] [4, 5] [] hAt
        ⟨ok_assign rfl opdI,
        ok_assign rfl opdI, trivial⟩ (by kernel_rfl) ?_
    clear hAt
    intro a w hAt
    replace hAt : At B h0 (mkG [(4, fV r_i64 0), (5, fV r_i64 4)]) (mkO []) F 70 a w := hAt
    refine then_n ?_
    refine wp_ret ?_
    refine then_r ?_
    cases H
    exact ret2 rfl (rv_tmp rfl rfl) (rv_tmp rfl rfl) hAt
  · intro hb19
    have H := iteF hb19 H
    refine wp_skip ?_
    refine then_n ?_
    refine wp_seq ?_
    refine wp_seq ?_
    obtain ⟨v2, hv2, H⟩ := bindE H
    refine reg [⟨fV GCoat.rep x0, [], [(2, none)], []⟩,
        ⟨fV r_i64 v2, [], [(16, some 0)], []⟩,
        ⟨fV r_i64 v2, [], [(17, some 1)], []⟩] [1, 2, 6] [] hAt
        ⟨ok_load ty95 rfl opd0,
        ok_call (ok_f_survey_checkCoat N x0 _ hv2) Try.func89 (by kernel_rfl) (by kernel_rfl) rfl ⟨opd0, trivial⟩,
        ok_assign rfl opd0, trivial⟩ (by kernel_rfl) ?_
    clear hAt
    intro a w hAt
    replace hAt : At B h0 (mkG [(1, fV (Rep.slice r_i64) x1), (2, fRef GCoat.rep x0), (6, fV r_i64 v2)]) (mkO []) F 70 a w := hAt
    refine then_n ?_
    refine wp_seq ?_
    refine reg [⟨fV r_i64 v2, [], [(6, none)], []⟩,
        ⟨fV Rep.bool (cmpI .neq v2 0), [], [(18, some 0)], []⟩] [1, 2, 6, 19] [] hAt
        ⟨ok_move rfl opd0,
        ok_cmp (op := .neq) (by simp) rfl rfl opd0 opdI, trivial⟩ (by kernel_rfl) ?_
    clear hAt
    intro a w hAt
    replace hAt : At B h0 (mkG [(1, fV (Rep.slice r_i64) x1), (2, fRef GCoat.rep x0), (6, fV r_i64 v2), (19, fV Rep.bool (cmpI .neq v2 0))]) (mkO []) F 70 a w := hAt
    refine then_n ?_
    refine wp_if hAt (by rfl) ?_ ?_
    · intro hb18
      have H := iteT hb18 H
      refine wp_seq ?_
      refine reg [⟨fV r_i64 v2, [], [(6, none)], []⟩,
          ⟨fV r_i64 0, [], [], []⟩,
          ⟨fV r_i64 v2, [], [(20, some 0)], []⟩] [4, 5] [] hAt
          ⟨ok_move rfl opd0,
          ok_assign rfl opdI,
          ok_assign rfl opd0, trivial⟩ (by kernel_rfl) ?_
      clear hAt
      intro a w hAt
      replace hAt : At B h0 (mkG [(4, fV r_i64 0), (5, fV r_i64 v2)]) (mkO []) F 70 a w := hAt
      refine then_n ?_
      refine wp_ret ?_
      refine then_r ?_
      cases H
      exact ret2 rfl (rv_tmp rfl rfl) (rv_tmp rfl rfl) hAt
    · intro hb18
      have H := iteF hb18 H
      refine wp_skip ?_
      refine then_n ?_
      refine wp_seq ?_
      refine wp_block ?_
      refine wp_seq ?_
      refine reg [⟨fV (Rep.slice r_i64) x1, [], [(1, none)], []⟩,
          ⟨fV r_i64 (List.length x1 : Int), [], [(22, some 0)], []⟩,
          ⟨fV Rep.bool (cmpI .eql (List.length x1 : Int) 0), [], [(23, some 1)], []⟩,
          ⟨fV Rep.bool (cmpI .eql (List.length x1 : Int) 0), [], [(24, some 2)], []⟩] [1, 2, 21] [] hAt
          ⟨ok_move rfl opd0,
          ok_len un22 rfl opd0,
          ok_cmp (op := .eql) (by simp) rfl rfl opd0 opdI,
          ok_assign rfl opd0, trivial⟩ (by kernel_rfl) ?_
      clear hAt
      intro a w hAt
      replace hAt : At B h0 (mkG [(1, fV (Rep.slice r_i64) x1), (2, fRef GCoat.rep x0), (21, fV Rep.bool (cmpI .eql (List.length x1 : Int) 0))]) (mkO []) F 70 a w := hAt
      refine then_n ?_
      refine wp_if hAt (by rfl) ?_ ?_
      · intro hb17
        have H := iteT hb17 H
        refine wp_seq ?_
        refine reg [⟨fV r_i64 0, [], [], []⟩,
            ⟨fV r_i64 11, [], [], []⟩] [4, 5] [] hAt
            ⟨ok_assign rfl opdI,
            ok_assign rfl opdI, trivial⟩ (by kernel_rfl) ?_
        clear hAt
        intro a w hAt
        replace hAt : At B h0 (mkG [(4, fV r_i64 0), (5, fV r_i64 11)]) (mkO []) F 70 a w := hAt
        refine then_n ?_
        refine wp_ret ?_
        refine blk_r ?_
        refine then_r ?_
        cases H
        exact ret2 rfl (rv_tmp rfl rfl) (rv_tmp rfl rfl) hAt
      · intro hb17
        have H := iteF hb17 H
        refine wp_seq ?_
        refine reg [⟨fV (Rep.slice r_i64) x1, [], [(1, none)], []⟩,
            ⟨fV r_i64 (List.length x1 : Int), [], [(26, some 0)], []⟩,
            ⟨fV Rep.bool (cmpI .gtr (List.length x1 : Int) 100), [], [(27, some 1)], []⟩,
            ⟨fV Rep.bool (cmpI .gtr (List.length x1 : Int) 100), [], [(28, some 2)], []⟩] [1, 2, 25] [] hAt
            ⟨ok_move rfl opd0,
            ok_len un22 rfl opd0,
            ok_cmp (op := .gtr) (by simp) rfl rfl opd0 opdI,
            ok_assign rfl opd0, trivial⟩ (by kernel_rfl) ?_
        clear hAt
        intro a w hAt
        replace hAt : At B h0 (mkG [(1, fV (Rep.slice r_i64) x1), (2, fRef GCoat.rep x0), (25, fV Rep.bool (cmpI .gtr (List.length x1 : Int) 100))]) (mkO []) F 70 a w := hAt
        refine then_n ?_
        refine wp_if hAt (by rfl) ?_ ?_
        · intro hb16
          have H := iteT hb16 H
          refine wp_seq ?_
          refine reg [⟨fV r_i64 0, [], [], []⟩,
              ⟨fV r_i64 8, [], [], []⟩] [4, 5] [] hAt
              ⟨ok_assign rfl opdI,
              ok_assign rfl opdI, trivial⟩ (by kernel_rfl) ?_
          clear hAt
          intro a w hAt
          replace hAt : At B h0 (mkG [(4, fV r_i64 0), (5, fV r_i64 8)]) (mkO []) F 70 a w := hAt
          refine then_n ?_
          refine wp_ret ?_
          refine blk_r ?_
          refine then_r ?_
          cases H
          exact ret2 rfl (rv_tmp rfl rfl) (rv_tmp rfl rfl) hAt
        · intro hb16
          have H := iteF hb16 H
          refine wp_seq ?_
          obtain ⟨v3, hv3, H⟩ := bindE H
          refine reg [⟨fV (Rep.slice r_i64) x1, [], [(1, none)], []⟩,
              ⟨fV Rep.bool v3, [], [(30, some 0)], []⟩,
              ⟨fV Rep.bool (!v3), [], [(31, some 1)], []⟩,
              ⟨fV Rep.bool (!v3), [], [(32, some 2)], []⟩] [1, 2, 29] [] hAt
              ⟨ok_move rfl opd0,
              ok_call (ok_f_survey_inside N 0 20000 x1 _ hv3) Try.func71 (by kernel_rfl) (by kernel_rfl) rfl ⟨opdI, ⟨opdI, ⟨opd0, trivial⟩⟩⟩,
              ok_not rfl opd0,
              ok_assign rfl opd0, trivial⟩ (by kernel_rfl) ?_
          clear hAt
          intro a w hAt
          replace hAt : At B h0 (mkG [(1, fV (Rep.slice r_i64) x1), (2, fRef GCoat.rep x0), (29, fV Rep.bool (!v3))]) (mkO []) F 70 a w := hAt
          refine then_n ?_
          refine wp_if hAt (by rfl) ?_ ?_
          · intro hb15
            have H := iteT hb15 H
            refine wp_seq ?_
            refine reg [⟨fV r_i64 0, [], [], []⟩,
                ⟨fV r_i64 2, [], [], []⟩] [4, 5] [] hAt
                ⟨ok_assign rfl opdI,
                ok_assign rfl opdI, trivial⟩ (by kernel_rfl) ?_
            clear hAt
            intro a w hAt
            replace hAt : At B h0 (mkG [(4, fV r_i64 0), (5, fV r_i64 2)]) (mkO []) F 70 a w := hAt
            refine then_n ?_
            refine wp_ret ?_
            refine blk_r ?_
            refine then_r ?_
            cases H
            exact ret2 rfl (rv_tmp rfl rfl) (rv_tmp rfl rfl) hAt
          · intro hb15
            have H := iteF hb15 H
            refine wp_skip ?_
            refine blk_n ?_
            refine then_n ?_
            refine wp_seq ?_
            refine reg [⟨fV r_i64 0, [], [], []⟩] [1, 2, 7] [] hAt
                ⟨ok_assign rfl opdI, trivial⟩ (by kernel_rfl) ?_
            clear hAt
            intro a w hAt
            replace hAt : At B h0 (mkG [(1, fV (Rep.slice r_i64) x1), (2, fRef GCoat.rep x0), (7, fV r_i64 0)]) (mkO []) F 70 a w := hAt
            refine then_n ?_
            refine wp_seq ?_
            refine wp_seq ?_
            refine reg [⟨fV (Rep.slice r_i64) x1, [], [(1, none)], []⟩,
                ⟨fV r_i64 (List.length x1 : Int), [], [(33, some 0)], []⟩,
                ⟨fV r_i64 0, [], [], []⟩] [1, 2, 7, 33, 34, 35] [] hAt
                ⟨ok_move rfl opd0,
                ok_len un22 rfl opd0,
                ok_move rfl opdI, trivial⟩ (by kernel_rfl) ?_
            clear hAt
            intro a w hAt
            replace hAt : At B h0 (mkG [(1, fV (Rep.slice r_i64) x1), (2, fRef GCoat.rep x0), (7, fV r_i64 0), (33, fV (Rep.slice r_i64) x1), (34, fV r_i64 (List.length x1 : Int)), (35, fV r_i64 0)]) (mkO []) F 70 a w := hAt
            refine then_n ?_
            refine wp_block ?_
            obtain ⟨o8, hl9, H⟩ := bindE H
            refine wp_mono (wp_loopN (f := f_survey_Thickness_L1 N x0 x1) (fun (s4 : (Int × Int)) a w => At B h0 (mkG [(1, fV (Rep.slice r_i64) x1), (2, fRef GCoat.rep x0), (7, fV r_i64 s4.1), (33, fV (Rep.slice r_i64) x1), (34, fV r_i64 (List.length x1 : Int)), (35, fV r_i64 s4.2)]) (mkO []) F 70 a w) (fun o e a w => (fun v => e = .exit 1 ∧ At B h0 (mkG [(1, fV (Rep.slice r_i64) x1), (2, fRef GCoat.rep x0), (7, fV r_i64 v)]) (mkO []) F 70 a w) o) ?_ N (0, 0) o8 _ _ hl9 ?_) ?_
            · clear H hAt hl9
              intro s4 r14 a w H hAt
              unfold f_survey_Thickness_L1 at H
              refine wp_seq ?_
              refine reg [⟨fV Rep.bool (cmpI .lss s4.2 (List.length x1 : Int)), [], [(35, none), (34, none)], []⟩] [1, 2, 7, 33, 34, 35, 36] [] hAt
                  ⟨ok_cmp (op := .lss) (by simp) rfl rfl opd0 opd1, trivial⟩ (by kernel_rfl) ?_
              clear hAt
              intro a w hAt
              replace hAt : At B h0 (mkG [(1, fV (Rep.slice r_i64) x1), (2, fRef GCoat.rep x0), (7, fV r_i64 s4.1), (33, fV (Rep.slice r_i64) x1), (34, fV r_i64 (List.length x1 : Int)), (35, fV r_i64 s4.2), (36, fV Rep.bool (cmpI .lss s4.2 (List.length x1 : Int)))]) (mkO []) F 70 a w := hAt
              refine then_n ?_
              refine wp_seq ?_
              refine wp_if hAt (by rfl) ?_ ?_
              · intro hb7
                have H := iteT hb7 H
                refine wp_skip ?_
                refine then_n ?_
                refine wp_seq ?_
                refine wp_block ?_
                refine wp_seq ?_
                obtain ⟨v5, hv5, H⟩ := bindE H
                refine reg [⟨fRef r_i64 v5, [], [(33, none), (35, none)], []⟩,
                    ⟨fV r_i64 v5, [], [(37, some 0)], []⟩,
                    ⟨fV r_i64 v5, [], [(38, some 1)], []⟩] [1, 2, 7, 9, 33, 34, 35] [] hAt
                    ⟨ok_index ty3 un22 hv5 rfl opd0 opd1,
                    ok_load ty3 rfl opd0,
                    ok_assign rfl opd0, trivial⟩ (by kernel_rfl) ?_
                clear hAt
                intro a w hAt
                replace hAt : At B h0 (mkG [(1, fV (Rep.slice r_i64) x1), (2, fRef GCoat.rep x0), (7, fV r_i64 s4.1), (9, fV r_i64 v5), (33, fV (Rep.slice r_i64) x1), (34, fV r_i64 (List.length x1 : Int)), (35, fV r_i64 s4.2)]) (mkO []) F 70 a w := hAt
                refine then_n ?_
                refine wp_seq ?_
                refine reg [⟨fV r_i64 v5, [], [(9, none)], []⟩,
                    ⟨fRef r_i64 x0.Nominal, [], [(2, none)], []⟩,
                    ⟨fV r_i64 x0.Nominal, [], [(40, some 1)], []⟩,
                    ⟨fV Rep.bool (cmpI .geq v5 x0.Nominal), [], [(39, some 0), (41, some 2)], []⟩] [1, 2, 7, 33, 34, 35, 42] [] hAt
                    ⟨ok_move rfl opd0,
                    ok_field GCoat.l1 fo95_1 rfl opd0,
                    ok_load ty3 rfl opd0,
                    ok_cmp (op := .geq) (by simp) rfl rfl opd0 opd1, trivial⟩ (by kernel_rfl) ?_
                clear hAt
                intro a w hAt
                replace hAt : At B h0 (mkG [(1, fV (Rep.slice r_i64) x1), (2, fRef GCoat.rep x0), (7, fV r_i64 s4.1), (33, fV (Rep.slice r_i64) x1), (34, fV r_i64 (List.length x1 : Int)), (35, fV r_i64 s4.2), (42, fV Rep.bool (cmpI .geq v5 x0.Nominal))]) (mkO []) F 70 a w := hAt
                refine then_n ?_
                refine wp_if hAt (by rfl) ?_ ?_
                · intro hb6
                  have H := iteT hb6 H
                  refine reg [⟨fV r_i64 s4.1, [], [(7, none)], []⟩,
                      ⟨fV r_i64 (IntKind.i64.wrap (s4.1 + 1)), [], [(43, some 0)], []⟩,
                      ⟨fV r_i64 (IntKind.i64.wrap (s4.1 + 1)), [], [(44, some 1)], []⟩] [1, 2, 7, 33, 34, 35] [] hAt
                      ⟨ok_move rfl opd0,
                      ok_add rfl opd0 opdI,
                      ok_assign rfl opd0, trivial⟩ (by kernel_rfl) ?_
                  clear hAt
                  intro a w hAt
                  replace hAt : At B h0 (mkG [(1, fV (Rep.slice r_i64) x1), (2, fRef GCoat.rep x0), (7, fV r_i64 (IntKind.i64.wrap (s4.1 + 1))), (33, fV (Rep.slice r_i64) x1), (34, fV r_i64 (List.length x1 : Int)), (35, fV r_i64 s4.2)]) (mkO []) F 70 a w := hAt
                  refine blk_n ?_
                  refine then_n ?_
                  refine reg [⟨fV r_i64 (IntKind.i64.wrap (s4.2 + 1)), [], [(35, none)], []⟩,
                      ⟨fV r_i64 (IntKind.i64.wrap (s4.2 + 1)), [], [(45, some 0)], []⟩] [1, 2, 7, 33, 34, 35] [] hAt
                      ⟨ok_add rfl opd0 opdI,
                      ok_move rfl opd0, trivial⟩ (by kernel_rfl) ?_
                  clear hAt
                  intro a w hAt
                  replace hAt : At B h0 (mkG [(1, fV (Rep.slice r_i64) x1), (2, fRef GCoat.rep x0), (7, fV r_i64 (IntKind.i64.wrap (s4.1 + 1))), (33, fV (Rep.slice r_i64) x1), (34, fV r_i64 (List.length x1 : Int)), (35, fV r_i64 (IntKind.i64.wrap (s4.2 + 1)))]) (mkO []) F 70 a w := hAt
                  cases H
                  exact ⟨rfl, hAt.pick [1, 2, 7, 33, 34, 35] []⟩
                · intro hb6
                  have H := iteF hb6 H
                  refine wp_skip ?_
                  refine blk_n ?_
                  refine then_n ?_
                  refine reg [⟨fV r_i64 (IntKind.i64.wrap (s4.2 + 1)), [], [(35, none)], []⟩,
                      ⟨fV r_i64 (IntKind.i64.wrap (s4.2 + 1)), [], [(45, some 0)], []⟩] [1, 2, 7, 33, 34, 35] [] hAt
                      ⟨ok_add rfl opd0 opdI,
                      ok_move rfl opd0, trivial⟩ (by kernel_rfl) ?_
                  clear hAt
                  intro a w hAt
                  replace hAt : At B h0 (mkG [(1, fV (Rep.slice r_i64) x1), (2, fRef GCoat.rep x0), (7, fV r_i64 s4.1), (33, fV (Rep.slice r_i64) x1), (34, fV r_i64 (List.length x1 : Int)), (35, fV r_i64 (IntKind.i64.wrap (s4.2 + 1)))]) (mkO []) F 70 a w := hAt
                  cases H
                  exact ⟨rfl, hAt.pick [1, 2, 7, 33, 34, 35] []⟩
              · intro hb7
                have H := iteF hb7 H
                refine wp_exit ?_
                refine then_x ?_
                cases H
                exact ⟨ex_ne, rfl, hAt.pick [1, 2, 7] []⟩
            · exact hAt.pick [1, 2, 7, 33, 34, 35] []
            · clear hAt
              intro e a w hp
              obtain ⟨rfl, hAt⟩ := hp
              refine blk_eq ?_
              refine then_n ?_
              refine wp_seq ?_
              obtain ⟨v10, hv10, H⟩ := bindE H
              obtain ⟨v11, hv11, H⟩ := bindE H
              refine reg [⟨fV (Rep.slice r_i64) x1, [], [(1, none)], []⟩,
                  ⟨fV r_i64 v10, [], [(46, some 0)], []⟩,
                  ⟨fV (Rep.slice r_i64) x1, [], [(1, none)], []⟩,
                  ⟨fV r_i64 v11, [], [(48, some 2)], []⟩,
                  ⟨fV r_i64 v10, [], [(47, some 1)], []⟩,
                  ⟨fV r_i64 v11, [], [(49, some 3)], []⟩] [1, 2, 7, 10, 11] [] hAt
                  ⟨ok_move rfl opd0,
                  ok_call (ok_f_slices_Minlint_int N x1 _ hv10) Try.func90 (by kernel_rfl) (by kernel_rfl) rfl ⟨opd0, trivial⟩,
                  ok_move rfl opd0,
                  ok_call (ok_f_slices_Maxlint_int N x1 _ hv11) Try.func91 (by kernel_rfl) (by kernel_rfl) rfl ⟨opd0, trivial⟩,
                  ok_assign rfl opd0,
                  ok_assign rfl opd0, trivial⟩ (by kernel_rfl) ?_
              clear hAt
              intro a w hAt
              replace hAt : At B h0 (mkG [(1, fV (Rep.slice r_i64) x1), (2, fRef GCoat.rep x0), (7, fV r_i64 o8), (10, fV r_i64 v10), (11, fV r_i64 v11)]) (mkO []) F 70 a w := hAt
              refine then_n ?_
              refine wp_seq ?_
              refine wp_block ?_
              refine wp_seq ?_
              refine reg [⟨fV r_i64 v11, [], [(11, none)], []⟩,
                  ⟨fRef r_i64 x0.Most, [], [(2, none)], []⟩,
                  ⟨fV r_i64 x0.Most, [], [(52, some 1)], []⟩,
                  ⟨fV Rep.bool (cmpI .gtr v11 x0.Most), [], [(51, some 0), (53, some 2)], []⟩,
                  ⟨fV Rep.bool (cmpI .gtr v11 x0.Most), [], [(54, some 3)], []⟩] [1, 2, 7, 10, 50] [] hAt
                  ⟨ok_move rfl opd0,
                  ok_field GCoat.l2 fo95_2 rfl opd0,
                  ok_load ty3 rfl opd0,
                  ok_cmp (op := .gtr) (by simp) rfl rfl opd0 opd1,
                  ok_assign rfl opd0, trivial⟩ (by kernel_rfl) ?_
              clear hAt
              intro a w hAt
              replace hAt : At B h0 (mkG [(1, fV (Rep.slice r_i64) x1), (2, fRef GCoat.rep x0), (7, fV r_i64 o8), (10, fV r_i64 v10), (50, fV Rep.bool (cmpI .gtr v11 x0.Most))]) (mkO []) F 70 a w := hAt
              refine then_n ?_
              refine wp_if hAt (by rfl) ?_ ?_
              · intro hb13
                have H := iteT hb13 H
                refine wp_seq ?_
                refine reg [⟨fV r_i64 1, [], [], []⟩,
                    ⟨fV r_i64 0, [], [], []⟩] [4, 5] [] hAt
                    ⟨ok_assign rfl opdI,
                    ok_assign rfl opdI, trivial⟩ (by kernel_rfl) ?_
                clear hAt
                intro a w hAt
                replace hAt : At B h0 (mkG [(4, fV r_i64 1), (5, fV r_i64 0)]) (mkO []) F 70 a w := hAt
                refine then_n ?_
                refine wp_ret ?_
                refine blk_r ?_
                refine then_r ?_
                cases H
                exact ret2 rfl (rv_tmp rfl rfl) (rv_tmp rfl rfl) hAt
              · intro hb13
                have H := iteF hb13 H
                refine wp_seq ?_
                refine reg [⟨fV r_i64 o8, [], [(7, none)], []⟩,
                    ⟨fV r_i64 (IntKind.i64.wrap (10 * o8)), [], [(56, some 0)], []⟩,
                    ⟨fV (Rep.slice r_i64) x1, [], [(1, none)], []⟩,
                    ⟨fV r_i64 (List.length x1 : Int), [], [(58, some 2)], []⟩,
                    ⟨fV r_i64 (IntKind.i64.wrap (9 * (List.length x1 : Int))), [], [(59, some 3)], []⟩,
                    ⟨fV Rep.bool (cmpI .lss (IntKind.i64.wrap (10 * o8)) (IntKind.i64.wrap (9 * (List.length x1 : Int)))), [], [(57, some 1), (60, some 4)], []⟩,
                    ⟨fV Rep.bool (cmpI .lss (IntKind.i64.wrap (10 * o8)) (IntKind.i64.wrap (9 * (List.length x1 : Int)))), [], [(61, some 5)], []⟩,
                    ⟨Fact.when ((!(cmpI .lss (IntKind.i64.wrap (10 * o8)) (IntKind.i64.wrap (9 * (List.length x1 : Int))))) = true) (fV r_i64 v10), [], [(62, some 6), (10, none)], []⟩,
                    ⟨Fact.when ((!(cmpI .lss (IntKind.i64.wrap (10 * o8)) (IntKind.i64.wrap (9 * (List.length x1 : Int))))) = true) (fV r_i64 (IntKind.i64.wrap (10 * v10))), [], [(62, some 6), (63, some 7)], []⟩,
                    ⟨Fact.when ((!(cmpI .lss (IntKind.i64.wrap (10 * o8)) (IntKind.i64.wrap (9 * (List.length x1 : Int))))) = true) (fRef r_i64 x0.Nominal), [], [(62, some 6), (2, none)], []⟩,
                    ⟨Fact.when ((!(cmpI .lss (IntKind.i64.wrap (10 * o8)) (IntKind.i64.wrap (9 * (List.length x1 : Int))))) = true) (fV r_i64 x0.Nominal), [], [(62, some 6), (65, some 9)], []⟩,
                    ⟨Fact.when ((!(cmpI .lss (IntKind.i64.wrap (10 * o8)) (IntKind.i64.wrap (9 * (List.length x1 : Int))))) = true) (fV r_i64 (IntKind.i64.wrap (9 * x0.Nominal))), [], [(62, some 6), (66, some 10)], []⟩,
                    ⟨Fact.when ((!(cmpI .lss (IntKind.i64.wrap (10 * o8)) (IntKind.i64.wrap (9 * (List.length x1 : Int))))) = true) (fV Rep.bool (cmpI .lss (IntKind.i64.wrap (10 * v10)) (IntKind.i64.wrap (9 * x0.Nominal)))), [], [(62, some 6), (64, some 8), (67, some 11)], []⟩,
                    ⟨fV Rep.bool ((cmpI .lss (IntKind.i64.wrap (10 * o8)) (IntKind.i64.wrap (9 * (List.length x1 : Int)))) || (cmpI .lss (IntKind.i64.wrap (10 * v10)) (IntKind.i64.wrap (9 * x0.Nominal)))), [], [(62, some 6), (68, some 12)], []⟩,
                    ⟨fV Rep.bool ((cmpI .lss (IntKind.i64.wrap (10 * o8)) (IntKind.i64.wrap (9 * (List.length x1 : Int)))) || (cmpI .lss (IntKind.i64.wrap (10 * v10)) (IntKind.i64.wrap (9 * x0.Nominal)))), [], [(69, some 13)], []⟩] [55] [] hAt
                    ⟨ok_move rfl opd0,
                    ok_mul rfl opdI opd0,
                    ok_move rfl opd0,
                    ok_len un22 rfl opd0,
                    ok_mul rfl opdI opd0,
                    ok_cmp (op := .lss) (by simp) rfl rfl opd0 opd1,
                    ok_move rfl opd0,
                    obl_tf rfl rfl rfl rfl rfl rfl rfl (fun hg => ok_move rfl opd1),
                    obl_tf rfl rfl rfl rfl rfl rfl rfl (fun hg => ok_mul rfl opdI (opd1.on hg)),
                    obl_tf rfl rfl rfl rfl rfl rfl rfl (fun hg => ok_field GCoat.l1 fo95_1 rfl opd1),
                    obl_tf rfl rfl rfl rfl rfl rfl rfl (fun hg => ok_load ty3 rfl (opd1.on hg)),
                    obl_tf rfl rfl rfl rfl rfl rfl rfl (fun hg => ok_mul rfl opdI (opd1.on hg)),
                    obl_tf rfl rfl rfl rfl rfl rfl rfl (fun hg => ok_cmp (op := .lss) (by simp) rfl rfl (opd1.on hg) (opd2.on hg)),
                    ok_or rfl opd0 (fun e => (opd1.on (notT e))),
                    ok_assign rfl opd0, trivial⟩ (by kernel_rfl) ?_
                clear hAt
                intro a w hAt
                replace hAt : At B h0 (mkG [(55, fV Rep.bool ((cmpI .lss (IntKind.i64.wrap (10 * o8)) (IntKind.i64.wrap (9 * (List.length x1 : Int)))) || (cmpI .lss (IntKind.i64.wrap (10 * v10)) (IntKind.i64.wrap (9 * x0.Nominal)))))]) (mkO []) F 70 a w := hAt
                refine then_n ?_
                refine wp_if hAt (by rfl) ?_ ?_
                · intro hb12
                  have H := iteT hb12 H
                  refine wp_seq ?_
                  refine reg [⟨fV r_i64 2, [], [], []⟩,
                      ⟨fV r_i64 0, [], [], []⟩] [4, 5] [] hAt
                      ⟨ok_assign rfl opdI,
                      ok_assign rfl opdI, trivial⟩ (by kernel_rfl) ?_
                  clear hAt
                  intro a w hAt
                  replace hAt : At B h0 (mkG [(4, fV r_i64 2), (5, fV r_i64 0)]) (mkO []) F 70 a w := hAt
                  refine then_n ?_
                  refine wp_ret ?_
                  refine blk_r ?_
                  refine then_r ?_
                  cases H
                  exact ret2 rfl (rv_tmp rfl rfl) (rv_tmp rfl rfl) hAt
                · intro hb12
                  have H := iteF hb12 H
                  refine wp_skip ?_
                  refine blk_n ?_
                  refine then_n ?_
                  refine wp_seq ?_
                  refine reg [⟨fV r_i64 0, [], [], []⟩,
                      ⟨fV r_i64 0, [], [], []⟩] [4, 5] [] hAt
                      ⟨ok_assign rfl opdI,
                      ok_assign rfl opdI, trivial⟩ (by kernel_rfl) ?_
                  clear hAt
                  intro a w hAt
                  replace hAt : At B h0 (mkG [(4, fV r_i64 0), (5, fV r_i64 0)]) (mkO []) F 70 a w := hAt
                  refine then_n ?_
                  refine wp_ret ?_
                  cases H
                  exact ret2 rfl (rv_tmp rfl rfl) (rv_tmp rfl rfl) hAt
theorem ok_f_base_IsName (N : Nat) (x0 : Str) (r : Bool) (H : f_base_IsName N x0 = some r) : FnOk Try.prog 68 [fV Rep.str x0] (fV Rep.bool r) := by
  unfold f_base_IsName at H
  refine fn_enter Try.func68 rfl rfl (by kernel_rfl) ?_
  intro κ B h0 F a w hAt
  refine wp_seq ?_
  refine reg [⟨fV Rep.bool false, [], [], []⟩] [0] [] hAt
      ⟨ok_assign rfl opdB, trivial⟩ (by kernel_rfl) ?_
  clear hAt
  intro a w hAt
  replace hAt : At B h0 (mkG [(0, fV Rep.str x0)]) (mkO []) F 55 a w := hAt
  refine then_n ?_
  refine wp_seq ?_
  refine wp_seq ?_
  refine reg [⟨fV Rep.str x0, [], [(0, none)], []⟩,
      ⟨fV r_i64 (List.length x0 : Int), [], [(6, some 0)], []⟩,
      ⟨fV Rep.bool (cmpI .lss (List.length x0 : Int) 1), [], [(7, some 1)], []⟩,
      ⟨fV Rep.bool (cmpI .lss (List.length x0 : Int) 1), [], [(8, some 2)], []⟩,
      ⟨Fact.when ((!(cmpI .lss (List.length x0 : Int) 1)) = true) (fV Rep.str x0), [], [(9, some 3), (0, none)], []⟩,
      ⟨Fact.when ((!(cmpI .lss (List.length x0 : Int) 1)) = true) (fV r_i64 (List.length x0 : Int)), [], [(9, some 3), (10, some 4)], []⟩,
      ⟨Fact.when ((!(cmpI .lss (List.length x0 : Int) 1)) = true) (fV Rep.bool (cmpI .gtr (List.length x0 : Int) 12)), [], [(9, some 3), (11, some 5)], []⟩,
      ⟨fV Rep.bool ((cmpI .lss (List.length x0 : Int) 1) || (cmpI .gtr (List.length x0 : Int) 12)), [], [(9, some 3), (12, some 6)], []⟩] [0, 13] [] hAt
      ⟨ok_move rfl opd0,
      ok_lenS un9 rfl opd0,
      ok_cmp (op := .lss) (by simp) rfl rfl opd0 opdI,
      ok_move rfl opd0,
      obl_tf rfl rfl rfl rfl rfl rfl rfl (fun hg => ok_move rfl opd1),
      obl_tf rfl rfl rfl rfl rfl rfl rfl (fun hg => ok_lenS un9 rfl (opd1.on hg)),
      obl_tf rfl rfl rfl rfl rfl rfl rfl (fun hg => ok_cmp (op := .gtr) (by simp) rfl rfl (opd1.on hg) opdI),
      ok_or rfl opd0 (fun e => (opd1.on (notT e))), trivial⟩ (by kernel_rfl) ?_
  clear hAt
  intro a w hAt
  replace hAt : At B h0 (mkG [(0, fV Rep.str x0), (13, fV Rep.bool ((cmpI .lss (List.length x0 : Int) 1) || (cmpI .gtr (List.length x0 : Int) 12)))]) (mkO []) F 55 a w := hAt
  refine then_n ?_
  refine wp_if hAt (by rfl) ?_ ?_
  · intro hb10
    have H := iteT hb10 H
    refine wp_seq ?_
    refine reg [⟨fV Rep.bool false, [], [], []⟩] [2] [] hAt
        ⟨ok_assign rfl opdB, trivial⟩ (by kernel_rfl) ?_
    clear hAt
    intro a w hAt
    replace hAt : At B h0 (mkG [(2, fV Rep.bool false)]) (mkO []) F 55 a w := hAt
    refine then_n ?_
    refine wp_ret ?_
    refine then_r ?_
    cases H
    exact ret1 rfl (rv_tmp rfl rfl) hAt
  · intro hb10
    have H := iteF hb10 H
    refine wp_skip ?_
    refine then_n ?_
    refine wp_seq ?_
    refine wp_seq ?_
    refine reg [⟨fV r_i64 0, [], [], []⟩] [0, 3] [] hAt
        ⟨ok_assign rfl opdI, trivial⟩ (by kernel_rfl) ?_
    clear hAt
    intro a w hAt
    replace hAt : At B h0 (mkG [(0, fV Rep.str x0), (3, fV r_i64 0)]) (mkO []) F 55 a w := hAt
    refine then_n ?_
    refine wp_block ?_
    obtain ⟨o5, hl6, H⟩ := bindE H
    refine wp_mono (wp_loopN (f := f_base_IsName_L1 N x0) (fun (s1 : Int) a w => At B h0 (mkG [(0, fV Rep.str x0), (3, fV r_i64 s1)]) (mkO []) F 55 a w) (fun o e a w => (Sum.elim (fun v => e = .exit 0 ∧ At B h0 (mkG []) (mkO []) F 55 a w) (fun v => e = .ret ∧ At B h0 (mkG [(2, fV Rep.bool v)]) (mkO []) F 55 a w)) o) ?_ N 0 o5 _ _ hl6 ?_) ?_
    · clear H hAt hl6
      intro s1 r9 a w H hAt
      unfold f_base_IsName_L1 at H
      refine wp_seq ?_
      refine wp_seq ?_
      refine reg [⟨fV r_i64 s1, [], [(3, none)], []⟩,
          ⟨fV Rep.str x0, [], [(0, none)], []⟩,
          ⟨fV r_i64 (List.length x0 : Int), [], [(15, some 1)], []⟩,
          ⟨fV Rep.bool (cmpI .lss s1 (List.length x0 : Int)), [], [(14, some 0), (16, some 2)], []⟩] [0, 3, 17] [] hAt
          ⟨ok_move rfl opd0,
          ok_move rfl opd0,
          ok_lenS un9 rfl opd0,
          ok_cmp (op := .lss) (by simp) rfl rfl opd0 opd1, trivial⟩ (by kernel_rfl) ?_
      clear hAt
      intro a w hAt
      replace hAt : At B h0 (mkG [(0, fV Rep.str x0), (3, fV r_i64 s1), (17, fV Rep.bool (cmpI .lss s1 (List.length x0 : Int)))]) (mkO []) F 55 a w := hAt
      refine then_n ?_
      refine wp_if hAt (by rfl) ?_ ?_
      · intro hb4
        have H := iteT hb4 H
        refine wp_skip ?_
        refine then_n ?_
        refine wp_seq ?_
        refine wp_block ?_
        refine wp_seq ?_
        obtain ⟨v2, hv2, H⟩ := bindE H
        refine reg [⟨fV Rep.str x0, [], [(0, none)], []⟩,
            ⟨fV r_i64 s1, [], [(3, none)], []⟩,
            ⟨fV r_u8 ((UInt8.toNat v2 : Nat) : Int), [], [(20, some 0), (21, some 1)], []⟩,
            ⟨fV r_u8 ((UInt8.toNat v2 : Nat) : Int), [], [(22, some 2)], []⟩] [0, 3, 4] [] hAt
            ⟨ok_move rfl opd0,
            ok_move rfl opd0,
            ok_indexS hv2 un9 rfl opd0 opd1,
            ok_assign rfl opd0, trivial⟩ (by kernel_rfl) ?_
        clear hAt
        intro a w hAt
        replace hAt : At B h0 (mkG [(0, fV Rep.str x0), (3, fV r_i64 s1), (4, fV r_u8 ((UInt8.toNat v2 : Nat) : Int))]) (mkO []) F 55 a w := hAt
        refine then_n ?_
        refine wp_seq ?_
        refine reg [⟨fV r_u8 ((UInt8.toNat v2 : Nat) : Int), [], [(4, none)], []⟩,
            ⟨fV Rep.bool (cmpI .geq ((UInt8.toNat v2 : Nat) : Int) 97), [], [(23, some 0)], []⟩,
            ⟨fV Rep.bool (cmpI .geq ((UInt8.toNat v2 : Nat) : Int) 97), [], [(24, some 1)], []⟩,
            ⟨Fact.when ((cmpI .geq ((UInt8.toNat v2 : Nat) : Int) 97) = true) (fV r_u8 ((UInt8.toNat v2 : Nat) : Int)), [], [(25, some 2), (4, none)], []⟩,
            ⟨Fact.when ((cmpI .geq ((UInt8.toNat v2 : Nat) : Int) 97) = true) (fV Rep.bool (cmpI .leq ((UInt8.toNat v2 : Nat) : Int) 122)), [], [(25, some 2), (26, some 3)], []⟩,
            ⟨fV Rep.bool ((cmpI .geq ((UInt8.toNat v2 : Nat) : Int) 97) && (cmpI .leq ((UInt8.toNat v2 : Nat) : Int) 122)), [], [(25, some 2), (27, some 4)], []⟩,
            ⟨fV Rep.bool ((cmpI .geq ((UInt8.toNat v2 : Nat) : Int) 97) && (cmpI .leq ((UInt8.toNat v2 : Nat) : Int) 122)), [], [(28, some 5)], []⟩,
            ⟨Fact.when ((!((cmpI .geq ((UInt8.toNat v2 : Nat) : Int) 97) && (cmpI .leq ((UInt8.toNat v2 : Nat) : Int) 122))) = true) (fV r_u8 ((UInt8.toNat v2 : Nat) : Int)), [], [(29, some 6), (4, none)], []⟩,
            ⟨Fact.when ((!((cmpI .geq ((UInt8.toNat v2 : Nat) : Int) 97) && (cmpI .leq ((UInt8.toNat v2 : Nat) : Int) 122))) = true) (fV Rep.bool (cmpI .geq ((UInt8.toNat v2 : Nat) : Int) 65)), [], [(29, some 6), (30, some 7)], []⟩,
            ⟨Fact.when ((!((cmpI .geq ((UInt8.toNat v2 : Nat) : Int) 97) && (cmpI .leq ((UInt8.toNat v2 : Nat) : Int) 122))) = true) (fV Rep.bool (cmpI .geq ((UInt8.toNat v2 : Nat) : Int) 65)), [], [(29, some 6), (31, some 8)], []⟩,
            ⟨Fact.when (((!((cmpI .geq ((UInt8.toNat v2 : Nat) : Int) 97) && (cmpI .leq ((UInt8.toNat v2 : Nat) : Int) 122))) && (cmpI .geq ((UInt8.toNat v2 : Nat) : Int) 65)) = true) (fV r_u8 ((UInt8.toNat v2 : Nat) : Int)), [], [(32, some 9), (4, none)], []⟩,
            ⟨Fact.when (((!((cmpI .geq ((UInt8.toNat v2 : Nat) : Int) 97) && (cmpI .leq ((UInt8.toNat v2 : Nat) : Int) 122))) && (cmpI .geq ((UInt8.toNat v2 : Nat) : Int) 65)) = true) (fV Rep.bool (cmpI .leq ((UInt8.toNat v2 : Nat) : Int) 90)), [], [(32, some 9), (33, some 10)], []⟩,
            ⟨Fact.when ((!((cmpI .geq ((UInt8.toNat v2 : Nat) : Int) 97) && (cmpI .leq ((UInt8.toNat v2 : Nat) : Int) 122))) = true) (fV Rep.bool ((cmpI .geq ((UInt8.toNat v2 : Nat) : Int) 65) && (cmpI .leq ((UInt8.toNat v2 : Nat) : Int) 90))), [], [(29, some 6), (32, some 9), (34, some 11)], []⟩,
            ⟨fV Rep.bool (((cmpI .geq ((UInt8.toNat v2 : Nat) : Int) 97) && (cmpI .leq ((UInt8.toNat v2 : Nat) : Int) 122)) || ((cmpI .geq ((UInt8.toNat v2 : Nat) : Int) 65) && (cmpI .leq ((UInt8.toNat v2 : Nat) : Int) 90))), [], [(29, some 6), (35, some 12)], []⟩,
            ⟨fV Rep.bool (((cmpI .geq ((UInt8.toNat v2 : Nat) : Int) 97) && (cmpI .leq ((UInt8.toNat v2 : Nat) : Int) 122)) || ((cmpI .geq ((UInt8.toNat v2 : Nat) : Int) 65) && (cmpI .leq ((UInt8.toNat v2 : Nat) : Int) 90))), [], [(36, some 13)], []⟩] [0, 3, 4, 5] [] hAt
            ⟨ok_move rfl opd0,
            ok_cmp (op := .geq) (by simp) rfl rfl opd0 opdI,
            ok_move rfl opd0,
            obl_tt rfl rfl rfl rfl rfl rfl rfl (fun hg => ok_move rfl opd1),
            obl_tt rfl rfl rfl rfl rfl rfl rfl (fun hg => ok_cmp (op := .leq) (by simp) rfl rfl (opd1.on hg) opdI),
            ok_and rfl opd0 (fun e => (opd1.on e)),
            ok_move rfl opd0,
            obl_tf rfl rfl rfl rfl rfl rfl rfl (fun hg => ok_move rfl opd1),
            obl_tf rfl rfl rfl rfl rfl rfl rfl (fun hg => ok_cmp (op := .geq) (by simp) rfl rfl (opd1.on hg) opdI),
            obl_tf rfl rfl rfl rfl rfl rfl rfl (fun hg => ok_move rfl (opd1.on hg)),
            obl_wt rfl rfl rfl rfl rfl rfl rfl (fun hg => ok_move rfl opd1),
            obl_wt rfl rfl rfl rfl rfl rfl rfl (fun hg => ok_cmp (op := .leq) (by simp) rfl rfl (opd1.on hg) opdI),
            obl_tf rfl rfl rfl rfl rfl rfl rfl (fun hg => ok_and rfl (opd1.on hg) (fun e => (opd2.on (andT hg e)))),
            ok_or rfl opd0 (fun e => (opd1.on (notT e))),
            ok_assign rfl opd0, trivial⟩ (by kernel_rfl) ?_
        clear hAt
        intro a w hAt
        replace hAt : At B h0 (mkG [(0, fV Rep.str x0), (3, fV r_i64 s1), (4, fV r_u8 ((UInt8.toNat v2 : Nat) : Int)), (5, fV Rep.bool (((cmpI .geq ((UInt8.toNat v2 : Nat) : Int) 97) && (cmpI .leq ((UInt8.toNat v2 : Nat) : Int) 122)) || ((cmpI .geq ((UInt8.toNat v2 : Nat) : Int) 65) && (cmpI .leq ((UInt8.toNat v2 : Nat) : Int) 90))))]) (mkO []) F 55 a w := hAt
        refine then_n ?_
        refine wp_seq ?_
        refine reg [⟨fV Rep.bool (((cmpI .geq ((UInt8.toNat v2 : Nat) : Int) 97) && (cmpI .leq ((UInt8.toNat v2 : Nat) : Int) 122)) || ((cmpI .geq ((UInt8.toNat v2 : Nat) : Int) 65) && (cmpI .leq ((UInt8.toNat v2 : Nat) : Int) 90))), [], [(5, none)], []⟩,
            ⟨fV Rep.bool (!(((cmpI .geq ((UInt8.toNat v2 : Nat) : Int) 97) && (cmpI .leq ((UInt8.toNat v2 : Nat) : Int) 122)) || ((cmpI .geq ((UInt8.toNat v2 : Nat) : Int) 65) && (cmpI .leq ((UInt8.toNat v2 : Nat) : Int) 90)))), [], [(37, some 0)], []⟩,
            ⟨fV Rep.bool (!(((cmpI .geq ((UInt8.toNat v2 : Nat) : Int) 97) && (cmpI .leq ((UInt8.toNat v2 : Nat) : Int) 122)) || ((cmpI .geq ((UInt8.toNat v2 : Nat) : Int) 65) && (cmpI .leq ((UInt8.toNat v2 : Nat) : Int) 90)))), [], [(38, some 1)], []⟩,
            ⟨Fact.when ((!(((cmpI .geq ((UInt8.toNat v2 : Nat) : Int) 97) && (cmpI .leq ((UInt8.toNat v2 : Nat) : Int) 122)) || ((cmpI .geq ((UInt8.toNat v2 : Nat) : Int) 65) && (cmpI .leq ((UInt8.toNat v2 : Nat) : Int) 90)))) = true) (fV r_i64 s1), [], [(39, some 2), (3, none)], []⟩,
            ⟨Fact.when ((!(((cmpI .geq ((UInt8.toNat v2 : Nat) : Int) 97) && (cmpI .leq ((UInt8.toNat v2 : Nat) : Int) 122)) || ((cmpI .geq ((UInt8.toNat v2 : Nat) : Int) 65) && (cmpI .leq ((UInt8.toNat v2 : Nat) : Int) 90)))) = true) (fV Rep.bool (cmpI .eql s1 0)), [], [(39, some 2), (40, some 3)], []⟩,
            ⟨Fact.when ((!(((cmpI .geq ((UInt8.toNat v2 : Nat) : Int) 97) && (cmpI .leq ((UInt8.toNat v2 : Nat) : Int) 122)) || ((cmpI .geq ((UInt8.toNat v2 : Nat) : Int) 65) && (cmpI .leq ((UInt8.toNat v2 : Nat) : Int) 90)))) = true) (fV Rep.bool (cmpI .eql s1 0)), [], [(39, some 2), (41, some 4)], []⟩,
            ⟨Fact.when (((!(((cmpI .geq ((UInt8.toNat v2 : Nat) : Int) 97) && (cmpI .leq ((UInt8.toNat v2 : Nat) : Int) 122)) || ((cmpI .geq ((UInt8.toNat v2 : Nat) : Int) 65) && (cmpI .leq ((UInt8.toNat v2 : Nat) : Int) 90)))) && (!(cmpI .eql s1 0))) = true) (fV r_u8 ((UInt8.toNat v2 : Nat) : Int)), [], [(42, some 5), (4, none)], []⟩,
            ⟨Fact.when (((!(((cmpI .geq ((UInt8.toNat v2 : Nat) : Int) 97) && (cmpI .leq ((UInt8.toNat v2 : Nat) : Int) 122)) || ((cmpI .geq ((UInt8.toNat v2 : Nat) : Int) 65) && (cmpI .leq ((UInt8.toNat v2 : Nat) : Int) 90)))) && (!(cmpI .eql s1 0))) = true) (fV Rep.bool (cmpI .neq ((UInt8.toNat v2 : Nat) : Int) 45)), [], [(42, some 5), (43, some 6)], []⟩,
            ⟨Fact.when (((!(((cmpI .geq ((UInt8.toNat v2 : Nat) : Int) 97) && (cmpI .leq ((UInt8.toNat v2 : Nat) : Int) 122)) || ((cmpI .geq ((UInt8.toNat v2 : Nat) : Int) 65) && (cmpI .leq ((UInt8.toNat v2 : Nat) : Int) 90)))) && (!(cmpI .eql s1 0))) = true) (fV Rep.bool (cmpI .neq ((UInt8.toNat v2 : Nat) : Int) 45)), [], [(42, some 5), (44, some 7)], []⟩,
            ⟨Fact.when ((((!(((cmpI .geq ((UInt8.toNat v2 : Nat) : Int) 97) && (cmpI .leq ((UInt8.toNat v2 : Nat) : Int) 122)) || ((cmpI .geq ((UInt8.toNat v2 : Nat) : Int) 65) && (cmpI .leq ((UInt8.toNat v2 : Nat) : Int) 90)))) && (!(cmpI .eql s1 0))) && (cmpI .neq ((UInt8.toNat v2 : Nat) : Int) 45)) = true) (fV r_u8 ((UInt8.toNat v2 : Nat) : Int)), [], [(45, some 8), (4, none)], []⟩,
            ⟨Fact.when ((((!(((cmpI .geq ((UInt8.toNat v2 : Nat) : Int) 97) && (cmpI .leq ((UInt8.toNat v2 : Nat) : Int) 122)) || ((cmpI .geq ((UInt8.toNat v2 : Nat) : Int) 65) && (cmpI .leq ((UInt8.toNat v2 : Nat) : Int) 90)))) && (!(cmpI .eql s1 0))) && (cmpI .neq ((UInt8.toNat v2 : Nat) : Int) 45)) = true) (fV Rep.bool (cmpI .lss ((UInt8.toNat v2 : Nat) : Int) 48)), [], [(45, some 8), (46, some 9)], []⟩,
            ⟨Fact.when ((((!(((cmpI .geq ((UInt8.toNat v2 : Nat) : Int) 97) && (cmpI .leq ((UInt8.toNat v2 : Nat) : Int) 122)) || ((cmpI .geq ((UInt8.toNat v2 : Nat) : Int) 65) && (cmpI .leq ((UInt8.toNat v2 : Nat) : Int) 90)))) && (!(cmpI .eql s1 0))) && (cmpI .neq ((UInt8.toNat v2 : Nat) : Int) 45)) = true) (fV Rep.bool (cmpI .lss ((UInt8.toNat v2 : Nat) : Int) 48)), [], [(45, some 8), (47, some 10)], []⟩,
            ⟨Fact.when (((((!(((cmpI .geq ((UInt8.toNat v2 : Nat) : Int) 97) && (cmpI .leq ((UInt8.toNat v2 : Nat) : Int) 122)) || ((cmpI .geq ((UInt8.toNat v2 : Nat) : Int) 65) && (cmpI .leq ((UInt8.toNat v2 : Nat) : Int) 90)))) && (!(cmpI .eql s1 0))) && (cmpI .neq ((UInt8.toNat v2 : Nat) : Int) 45)) && (!(cmpI .lss ((UInt8.toNat v2 : Nat) : Int) 48))) = true) (fV r_u8 ((UInt8.toNat v2 : Nat) : Int)), [], [(48, some 11), (4, none)], []⟩,
            ⟨Fact.when (((((!(((cmpI .geq ((UInt8.toNat v2 : Nat) : Int) 97) && (cmpI .leq ((UInt8.toNat v2 : Nat) : Int) 122)) || ((cmpI .geq ((UInt8.toNat v2 : Nat) : Int) 65) && (cmpI .leq ((UInt8.toNat v2 : Nat) : Int) 90)))) && (!(cmpI .eql s1 0))) && (cmpI .neq ((UInt8.toNat v2 : Nat) : Int) 45)) && (!(cmpI .lss ((UInt8.toNat v2 : Nat) : Int) 48))) = true) (fV Rep.bool (cmpI .gtr ((UInt8.toNat v2 : Nat) : Int) 57)), [], [(48, some 11), (49, some 12)], []⟩,
            ⟨Fact.when ((((!(((cmpI .geq ((UInt8.toNat v2 : Nat) : Int) 97) && (cmpI .leq ((UInt8.toNat v2 : Nat) : Int) 122)) || ((cmpI .geq ((UInt8.toNat v2 : Nat) : Int) 65) && (cmpI .leq ((UInt8.toNat v2 : Nat) : Int) 90)))) && (!(cmpI .eql s1 0))) && (cmpI .neq ((UInt8.toNat v2 : Nat) : Int) 45)) = true) (fV Rep.bool ((cmpI .lss ((UInt8.toNat v2 : Nat) : Int) 48) || (cmpI .gtr ((UInt8.toNat v2 : Nat) : Int) 57))), [], [(45, some 8), (48, some 11), (50, some 13)], []⟩,
            ⟨Fact.when (((!(((cmpI .geq ((UInt8.toNat v2 : Nat) : Int) 97) && (cmpI .leq ((UInt8.toNat v2 : Nat) : Int) 122)) || ((cmpI .geq ((UInt8.toNat v2 : Nat) : Int) 65) && (cmpI .leq ((UInt8.toNat v2 : Nat) : Int) 90)))) && (!(cmpI .eql s1 0))) = true) (fV Rep.bool ((cmpI .neq ((UInt8.toNat v2 : Nat) : Int) 45) && ((cmpI .lss ((UInt8.toNat v2 : Nat) : Int) 48) || (cmpI .gtr ((UInt8.toNat v2 : Nat) : Int) 57)))), [], [(42, some 5), (45, some 8), (51, some 14)], []⟩,
            ⟨Fact.when ((!(((cmpI .geq ((UInt8.toNat v2 : Nat) : Int) 97) && (cmpI .leq ((UInt8.toNat v2 : Nat) : Int) 122)) || ((cmpI .geq ((UInt8.toNat v2 : Nat) : Int) 65) && (cmpI .leq ((UInt8.toNat v2 : Nat) : Int) 90)))) = true) (fV Rep.bool ((cmpI .eql s1 0) || ((cmpI .neq ((UInt8.toNat v2 : Nat) : Int) 45) && ((cmpI .lss ((UInt8.toNat v2 : Nat) : Int) 48) || (cmpI .gtr ((UInt8.toNat v2 : Nat) : Int) 57))))), [], [(39, some 2), (42, some 5), (52, some 15)], []⟩,
            ⟨fV Rep.bool ((!(((cmpI .geq ((UInt8.toNat v2 : Nat) : Int) 97) && (cmpI .leq ((UInt8.toNat v2 : Nat) : Int) 122)) || ((cmpI .geq ((UInt8.toNat v2 : Nat) : Int) 65) && (cmpI .leq ((UInt8.toNat v2 : Nat) : Int) 90)))) && ((cmpI .eql s1 0) || ((cmpI .neq ((UInt8.toNat v2 : Nat) : Int) 45) && ((cmpI .lss ((UInt8.toNat v2 : Nat) : Int) 48) || (cmpI .gtr ((UInt8.toNat v2 : Nat) : Int) 57))))), [], [(39, some 2), (53, some 16)], []⟩] [0, 3, 54] [] hAt
            ⟨ok_move rfl opd0,
            ok_not rfl opd0,
            ok_move rfl opd0,
            obl_tt rfl rfl rfl rfl rfl rfl rfl (fun hg => ok_move rfl opd1),
            obl_tt rfl rfl rfl rfl rfl rfl rfl (fun hg => ok_cmp (op := .eql) (by simp) rfl rfl (opd1.on hg) opdI),
            obl_tt rfl rfl rfl rfl rfl rfl rfl (fun hg => ok_move rfl (opd1.on hg)),
            obl_wf rfl rfl rfl rfl rfl rfl rfl (fun hg => ok_move rfl opd1),
            obl_wf rfl rfl rfl rfl rfl rfl rfl (fun hg => ok_cmp (op := .neq) (by simp) rfl rfl (opd1.on hg) opdI),
            obl_wf rfl rfl rfl rfl rfl rfl rfl (fun hg => ok_move rfl (opd1.on hg)),
            obl_wt rfl rfl rfl rfl rfl rfl rfl (fun hg => ok_move rfl opd1),
            obl_wt rfl rfl rfl rfl rfl rfl rfl (fun hg => ok_cmp (op := .lss) (by simp) rfl rfl (opd1.on hg) opdI),
            obl_wt rfl rfl rfl rfl rfl rfl rfl (fun hg => ok_move rfl (opd1.on hg)),
            obl_wf rfl rfl rfl rfl rfl rfl rfl (fun hg => ok_move rfl opd1),
            obl_wf rfl rfl rfl rfl rfl rfl rfl (fun hg => ok_cmp (op := .gtr) (by simp) rfl rfl (opd1.on hg) opdI),
            obl_wt rfl rfl rfl rfl rfl rfl rfl (fun hg => ok_or rfl (opd1.on hg) (fun e => (opd2.on (andT hg (notT e))))),
            obl_wf rfl rfl rfl rfl rfl rfl rfl (fun hg => ok_and rfl (opd1.on hg) (fun e => (opd2.on (andT hg e)))),
            obl_tt rfl rfl rfl rfl rfl rfl rfl (fun hg => ok_or rfl (opd1.on hg) (fun e => (opd2.on (andT hg (notT e))))),
            ok_and rfl opd0 (fun e => (opd1.on e)), trivial⟩ (by kernel_rfl) ?_
        clear hAt
        intro a w hAt
        replace hAt : At B h0 (mkG [(0, fV Rep.str x0), (3, fV r_i64 s1), (54, fV Rep.bool ((!(((cmpI .geq ((UInt8.toNat v2 : Nat) : Int) 97) && (cmpI .leq ((UInt8.toNat v2 : Nat) : Int) 122)) || ((cmpI .geq ((UInt8.toNat v2 : Nat) : Int) 65) && (cmpI .leq ((UInt8.toNat v2 : Nat) : Int) 90)))) && ((cmpI .eql s1 0) || ((cmpI .neq ((UInt8.toNat v2 : Nat) : Int) 45) && ((cmpI .lss ((UInt8.toNat v2 : Nat) : Int) 48) || (cmpI .gtr ((UInt8.toNat v2 : Nat) : Int) 57))))))]) (mkO []) F 55 a w := hAt
        refine then_n ?_
        refine wp_if hAt (by rfl) ?_ ?_
        · intro hb3
          have H := iteT hb3 H
          refine wp_seq ?_
          refine reg [⟨fV Rep.bool false, [], [], []⟩] [2] [] hAt
              ⟨ok_assign rfl opdB, trivial⟩ (by kernel_rfl) ?_
          clear hAt
          intro a w hAt
          replace hAt : At B h0 (mkG [(2, fV Rep.bool false)]) (mkO []) F 55 a w := hAt
          refine then_n ?_
          refine wp_ret ?_
          refine blk_r ?_
          refine then_r ?_
          cases H
          exact ⟨ret_ne, rfl, hAt.pick [2] []⟩
        · intro hb3
          have H := iteF hb3 H
          refine wp_skip ?_
          refine blk_n ?_
          refine then_n ?_
          refine reg [⟨fV r_i64 s1, [], [(3, none)], []⟩,
              ⟨fV r_i64 (IntKind.i64.wrap (s1 + 1)), [], [(18, some 0)], []⟩,
              ⟨fV r_i64 (IntKind.i64.wrap (s1 + 1)), [], [(19, some 1)], []⟩] [0, 3] [] hAt
              ⟨ok_move rfl opd0,
              ok_add rfl opd0 opdI,
              ok_assign rfl opd0, trivial⟩ (by kernel_rfl) ?_
          clear hAt
          intro a w hAt
          replace hAt : At B h0 (mkG [(0, fV Rep.str x0), (3, fV r_i64 (IntKind.i64.wrap (s1 + 1)))]) (mkO []) F 55 a w := hAt
          cases H
          exact ⟨rfl, hAt.pick [0, 3] []⟩
      · intro hb4
        have H := iteF hb4 H
        refine wp_exit ?_
        refine then_x ?_
        cases H
        exact ⟨ex_ne, rfl, hAt.pick [] []⟩
    · exact hAt.pick [0, 3] []
    · clear hAt
      intro e a w hp
      cases o5 with
      | inl l7 =>
        rw [Sum.elim_inl] at H
        obtain ⟨rfl, hAt⟩ := hp
        refine blk_eq ?_
        refine then_n ?_
        refine wp_seq ?_
        refine reg [⟨fV Rep.bool true, [], [], []⟩] [2] [] hAt
            ⟨ok_assign rfl opdB, trivial⟩ (by kernel_rfl) ?_
        clear hAt
        intro a w hAt
        replace hAt : At B h0 (mkG [(2, fV Rep.bool true)]) (mkO []) F 55 a w := hAt
        refine then_n ?_
        refine wp_ret ?_
        cases H
        exact ret1 rfl (rv_tmp rfl rfl) hAt
      | inr r8 =>
        rw [Sum.elim_inr] at H
        replace hp := hp
        obtain ⟨rfl, hAt⟩ := hp
        refine blk_r ?_
        refine then_r ?_
        cases H
        exact ret1 rfl (rv_tmp rfl rfl) hAt
theorem ok_f_ref09_coatRange (N : Nat) (x0 : GCoat) (r : Int) (H : f_ref09_coatRange N x0 = some r) : FnOk Try.prog 93 [fV GCoat.rep x0] (fV r_i64 r) := by
  unfold f_ref09_coatRange at H
  refine fn_enter Try.func93 rfl rfl (by kernel_rfl) ?_
  intro κ B h0 F a w hAt
  refine wp_seq ?_
  refine reg [⟨fRef GCoat.rep x0, [], [(0, none)], []⟩,
      ⟨fV r_i64 0, [], [], []⟩] [1] [] hAt
      ⟨ok_box rfl opd0,
      ok_assign rfl opdI, trivial⟩ (by kernel_rfl) ?_
  clear hAt
  intro a w hAt
  replace hAt : At B h0 (mkG [(1, fRef GCoat.rep x0)]) (mkO []) F 35 a w := hAt
  refine then_n ?_
  refine wp_seq ?_
  refine wp_seq ?_
  refine reg (⟨fRef r_i64 x0.Nominal, [], [(1, none)], []⟩ ::
      ⟨fV r_i64 x0.Nominal, [], [(3, some 0)], []⟩ ::
      ⟨fV Rep.bool (cmpI .lss x0.Nominal 1), [], [(4, some 1)], []⟩ ::
      ⟨fV Rep.bool (cmpI .lss x0.Nominal 1), [], [(5, some 2)], []⟩ ::
      ⟨Fact.when ((!(cmpI .lss x0.Nominal 1)) = true) (fRef r_i64 x0.Nominal), [], [(6, some 3), (1, none)], []⟩ ::
      ⟨Fact.when ((!(cmpI .lss x0.Nominal 1)) = true) (fV r_i64 x0.Nominal), [], [(6, some 3), (7, some 4)], []⟩ ::
      ⟨Fact.when ((!(cmpI .lss x0.Nominal 1)) = true) (fRef r_i64 x0.Most), [], [(6, some 3), (1, none)], []⟩ ::
      ⟨Fact.when ((!(cmpI .lss x0.Nominal 1)) = true) (fV r_i64 x0.Most), [], [(6, some 3), (9, some 6)], []⟩ ::
      ⟨Fact.when ((!(cmpI .lss x0.Nominal 1)) = true) (fV Rep.bool (cmpI .gtr x0.Nominal x0.Most)), [], [(6, some 3), (8, some 5), (10, some 7)], []⟩ ::
      ⟨fV Rep.bool ((cmpI .lss x0.Nominal 1) || (cmpI .gtr x0.Nominal x0.Most)), [], [(6, some 3), (11, some 8)], []⟩ ::
      ⟨fV Rep.bool ((cmpI .lss x0.Nominal 1) || (cmpI .gtr x0.Nominal x0.Most)), [], [(12, some 9)], []⟩ ::
      ⟨Fact.when ((!((cmpI .lss x0.Nominal 1) || (cmpI .gtr x0.Nominal x0.Most))) = true) (fRef r_i64 x0.Most), [], [(13, some 10), (1, none)], []⟩ ::
      ⟨Fact.when ((!((cmpI .lss x0.Nominal 1) || (cmpI .gtr x0.Nominal x0.Most))) = true) (fV r_i64 x0.Most), [], [(13, some 10), (14, some 11)], []⟩ ::
      ⟨Fact.when ((!((cmpI .lss x0.Nominal 1) || (cmpI .gtr x0.Nominal x0.Most))) = true) (fV Rep.bool (cmpI .gtr x0.Most 10000)), [], [(13, some 10), (15, some 12)], []⟩ ::
      ⟨fV Rep.bool (((cmpI .lss x0.Nominal 1) || (cmpI .gtr x0.Nominal x0.Most)) || (cmpI .gtr x0.Most 10000)), [], [(13, some 10), (16, some 13)], []⟩ ::
      ⟨fV Rep.bool (((cmpI .lss x0.Nominal 1) || (cmpI .gtr x0.Nominal x0.Most)) || (cmpI .gtr x0.Most 10000)), [], [(17, some 14)], []⟩ ::
      ⟨Fact.when ((!(((cmpI .lss x0.Nominal 1) || (cmpI .gtr x0.Nominal x0.Most)) || (cmpI .gtr x0.Most 10000))) = true) (fRef r_i64 x0.Soonest), [], [(18, some 15), (1, none)], []⟩ ::
      ⟨Fact.when ((!(((cmpI .lss x0.Nominal 1) || (cmpI .gtr x0.Nominal x0.Most)) || (cmpI .gtr x0.Most 10000))) = true) (fV r_i64 x0.Soonest), [], [(18, some 15), (19, some 16)], []⟩ ::
      ⟨Fact.when ((!(((cmpI .lss x0.Nominal 1) || (cmpI .gtr x0.Nominal x0.Most)) || (cmpI .gtr x0.Most 10000))) = true) (fV Rep.bool (cmpI .lss x0.Soonest 0)), [], [(18, some 15), (20, some 17)], []⟩ ::
      ⟨fV Rep.bool ((((cmpI .lss x0.Nominal 1) || (cmpI .gtr x0.Nominal x0.Most)) || (cmpI .gtr x0.Most 10000)) || (cmpI .lss x0.Soonest 0)), [], [(18, some 15), (21, some 18)], []⟩ ::
      ⟨fV Rep.bool ((((cmpI .lss x0.Nominal 1) || (cmpI .gtr x0.Nominal x0.Most)) || (cmpI .gtr x0.Most 10000)) || (cmpI .lss x0.Soonest 0)), [], [(22, some 19)], []⟩ ::
      ⟨Fact.when ((!((((cmpI .lss x0.Nominal 1) || (cmpI .gtr x0.Nominal x0.Most)) || (cmpI .gtr x0.Most 10000)) || (cmpI .lss x0.Soonest 0))) = true) (fRef r_i64 x0.Soonest), [], [(23, some 20), (1, none)], []⟩ ::
      ⟨Fact.when ((!((((cmpI .lss x0.Nominal 1) || (cmpI .gtr x0.Nominal x0.Most)) || (cmpI .gtr x0.Most 10000)) || (cmpI .lss x0.Soonest 0))) = true) (fV r_i64 x0.Soonest), [], [(23, some 20), (24, some 21)], []⟩ ::
      ⟨Fact.when ((!((((cmpI .lss x0.Nominal 1) || (cmpI .gtr x0.Nominal x0.Most)) || (cmpI .gtr x0.Most 10000)) || (cmpI .lss x0.Soonest 0))) = true) (fRef r_i64 x0.Latest), [], [(23, some 20), (1, none)], []⟩ ::
      ⟨Fact.when ((!((((cmpI .lss x0.Nominal 1) || (cmpI .gtr x0.Nominal x0.Most)) || (cmpI .gtr x0.Most 10000)) || (cmpI .lss x0.Soonest 0))) = true) (fV r_i64 x0.Latest), [], [(23, some 20), (26, some 23)], []⟩ ::
      ⟨Fact.when ((!((((cmpI .lss x0.Nominal 1) || (cmpI .gtr x0.Nominal x0.Most)) || (cmpI .gtr x0.Most 10000)) || (cmpI .lss x0.Soonest 0))) = true) (fV Rep.bool (cmpI .gtr x0.Soonest x0.Latest)), [], [(23, some 20), (25, some 22), (27, some 24)], []⟩ ::
      ⟨fV Rep.bool (((((cmpI .lss x0.Nominal 1) || (cmpI .gtr x0.Nominal x0.Most)) || (cmpI .gtr x0.Most 10000)) || (cmpI .lss x0.Soonest 0)) || (cmpI .gtr x0.Soonest x0.Latest)), [], [(23, some 20), (28, some 25)], []⟩ ::
      ⟨fV Rep.bool (((((cmpI .lss x0.Nominal 1) || (cmpI .gtr x0.Nominal x0.Most)) || (cmpI .gtr x0.Most 10000)) || (cmpI .lss x0.Soonest 0)) || (cmpI .gtr x0.Soonest x0.Latest)), [], [(29, some 26)], []⟩ ::
      ⟨Fact.when ((!(((((cmpI .lss x0.Nominal 1) || (cmpI .gtr x0.Nominal x0.Most)) || (cmpI .gtr x0.Most 10000)) || (cmpI .lss x0.Soonest 0)) || (cmpI .gtr x0.Soonest x0.Latest))) = true) (fRef r_i64 x0.Latest), [], [(30, some 27), (1, none)], []⟩ ::
      ⟨Fact.when ((!(((((cmpI .lss x0.Nominal 1) || (cmpI .gtr x0.Nominal x0.Most)) || (cmpI .gtr x0.Most 10000)) || (cmpI .lss x0.Soonest 0)) || (cmpI .gtr x0.Soonest x0.Latest))) = true) (fV r_i64 x0.Latest), [], [(30, some 27), (31, some 28)], []⟩ ::
      ⟨Fact.when ((!(((((cmpI .lss x0.Nominal 1) || (cmpI .gtr x0.Nominal x0.Most)) || (cmpI .gtr x0.Most 10000)) || (cmpI .lss x0.Soonest 0)) || (cmpI .gtr x0.Soonest x0.Latest))) = true) (fV Rep.bool (cmpI .gtr x0.Latest 1000000)), [], [(30, some 27), (32, some 29)], []⟩ ::
      ⟨fV Rep.bool ((((((cmpI .lss x0.Nominal 1) || (cmpI .gtr x0.Nominal x0.Most)) || (cmpI .gtr x0.Most 10000)) || (cmpI .lss x0.Soonest 0)) || (cmpI .gtr x0.Soonest x0.Latest)) || (cmpI .gtr x0.Latest 1000000)), [], [(30, some 27), (33, some 30)], []⟩ :: []) [34] [] hAt
      ⟨ok_field GCoat.l1 fo95_1 rfl opd0,
      ok_load ty3 rfl opd0,
      ok_cmp (op := .lss) (by simp) rfl rfl opd0 opdI,
      ok_move rfl opd0,
      obl_tf rfl rfl rfl rfl rfl rfl rfl (fun hg => ok_field GCoat.l1 fo95_1 rfl opd1),
      obl_tf rfl rfl rfl rfl rfl rfl rfl (fun hg => ok_load ty3 rfl (opd1.on hg)),
      obl_tf rfl rfl rfl rfl rfl rfl rfl (fun hg => ok_field GCoat.l2 fo95_2 rfl opd1),
      obl_tf rfl rfl rfl rfl rfl rfl rfl (fun hg => ok_load ty3 rfl (opd1.on hg)),
      obl_tf rfl rfl rfl rfl rfl rfl rfl (fun hg => ok_cmp (op := .gtr) (by simp) rfl rfl (opd1.on hg) (opd2.on hg)),
      ok_or rfl opd0 (fun e => (opd1.on (notT e))),
      ok_move rfl opd0,
      obl_tf rfl rfl rfl rfl rfl rfl rfl (fun hg => ok_field GCoat.l2 fo95_2 rfl opd1),
      obl_tf rfl rfl rfl rfl rfl rfl rfl (fun hg => ok_load ty3 rfl (opd1.on hg)),
      obl_tf rfl rfl rfl rfl rfl rfl rfl (fun hg => ok_cmp (op := .gtr) (by simp) rfl rfl (opd1.on hg) opdI),
      ok_or rfl opd0 (fun e => (opd1.on (notT e))),
      ok_move rfl opd0,
      obl_tf rfl rfl rfl rfl rfl rfl rfl (fun hg => ok_field GCoat.l3 fo95_3 rfl opd1),
      obl_tf rfl rfl rfl rfl rfl rfl rfl (fun hg => ok_load ty3 rfl (opd1.on hg)),
      obl_tf rfl rfl rfl rfl rfl rfl rfl (fun hg => ok_cmp (op := .lss) (by simp) rfl rfl (opd1.on hg) opdI),
      ok_or rfl opd0 (fun e => (opd1.on (notT e))),
      ok_move rfl opd0,
      obl_tf rfl rfl rfl rfl rfl rfl rfl (fun hg => ok_field GCoat.l3 fo95_3 rfl opd1),
      obl_tf rfl rfl rfl rfl rfl rfl rfl (fun hg => ok_load ty3 rfl (opd1.on hg)),
      obl_tf rfl rfl rfl rfl rfl rfl rfl (fun hg => ok_field GCoat.l4 fo95_4 rfl opd1),
      obl_tf rfl rfl rfl rfl rfl rfl rfl (fun hg => ok_load ty3 rfl (opd1.on hg)),
      obl_tf rfl rfl rfl rfl rfl rfl rfl (fun hg => ok_cmp (op := .gtr) (by simp) rfl rfl (opd1.on hg) (opd2.on hg)),
      ok_or rfl opd0 (fun e => (opd1.on (notT e))),
      ok_move rfl opd0,
      obl_tf rfl rfl rfl rfl rfl rfl rfl (fun hg => ok_field GCoat.l4 fo95_4 rfl opd1),
      obl_tf rfl rfl rfl rfl rfl rfl rfl (fun hg => ok_load ty3 rfl (opd1.on hg)),
      obl_tf rfl rfl rfl rfl rfl rfl rfl (fun hg => ok_cmp (op := .gtr) (by simp) rfl rfl (opd1.on hg) opdI),
      ok_or rfl opd0 (fun e => (opd1.on (notT e))), trivial⟩ (by kernel_rfl) ?_
  clear hAt
  intro a w hAt
  replace hAt : At B h0 (mkG [(34, fV Rep.bool ((((((cmpI .lss x0.Nominal 1) || (cmpI .gtr x0.Nominal x0.Most)) || (cmpI .gtr x0.Most 10000)) || (cmpI .lss x0.Soonest 0)) || (cmpI .gtr x0.Soonest x0.Latest)) || (cmpI .gtr x0.Latest 1000000)))]) (mkO []) F 35 a w := hAt
  refine then_n ?_
  refine wp_if hAt (by rfl) ?_ ?_
  · intro hb1
    have H := iteT hb1 H
    refine wp_seq ?_
    refine reg [⟨fV r_i64 2, [], [], []⟩] [2] [] hAt
        ⟨ok_assign rfl opdI, trivial⟩ (by kernel_rfl) ?_
    clear hAt
    intro a w hAt
    replace hAt : At B h0 (mkG [(2, fV r_i64 2)]) (mkO []) F 35 a w := hAt
    refine then_n ?_
    refine wp_ret ?_
    refine then_r ?_
    cases H
    exact ret1 rfl (rv_tmp rfl rfl) hAt
  · intro hb1
    have H := iteF hb1 H
    refine wp_skip ?_
    refine then_n ?_
    refine wp_seq ?_
    refine reg [⟨fV r_i64 0, [], [], []⟩] [2] [] hAt
        ⟨ok_assign rfl opdI, trivial⟩ (by kernel_rfl) ?_
    clear hAt
    intro a w hAt
    replace hAt : At B h0 (mkG [(2, fV r_i64 0)]) (mkO []) F 35 a w := hAt
    refine then_n ?_
    refine wp_ret ?_
    cases H
    exact ret1 rfl (rv_tmp rfl rfl) hAt
theorem ok_f_ref09_CheckCoat (N : Nat) (x0 : GCoat) (r : Int) (H : f_ref09_CheckCoat N x0 = some r) : FnOk Try.prog 92 [fV GCoat.rep x0] (fV r_i64 r) := by
  unfold f_ref09_CheckCoat at H
  refine fn_enter Try.func92 rfl rfl (by kernel_rfl) ?_
  intro κ B h0 F a w hAt
  refine wp_seq ?_
  refine reg [⟨fRef GCoat.rep x0, [], [(0, none)], []⟩,
      ⟨fV r_i64 0, [], [], []⟩] [1] [] hAt
      ⟨ok_box rfl opd0,
      ok_assign rfl opdI, trivial⟩ (by kernel_rfl) ?_
  clear hAt
  intro a w hAt
  replace hAt : At B h0 (mkG [(1, fRef GCoat.rep x0)]) (mkO []) F 9 a w := hAt
  refine then_n ?_
  refine wp_seq ?_
  refine wp_seq ?_
  obtain ⟨v1, hv1, H⟩ := bindE H
  refine reg [⟨fRef Rep.str x0.Name, [], [(1, none)], []⟩,
      ⟨fV Rep.str x0.Name, [], [(3, some 0)], []⟩,
      ⟨fV Rep.bool v1, [], [(4, some 1)], []⟩,
      ⟨fV Rep.bool (!v1), [], [(5, some 2)], []⟩] [1, 6] [] hAt
      ⟨ok_field GCoat.l0 fo95_0 rfl opd0,
      ok_load ty9 rfl opd0,
      ok_call (ok_f_base_IsName N x0.Name _ hv1) Try.func68 (by kernel_rfl) (by kernel_rfl) rfl ⟨opd0, trivial⟩,
      ok_not rfl opd0, trivial⟩ (by kernel_rfl) ?_
  clear hAt
  intro a w hAt
  replace hAt : At B h0 (mkG [(1, fRef GCoat.rep x0), (6, fV Rep.bool (!v1))]) (mkO []) F 9 a w := hAt
  refine then_n ?_
  refine wp_if hAt (by rfl) ?_ ?_
  · intro hb3
    have H := iteT hb3 H
    refine wp_seq ?_
    refine reg [⟨fV r_i64 4, [], [], []⟩] [2] [] hAt
        ⟨ok_assign rfl opdI, trivial⟩ (by kernel_rfl) ?_
    clear hAt
    intro a w hAt
    replace hAt : At B h0 (mkG [(2, fV r_i64 4)]) (mkO []) F 9 a w := hAt
    refine then_n ?_
    refine wp_ret ?_
    refine then_r ?_
    cases H
    exact ret1 rfl (rv_tmp rfl rfl) hAt
  · intro hb3
    have H := iteF hb3 H
    refine wp_skip ?_
    refine then_n ?_
    refine wp_seq ?_
    obtain ⟨v2, hv2, H⟩ := bindE H
    refine reg [⟨fV GCoat.rep x0, [], [(1, none)], []⟩,
        ⟨fV r_i64 v2, [], [(7, some 0)], []⟩,
        ⟨fV r_i64 v2, [], [(8, some 1)], []⟩] [2] [] hAt
        ⟨ok_load ty95 rfl opd0,
        ok_call (ok_f_ref09_coatRange N x0 _ hv2) Try.func93 (by kernel_rfl) (by kernel_rfl) rfl ⟨opd0, trivial⟩,
        ok_assign rfl opd0, trivial⟩ (by kernel_rfl) ?_
    clear hAt
    intro a w hAt
    replace hAt : At B h0 (mkG [(2, fV r_i64 v2)]) (mkO []) F 9 a w := hAt
    refine then_n ?_
    refine wp_ret ?_
    cases H
    exact ret1 rfl (rv_tmp rfl rfl) hAt
theorem ok_f_ref09_within (N : Nat) (x0 : Int) (x1 : Int) (x2 : Int) (r : Bool) (H : f_ref09_within N x0 x1 x2 = some r) : FnOk Try.prog 69 [fV r_i64 x0, fV r_i64 x1, fV r_i64 x2] (fV Rep.bool r) := by
  unfold f_ref09_within at H
  refine fn_enter Try.func69 rfl rfl (by kernel_rfl) ?_
  intro κ B h0 F a w hAt
  refine wp_seq ?_
  refine reg [⟨fV Rep.bool false, [], [], []⟩] [0, 1, 2] [] hAt
      ⟨ok_assign rfl opdB, trivial⟩ (by kernel_rfl) ?_
  clear hAt
  intro a w hAt
  replace hAt : At B h0 (mkG [(0, fV r_i64 x0), (1, fV r_i64 x1), (2, fV r_i64 x2)]) (mkO []) F 15 a w := hAt
  refine then_n ?_
  refine wp_seq ?_
  refine reg [⟨fV r_i64 x0, [], [(0, none)], []⟩,
      ⟨fV r_i64 x1, [], [(1, none)], []⟩,
      ⟨fV Rep.bool (cmpI .geq x0 x1), [], [(7, some 0), (8, some 1)], []⟩,
      ⟨fV Rep.bool (cmpI .geq x0 x1), [], [(9, some 2)], []⟩,
      ⟨Fact.when ((cmpI .geq x0 x1) = true) (fV r_i64 x0), [], [(10, some 3), (0, none)], []⟩,
      ⟨Fact.when ((cmpI .geq x0 x1) = true) (fV r_i64 x2), [], [(10, some 3), (2, none)], []⟩,
      ⟨Fact.when ((cmpI .geq x0 x1) = true) (fV Rep.bool (cmpI .leq x0 x2)), [], [(10, some 3), (11, some 4), (12, some 5)], []⟩,
      ⟨fV Rep.bool ((cmpI .geq x0 x1) && (cmpI .leq x0 x2)), [], [(10, some 3), (13, some 6)], []⟩,
      ⟨fV Rep.bool ((cmpI .geq x0 x1) && (cmpI .leq x0 x2)), [], [(14, some 7)], []⟩] [6] [] hAt
      ⟨ok_move rfl opd0,
      ok_move rfl opd0,
      ok_cmp (op := .geq) (by simp) rfl rfl opd0 opd1,
      ok_move rfl opd0,
      obl_tt rfl rfl rfl rfl rfl rfl rfl (fun hg => ok_move rfl opd1),
      obl_tt rfl rfl rfl rfl rfl rfl rfl (fun hg => ok_move rfl opd1),
      obl_tt rfl rfl rfl rfl rfl rfl rfl (fun hg => ok_cmp (op := .leq) (by simp) rfl rfl (opd1.on hg) (opd2.on hg)),
      ok_and rfl opd0 (fun e => (opd1.on e)),
      ok_assign rfl opd0, trivial⟩ (by kernel_rfl) ?_
  clear hAt
  intro a w hAt
  replace hAt : At B h0 (mkG [(6, fV Rep.bool ((cmpI .geq x0 x1) && (cmpI .leq x0 x2)))]) (mkO []) F 15 a w := hAt
  refine then_n ?_
  refine wp_ret ?_
  cases H
  exact ret1 rfl (rv_tmp rfl rfl) hAt
end Go.KB
