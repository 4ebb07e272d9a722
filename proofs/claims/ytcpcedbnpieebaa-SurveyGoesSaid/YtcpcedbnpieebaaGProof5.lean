/- The Go functions compute what the plain functions compute. Printed by a program. No condition. -/
import Derived.Test.YtcpcedbnpieebaaGProof4
namespace Go.KB
open Go.Proofs
set_option maxRecDepth 100000
set_option linter.unusedVariables false
theorem ok_f_law09_brief (N : Nat) (x0 : (List GCoat)) (x1 : (List GPainting)) (r : Bool) (H : f_law09_brief N x0 x1 = some r) : FnOk Try.prog 49 [fV (Rep.slice GCoat.rep) x0, fV (Rep.slice GPainting.rep) x1] (fV Rep.bool r) := by
  unfold f_law09_brief at H
  refine fn_enter Try.func49 rfl rfl (by kernel_rfl) ?_
  intro κ B h0 F a w hAt
  refine wp_seq ?_
  refine reg [⟨fV Rep.bool false, [], [], []⟩] [0, 1] [] hAt
      ⟨ok_assign rfl opdB, trivial⟩ (by kernel_rfl) ?_
  clear hAt
  intro a w hAt
  replace hAt : At B h0 (mkG [(0, fV (Rep.slice GCoat.rep) x0), (1, fV (Rep.slice GPainting.rep) x1)]) (mkO []) F 50 a w := hAt
  refine then_n ?_
  refine wp_seq ?_
  refine wp_seq ?_
  refine reg [⟨fV (Rep.slice GCoat.rep) x0, [], [(0, none)], []⟩,
      ⟨fV r_i64 (List.length x0 : Int), [], [(7, some 0)], []⟩,
      ⟨fV Rep.bool (cmpI .gtr (List.length x0 : Int) 12), [], [(8, some 1)], []⟩,
      ⟨fV Rep.bool (cmpI .gtr (List.length x0 : Int) 12), [], [(9, some 2)], []⟩,
      ⟨Fact.when ((!(cmpI .gtr (List.length x0 : Int) 12)) = true) (fV (Rep.slice GPainting.rep) x1), [], [(10, some 3), (1, none)], []⟩,
      ⟨Fact.when ((!(cmpI .gtr (List.length x0 : Int) 12)) = true) (fV r_i64 (List.length x1 : Int)), [], [(10, some 3), (11, some 4)], []⟩,
      ⟨Fact.when ((!(cmpI .gtr (List.length x0 : Int) 12)) = true) (fV Rep.bool (cmpI .gtr (List.length x1 : Int) 12)), [], [(10, some 3), (12, some 5)], []⟩,
      ⟨fV Rep.bool ((cmpI .gtr (List.length x0 : Int) 12) || (cmpI .gtr (List.length x1 : Int) 12)), [], [(10, some 3), (13, some 6)], []⟩] [0, 1, 14] [] hAt
      ⟨ok_move rfl opd0,
      ok_len un93 rfl opd0,
      ok_cmp (op := .gtr) (by simp) rfl rfl opd0 opdI,
      ok_move rfl opd0,
      obl_tf rfl rfl rfl rfl rfl rfl rfl (fun hg => ok_move rfl opd1),
      obl_tf rfl rfl rfl rfl rfl rfl rfl (fun hg => ok_len un102 rfl (opd1.on hg)),
      obl_tf rfl rfl rfl rfl rfl rfl rfl (fun hg => ok_cmp (op := .gtr) (by simp) rfl rfl (opd1.on hg) opdI),
      ok_or rfl opd0 (fun e => (opd1.on (notT e))), trivial⟩ (by kernel_rfl) ?_
  clear hAt
  intro a w hAt
  replace hAt : At B h0 (mkG [(0, fV (Rep.slice GCoat.rep) x0), (1, fV (Rep.slice GPainting.rep) x1), (14, fV Rep.bool ((cmpI .gtr (List.length x0 : Int) 12) || (cmpI .gtr (List.length x1 : Int) 12)))]) (mkO []) F 50 a w := hAt
  refine then_n ?_
  refine wp_if hAt (by rfl) ?_ ?_
  · intro hb20
    have H := iteT hb20 H
    refine wp_seq ?_
    refine reg [⟨fV Rep.bool false, [], [], []⟩] [4] [] hAt
        ⟨ok_assign rfl opdB, trivial⟩ (by kernel_rfl) ?_
    clear hAt
    intro a w hAt
    replace hAt : At B h0 (mkG [(4, fV Rep.bool false)]) (mkO []) F 50 a w := hAt
    refine then_n ?_
    refine wp_ret ?_
    refine then_r ?_
    cases H
    exact ret1 rfl (rv_tmp rfl rfl) hAt
  · intro hb20
    have H := iteF hb20 H
    refine wp_skip ?_
    refine then_n ?_
    refine wp_seq ?_
    refine wp_seq ?_
    refine reg [⟨fV r_i64 0, [], [], []⟩] [0, 1, 5] [] hAt
        ⟨ok_assign rfl opdI, trivial⟩ (by kernel_rfl) ?_
    clear hAt
    intro a w hAt
    replace hAt : At B h0 (mkG [(0, fV (Rep.slice GCoat.rep) x0), (1, fV (Rep.slice GPainting.rep) x1), (5, fV r_i64 0)]) (mkO []) F 50 a w := hAt
    refine then_n ?_
    refine wp_block ?_
    obtain ⟨o5, hl6, H⟩ := bindE H
    refine wp_mono (wp_loopN (f := f_law09_brief_L2 N x0) (fun (s1 : Int) a w => At B h0 (mkG [(0, fV (Rep.slice GCoat.rep) x0), (1, fV (Rep.slice GPainting.rep) x1), (5, fV r_i64 s1)]) (mkO []) F 50 a w) (fun o e a w => (Sum.elim (fun v => e = .exit 0 ∧ At B h0 (mkG [(1, fV (Rep.slice GPainting.rep) x1)]) (mkO []) F 50 a w) (fun v => e = .ret ∧ At B h0 (mkG [(4, fV Rep.bool v)]) (mkO []) F 50 a w)) o) ?_ N 0 o5 _ _ hl6 ?_) ?_
    · clear H hAt hl6
      intro s1 r19 a w H hAt
      unfold f_law09_brief_L2 at H
      refine wp_seq ?_
      refine wp_seq ?_
      refine reg [⟨fV r_i64 s1, [], [(5, none)], []⟩,
          ⟨fV (Rep.slice GCoat.rep) x0, [], [(0, none)], []⟩,
          ⟨fV r_i64 (List.length x0 : Int), [], [(16, some 1)], []⟩,
          ⟨fV Rep.bool (cmpI .lss s1 (List.length x0 : Int)), [], [(15, some 0), (17, some 2)], []⟩] [0, 1, 5, 18] [] hAt
          ⟨ok_move rfl opd0,
          ok_move rfl opd0,
          ok_len un93 rfl opd0,
          ok_cmp (op := .lss) (by simp) rfl rfl opd0 opd1, trivial⟩ (by kernel_rfl) ?_
      clear hAt
      intro a w hAt
      replace hAt : At B h0 (mkG [(0, fV (Rep.slice GCoat.rep) x0), (1, fV (Rep.slice GPainting.rep) x1), (5, fV r_i64 s1), (18, fV Rep.bool (cmpI .lss s1 (List.length x0 : Int)))]) (mkO []) F 50 a w := hAt
      refine then_n ?_
      refine wp_if hAt (by rfl) ?_ ?_
      · intro hb4
        have H := iteT hb4 H
        refine wp_skip ?_
        refine then_n ?_
        refine wp_seq ?_
        refine wp_block ?_
        refine wp_seq ?_
        obtain ⟨v2, hv2, H⟩ := bindE H
        refine reg [⟨fV (Rep.slice GCoat.rep) x0, [], [(0, none)], []⟩,
            ⟨fV r_i64 s1, [], [(5, none)], []⟩,
            ⟨fRef GCoat.rep v2, [], [(21, some 0), (22, some 1)], []⟩,
            ⟨fRef Rep.str v2.Name, [], [(23, some 2)], []⟩,
            ⟨fV Rep.str v2.Name, [], [(24, some 3)], []⟩,
            ⟨fV r_i64 (List.length v2.Name : Int), [], [(25, some 4)], []⟩,
            ⟨fV Rep.bool (cmpI .gtr (List.length v2.Name : Int) 50), [], [(26, some 5)], []⟩] [0, 1, 5, 27] [] hAt
            ⟨ok_move rfl opd0,
            ok_move rfl opd0,
            ok_index ty95 un93 hv2 rfl opd0 opd1,
            ok_field GCoat.l0 fo95_0 rfl opd0,
            ok_load ty9 rfl opd0,
            ok_lenS un9 rfl opd0,
            ok_cmp (op := .gtr) (by simp) rfl rfl opd0 opdI, trivial⟩ (by kernel_rfl) ?_
        clear hAt
        intro a w hAt
        replace hAt : At B h0 (mkG [(0, fV (Rep.slice GCoat.rep) x0), (1, fV (Rep.slice GPainting.rep) x1), (5, fV r_i64 s1), (27, fV Rep.bool (cmpI .gtr (List.length v2.Name : Int) 50))]) (mkO []) F 50 a w := hAt
        refine then_n ?_
        refine wp_if hAt (by rfl) ?_ ?_
        · intro hb3
          have H := iteT hb3 H
          refine wp_seq ?_
          refine reg [⟨fV Rep.bool false, [], [], []⟩] [4] [] hAt
              ⟨ok_assign rfl opdB, trivial⟩ (by kernel_rfl) ?_
          clear hAt
          intro a w hAt
          replace hAt : At B h0 (mkG [(4, fV Rep.bool false)]) (mkO []) F 50 a w := hAt
          refine then_n ?_
          refine wp_ret ?_
          refine blk_r ?_
          refine then_r ?_
          cases H
          exact ⟨ret_ne, rfl, hAt.pick [4] []⟩
        · intro hb3
          have H := iteF hb3 H
          refine wp_skip ?_
          refine blk_n ?_
          refine then_n ?_
          refine reg [⟨fV r_i64 s1, [], [(5, none)], []⟩,
              ⟨fV r_i64 (IntKind.i64.wrap (s1 + 1)), [], [(19, some 0)], []⟩,
              ⟨fV r_i64 (IntKind.i64.wrap (s1 + 1)), [], [(20, some 1)], []⟩] [0, 1, 5] [] hAt
              ⟨ok_move rfl opd0,
              ok_add rfl opd0 opdI,
              ok_assign rfl opd0, trivial⟩ (by kernel_rfl) ?_
          clear hAt
          intro a w hAt
          replace hAt : At B h0 (mkG [(0, fV (Rep.slice GCoat.rep) x0), (1, fV (Rep.slice GPainting.rep) x1), (5, fV r_i64 (IntKind.i64.wrap (s1 + 1)))]) (mkO []) F 50 a w := hAt
          cases H
          exact ⟨rfl, hAt.pick [0, 1, 5] []⟩
      · intro hb4
        have H := iteF hb4 H
        refine wp_exit ?_
        refine then_x ?_
        cases H
        exact ⟨ex_ne, rfl, hAt.pick [1] []⟩
    · exact hAt.pick [0, 1, 5] []
    · clear hAt
      intro e a w hp
      cases o5 with
      | inl l7 =>
        rw [Sum.elim_inl] at H
        obtain ⟨rfl, hAt⟩ := hp
        refine blk_eq ?_
        refine then_n ?_
        refine wp_seq ?_
        refine wp_seq ?_
        refine reg [⟨fV r_i64 0, [], [], []⟩] [1, 6] [] hAt
            ⟨ok_assign rfl opdI, trivial⟩ (by kernel_rfl) ?_
        clear hAt
        intro a w hAt
        replace hAt : At B h0 (mkG [(1, fV (Rep.slice GPainting.rep) x1), (6, fV r_i64 0)]) (mkO []) F 50 a w := hAt
        refine then_n ?_
        refine wp_block ?_
        obtain ⟨o14, hl15, H⟩ := bindE H
        refine wp_mono (wp_loopN (f := f_law09_brief_L1 N x1) (fun (s9 : Int) a w => At B h0 (mkG [(1, fV (Rep.slice GPainting.rep) x1), (6, fV r_i64 s9)]) (mkO []) F 50 a w) (fun o e a w => (Sum.elim (fun v => e = .exit 2 ∧ At B h0 (mkG []) (mkO []) F 50 a w) (fun v => e = .ret ∧ At B h0 (mkG [(4, fV Rep.bool v)]) (mkO []) F 50 a w)) o) ?_ N 0 o14 _ _ hl15 ?_) ?_
        · clear H hAt hl15
          intro s9 r18 a w H hAt
          unfold f_law09_brief_L1 at H
          refine wp_seq ?_
          refine wp_seq ?_
          refine reg [⟨fV r_i64 s9, [], [(6, none)], []⟩,
              ⟨fV (Rep.slice GPainting.rep) x1, [], [(1, none)], []⟩,
              ⟨fV r_i64 (List.length x1 : Int), [], [(29, some 1)], []⟩,
              ⟨fV Rep.bool (cmpI .lss s9 (List.length x1 : Int)), [], [(28, some 0), (30, some 2)], []⟩] [1, 6, 31] [] hAt
              ⟨ok_move rfl opd0,
              ok_move rfl opd0,
              ok_len un102 rfl opd0,
              ok_cmp (op := .lss) (by simp) rfl rfl opd0 opd1, trivial⟩ (by kernel_rfl) ?_
          clear hAt
          intro a w hAt
          replace hAt : At B h0 (mkG [(1, fV (Rep.slice GPainting.rep) x1), (6, fV r_i64 s9), (31, fV Rep.bool (cmpI .lss s9 (List.length x1 : Int)))]) (mkO []) F 50 a w := hAt
          refine then_n ?_
          refine wp_if hAt (by rfl) ?_ ?_
          · intro hb13
            have H := iteT hb13 H
            refine wp_skip ?_
            refine then_n ?_
            refine wp_seq ?_
            refine wp_block ?_
            refine wp_seq ?_
            obtain ⟨v10, hv10, H⟩ := bindE H
            obtain ⟨v11, hv11, H⟩ := bindE H
            refine reg [⟨fV (Rep.slice GPainting.rep) x1, [], [(1, none)], []⟩,
                ⟨fV r_i64 s9, [], [(6, none)], []⟩,
                ⟨fRef GPainting.rep v10, [], [(34, some 0), (35, some 1)], []⟩,
                ⟨fRef Rep.str v10.Coat, [], [(36, some 2)], []⟩,
                ⟨fV Rep.str v10.Coat, [], [(37, some 3)], []⟩,
                ⟨fV r_i64 (List.length v10.Coat : Int), [], [(38, some 4)], []⟩,
                ⟨fV Rep.bool (cmpI .gtr (List.length v10.Coat : Int) 50), [], [(39, some 5)], []⟩,
                ⟨fV Rep.bool (cmpI .gtr (List.length v10.Coat : Int) 50), [], [(40, some 6)], []⟩,
                ⟨Fact.when ((!(cmpI .gtr (List.length v10.Coat : Int) 50)) = true) (fV (Rep.slice GPainting.rep) x1), [], [(41, some 7), (1, none)], []⟩,
                ⟨Fact.when ((!(cmpI .gtr (List.length v10.Coat : Int) 50)) = true) (fV r_i64 s9), [], [(41, some 7), (6, none)], []⟩,
                ⟨Fact.when ((!(cmpI .gtr (List.length v10.Coat : Int) 50)) = true) (fRef GPainting.rep v11), [], [(41, some 7), (42, some 8), (43, some 9)], []⟩,
                ⟨Fact.when ((!(cmpI .gtr (List.length v10.Coat : Int) 50)) = true) (fRef (Rep.slice r_i64) v11.Readings), [], [(41, some 7), (44, some 10)], []⟩,
                ⟨Fact.when ((!(cmpI .gtr (List.length v10.Coat : Int) 50)) = true) (fV (Rep.slice r_i64) v11.Readings), [], [(41, some 7), (45, some 11)], []⟩,
                ⟨Fact.when ((!(cmpI .gtr (List.length v10.Coat : Int) 50)) = true) (fV r_i64 (List.length v11.Readings : Int)), [], [(41, some 7), (46, some 12)], []⟩,
                ⟨Fact.when ((!(cmpI .gtr (List.length v10.Coat : Int) 50)) = true) (fV Rep.bool (cmpI .gtr (List.length v11.Readings : Int) 110)), [], [(41, some 7), (47, some 13)], []⟩,
                ⟨fV Rep.bool ((cmpI .gtr (List.length v10.Coat : Int) 50) || (cmpI .gtr (List.length v11.Readings : Int) 110)), [], [(41, some 7), (48, some 14)], []⟩] [1, 6, 49] [] hAt
                ⟨ok_move rfl opd0,
                ok_move rfl opd0,
                ok_index ty107 un102 hv10 rfl opd0 opd1,
                ok_field GPainting.l0 fo107_0 rfl opd0,
                ok_load ty9 rfl opd0,
                ok_lenS un9 rfl opd0,
                ok_cmp (op := .gtr) (by simp) rfl rfl opd0 opdI,
                ok_move rfl opd0,
                obl_tf rfl rfl rfl rfl rfl rfl rfl (fun hg => ok_move rfl opd1),
                obl_tf rfl rfl rfl rfl rfl rfl rfl (fun hg => ok_move rfl opd1),
                obl_tf rfl rfl rfl rfl rfl rfl rfl (fun hg => ok_index ty107 un102 (iteT hg hv11) rfl (opd1.on hg) (opd2.on hg)),
                obl_tf rfl rfl rfl rfl rfl rfl rfl (fun hg => ok_field GPainting.l2 fo107_2 rfl (opd1.on hg)),
                obl_tf rfl rfl rfl rfl rfl rfl rfl (fun hg => ok_load ty22 rfl (opd1.on hg)),
                obl_tf rfl rfl rfl rfl rfl rfl rfl (fun hg => ok_len un22 rfl (opd1.on hg)),
                obl_tf rfl rfl rfl rfl rfl rfl rfl (fun hg => ok_cmp (op := .gtr) (by simp) rfl rfl (opd1.on hg) opdI),
                ok_or rfl opd0 (fun e => (opd1.on (notT e))), trivial⟩ (by kernel_rfl) ?_
            clear hAt
            intro a w hAt
            replace hAt : At B h0 (mkG [(1, fV (Rep.slice GPainting.rep) x1), (6, fV r_i64 s9), (49, fV Rep.bool ((cmpI .gtr (List.length v10.Coat : Int) 50) || (cmpI .gtr (List.length v11.Readings : Int) 110)))]) (mkO []) F 50 a w := hAt
            refine then_n ?_
            refine wp_if hAt (by rfl) ?_ ?_
            · intro hb12
              have H := iteT hb12 H
              refine wp_seq ?_
              refine reg [⟨fV Rep.bool false, [], [], []⟩] [4] [] hAt
                  ⟨ok_assign rfl opdB, trivial⟩ (by kernel_rfl) ?_
              clear hAt
              intro a w hAt
              replace hAt : At B h0 (mkG [(4, fV Rep.bool false)]) (mkO []) F 50 a w := hAt
              refine then_n ?_
              refine wp_ret ?_
              refine blk_r ?_
              refine then_r ?_
              cases H
              exact ⟨ret_ne, rfl, hAt.pick [4] []⟩
            · intro hb12
              have H := iteF hb12 H
              refine wp_skip ?_
              refine blk_n ?_
              refine then_n ?_
              refine reg [⟨fV r_i64 s9, [], [(6, none)], []⟩,
                  ⟨fV r_i64 (IntKind.i64.wrap (s9 + 1)), [], [(32, some 0)], []⟩,
                  ⟨fV r_i64 (IntKind.i64.wrap (s9 + 1)), [], [(33, some 1)], []⟩] [1, 6] [] hAt
                  ⟨ok_move rfl opd0,
                  ok_add rfl opd0 opdI,
                  ok_assign rfl opd0, trivial⟩ (by kernel_rfl) ?_
              clear hAt
              intro a w hAt
              replace hAt : At B h0 (mkG [(1, fV (Rep.slice GPainting.rep) x1), (6, fV r_i64 (IntKind.i64.wrap (s9 + 1)))]) (mkO []) F 50 a w := hAt
              cases H
              exact ⟨rfl, hAt.pick [1, 6] []⟩
          · intro hb13
            have H := iteF hb13 H
            refine wp_exit ?_
            refine then_x ?_
            cases H
            exact ⟨ex_ne, rfl, hAt.pick [] []⟩
        · exact hAt.pick [1, 6] []
        · clear hAt
          intro e a w hp
          cases o14 with
          | inl l16 =>
            rw [Sum.elim_inl] at H
            obtain ⟨rfl, hAt⟩ := hp
            refine blk_eq ?_
            refine then_n ?_
            refine wp_seq ?_
            refine reg [⟨fV Rep.bool true, [], [], []⟩] [4] [] hAt
                ⟨ok_assign rfl opdB, trivial⟩ (by kernel_rfl) ?_
            clear hAt
            intro a w hAt
            replace hAt : At B h0 (mkG [(4, fV Rep.bool true)]) (mkO []) F 50 a w := hAt
            refine then_n ?_
            refine wp_ret ?_
            cases H
            exact ret1 rfl (rv_tmp rfl rfl) hAt
          | inr r17 =>
            rw [Sum.elim_inr] at H
            replace hp := hp
            obtain ⟨rfl, hAt⟩ := hp
            refine blk_r ?_
            refine then_r ?_
            cases H
            exact ret1 rfl (rv_tmp rfl rfl) hAt
      | inr r8 =>
        rw [Sum.elim_inr] at H
        replace hp := hp
        obtain ⟨rfl, hAt⟩ := hp
        refine blk_r ?_
        refine then_r ?_
        cases H
        exact ret1 rfl (rv_tmp rfl rfl) hAt
theorem ok_f_survey_checkCoat (N : Nat) (x0 : GCoat) (r : Int) (H : f_survey_checkCoat N x0 = some r) : FnOk Try.prog 89 [fV GCoat.rep x0] (fV r_i64 r) := by
  unfold f_survey_checkCoat at H
  refine fn_enter Try.func89 rfl rfl (by kernel_rfl) ?_
  intro κ B h0 F a w hAt
  refine wp_seq ?_
  refine reg [⟨fRef GCoat.rep x0, [], [(0, none)], []⟩,
      ⟨fV r_i64 0, [], [], []⟩] [1] [] hAt
      ⟨ok_box rfl opd0,
      ok_assign rfl opdI, trivial⟩ (by kernel_rfl) ?_
  clear hAt
  intro a w hAt
  replace hAt : At B h0 (mkG [(1, fRef GCoat.rep x0)]) (mkO []) F 35 a w := hAt
  refine then_n ?_
  refine wp_seq ?_
  refine wp_seq ?_
  refine reg (⟨fRef r_i64 x0.Nominal, [], [(1, none)], []⟩ ::
      ⟨fV r_i64 x0.Nominal, [], [(3, some 0)], []⟩ ::
      ⟨fV Rep.bool (cmpI .lss x0.Nominal 1), [], [(4, some 1)], []⟩ ::
      ⟨fV Rep.bool (cmpI .lss x0.Nominal 1), [], [(5, some 2)], []⟩ ::
      ⟨Fact.when ((!(cmpI .lss x0.Nominal 1)) = true) (fRef r_i64 x0.Nominal), [], [(6, some 3), (1, none)], []⟩ ::
      ⟨Fact.when ((!(cmpI .lss x0.Nominal 1)) = true) (fV r_i64 x0.Nominal), [], [(6, some 3), (7, some 4)], []⟩ ::
      ⟨Fact.when ((!(cmpI .lss x0.Nominal 1)) = true) (fRef r_i64 x0.Most), [], [(6, some 3), (1, none)], []⟩ ::
      ⟨Fact.when ((!(cmpI .lss x0.Nominal 1)) = true) (fV r_i64 x0.Most), [], [(6, some 3), (9, some 6)], []⟩ ::
      ⟨Fact.when ((!(cmpI .lss x0.Nominal 1)) = true) (fV Rep.bool (cmpI .gtr x0.Nominal x0.Most)), [], [(6, some 3), (8, some 5), (10, some 7)], []⟩ ::
      ⟨fV Rep.bool ((cmpI .lss x0.Nominal 1) || (cmpI .gtr x0.Nominal x0.Most)), [], [(6, some 3), (11, some 8)], []⟩ ::
      ⟨fV Rep.bool ((cmpI .lss x0.Nominal 1) || (cmpI .gtr x0.Nominal x0.Most)), [], [(12, some 9)], []⟩ ::
      ⟨Fact.when ((!((cmpI .lss x0.Nominal 1) || (cmpI .gtr x0.Nominal x0.Most))) = true) (fRef r_i64 x0.Most), [], [(13, some 10), (1, none)], []⟩ ::
      ⟨Fact.when ((!((cmpI .lss x0.Nominal 1) || (cmpI .gtr x0.Nominal x0.Most))) = true) (fV r_i64 x0.Most), [], [(13, some 10), (14, some 11)], []⟩ ::
      ⟨Fact.when ((!((cmpI .lss x0.Nominal 1) || (cmpI .gtr x0.Nominal x0.Most))) = true) (fV Rep.bool (cmpI .gtr x0.Most 10000)), [], [(13, some 10), (15, some 12)], []⟩ ::
      ⟨fV Rep.bool (((cmpI .lss x0.Nominal 1) || (cmpI .gtr x0.Nominal x0.Most)) || (cmpI .gtr x0.Most 10000)), [], [(13, some 10), (16, some 13)], []⟩ ::
      ⟨fV Rep.bool (((cmpI .lss x0.Nominal 1) || (cmpI .gtr x0.Nominal x0.Most)) || (cmpI .gtr x0.Most 10000)), [], [(17, some 14)], []⟩ ::
      ⟨Fact.when ((!(((cmpI .lss x0.Nominal 1) || (cmpI .gtr x0.Nominal x0.Most)) || (cmpI .gtr x0.Most 10000))) = true) (fRef r_i64 x0.Soonest), [], [(18, some 15), (1, none)], []⟩ ::
      ⟨Fact.when ((!(((cmpI .lss x0.Nominal 1) || (cmpI .gtr x0.Nominal x0.Most)) || (cmpI .gtr x0.Most 10000))) = true) (fV r_i64 x0.Soonest), [], [(18, some 15), (19, some 16)], []⟩ ::
      ⟨Fact.when ((!(((cmpI .lss x0.Nominal 1) || (cmpI .gtr x0.Nominal x0.Most)) || (cmpI .gtr x0.Most 10000))) = true) (fV Rep.bool (cmpI .lss x0.Soonest 0)), [], [(18, some 15), (20, some 17)], []⟩ ::
      ⟨fV Rep.bool ((((cmpI .lss x0.Nominal 1) || (cmpI .gtr x0.Nominal x0.Most)) || (cmpI .gtr x0.Most 10000)) || (cmpI .lss x0.Soonest 0)), [], [(18, some 15), (21, some 18)], []⟩ ::
      ⟨fV Rep.bool ((((cmpI .lss x0.Nominal 1) || (cmpI .gtr x0.Nominal x0.Most)) || (cmpI .gtr x0.Most 10000)) || (cmpI .lss x0.Soonest 0)), [], [(22, some 19)], []⟩ ::
      ⟨Fact.when ((!((((cmpI .lss x0.Nominal 1) || (cmpI .gtr x0.Nominal x0.Most)) || (cmpI .gtr x0.Most 10000)) || (cmpI .lss x0.Soonest 0))) = true) (fRef r_i64 x0.Soonest), [], [(23, some 20), (1, none)], []⟩ ::
      ⟨Fact.when ((!((((cmpI .lss x0.Nominal 1) || (cmpI .gtr x0.Nominal x0.Most)) || (cmpI .gtr x0.Most 10000)) || (cmpI .lss x0.Soonest 0))) = true) (fV r_i64 x0.Soonest), [], [(23, some 20), (24, some 21)], []⟩ ::
      ⟨Fact.when ((!((((cmpI .lss x0.Nominal 1) || (cmpI .gtr x0.Nominal x0.Most)) || (cmpI .gtr x0.Most 10000)) || (cmpI .lss x0.Soonest 0))) = true) (fRef r_i64 x0.Latest), [], [(23, some 20), (1, none)], []⟩ ::
      ⟨Fact.when ((!((((cmpI .lss x0.Nominal 1) || (cmpI .gtr x0.Nominal x0.Most)) || (cmpI .gtr x0.Most 10000)) || (cmpI .lss x0.Soonest 0))) = true) (fV r_i64 x0.Latest), [], [(23, some 20), (26, some 23)], []⟩ ::
      ⟨Fact.when ((!((((cmpI .lss x0.Nominal 1) || (cmpI .gtr x0.Nominal x0.Most)) || (cmpI .gtr x0.Most 10000)) || (cmpI .lss x0.Soonest 0))) = true) (fV Rep.bool (cmpI .gtr x0.Soonest x0.Latest)), [], [(23, some 20), (25, some 22), (27, some 24)], []⟩ ::
      ⟨fV Rep.bool (((((cmpI .lss x0.Nominal 1) || (cmpI .gtr x0.Nominal x0.Most)) || (cmpI .gtr x0.Most 10000)) || (cmpI .lss x0.Soonest 0)) || (cmpI .gtr x0.Soonest x0.Latest)), [], [(23, some 20), (28, some 25)], []⟩ ::
      ⟨fV Rep.bool (((((cmpI .lss x0.Nominal 1) || (cmpI .gtr x0.Nominal x0.Most)) || (cmpI .gtr x0.Most 10000)) || (cmpI .lss x0.Soonest 0)) || (cmpI .gtr x0.Soonest x0.Latest)), [], [(29, some 26)], []⟩ ::
      ⟨Fact.when ((!(((((cmpI .lss x0.Nominal 1) || (cmpI .gtr x0.Nominal x0.Most)) || (cmpI .gtr x0.Most 10000)) || (cmpI .lss x0.Soonest 0)) || (cmpI .gtr x0.Soonest x0.Latest))) = true) (fRef r_i64 x0.Latest), [], [(30, some 27), (1, none)], []⟩ ::
      ⟨Fact.when ((!(((((cmpI .lss x0.Nominal 1) || (cmpI .gtr x0.Nominal x0.Most)) || (cmpI .gtr x0.Most 10000)) || (cmpI .lss x0.Soonest 0)) || (cmpI .gtr x0.Soonest x0.Latest))) = true) (fV r_i64 x0.Latest), [], [(30, some 27), (31, some 28)], []⟩ ::
      ⟨Fact.when ((!(((((cmpI .lss x0.Nominal 1) || (cmpI .gtr x0.Nominal x0.Most)) || (cmpI .gtr x0.Most 10000)) || (cmpI .lss x0.Soonest 0)) || (cmpI .gtr x0.Soonest x0.Latest))) = true) (fV Rep.bool (cmpI .gtr x0.Latest 1000000)), [], [(30, some 27), (32, some 29)], []⟩ ::
      ⟨fV Rep.bool ((((((cmpI .lss x0.Nominal 1) || (cmpI .gtr x0.Nominal x0.Most)) || (cmpI .gtr x0.Most 10000)) || (cmpI .lss x0.Soonest 0)) || (cmpI .gtr x0.Soonest x0.Latest)) || (cmpI .gtr x0.Latest 1000000)), [], [(30, some 27), (33, some 30)], []⟩ :: []) [34] [] hAt
      ⟨ok_field GCoat.l1 fo95_1 rfl opd0,
      ok_load ty3 rfl opd0,
      ok_cmp (op := .lss) (by simp) rfl rfl opd0 opdI,
      ok_move rfl opd0,
      obl_tf rfl rfl rfl rfl rfl rfl rfl (fun hg => ok_field GCoat.l1 fo95_1 rfl opd1),
      obl_tf rfl rfl rfl rfl rfl rfl rfl (fun hg => ok_load ty3 rfl (opd1.on hg)),
      obl_tf rfl rfl rfl rfl rfl rfl rfl (fun hg => ok_field GCoat.l2 fo95_2 rfl opd1),
      obl_tf rfl rfl rfl rfl rfl rfl rfl (fun hg => ok_load ty3 rfl (opd1.on hg)),
      obl_tf rfl rfl rfl rfl rfl rfl rfl (fun hg => ok_cmp (op := .gtr) (by simp) rfl rfl (opd1.on hg) (opd2.on hg)),
      ok_or rfl opd0 (fun e => (opd1.on (notT e))),
      ok_move rfl opd0,
      obl_tf rfl rfl rfl rfl rfl rfl rfl (fun hg => ok_field GCoat.l2 fo95_2 rfl opd1),
      obl_tf rfl rfl rfl rfl rfl rfl rfl (fun hg => ok_load ty3 rfl (opd1.on hg)),
      obl_tf rfl rfl rfl rfl rfl rfl rfl (fun hg => ok_cmp (op := .gtr) (by simp) rfl rfl (opd1.on hg) opdI),
      ok_or rfl opd0 (fun e => (opd1.on (notT e))),
      ok_move rfl opd0,
      obl_tf rfl rfl rfl rfl rfl rfl rfl (fun hg => ok_field GCoat.l3 fo95_3 rfl opd1),
      obl_tf rfl rfl rfl rfl rfl rfl rfl (fun hg => ok_load ty3 rfl (opd1.on hg)),
      obl_tf rfl rfl rfl rfl rfl rfl rfl (fun hg => ok_cmp (op := .lss) (by simp) rfl rfl (opd1.on hg) opdI),
      ok_or rfl opd0 (fun e => (opd1.on (notT e))),
      ok_move rfl opd0,
      obl_tf rfl rfl rfl rfl rfl rfl rfl (fun hg => ok_field GCoat.l3 fo95_3 rfl opd1),
      obl_tf rfl rfl rfl rfl rfl rfl rfl (fun hg => ok_load ty3 rfl (opd1.on hg)),
      obl_tf rfl rfl rfl rfl rfl rfl rfl (fun hg => ok_field GCoat.l4 fo95_4 rfl opd1),
      obl_tf rfl rfl rfl rfl rfl rfl rfl (fun hg => ok_load ty3 rfl (opd1.on hg)),
      obl_tf rfl rfl rfl rfl rfl rfl rfl (fun hg => ok_cmp (op := .gtr) (by simp) rfl rfl (opd1.on hg) (opd2.on hg)),
      ok_or rfl opd0 (fun e => (opd1.on (notT e))),
      ok_move rfl opd0,
      obl_tf rfl rfl rfl rfl rfl rfl rfl (fun hg => ok_field GCoat.l4 fo95_4 rfl opd1),
      obl_tf rfl rfl rfl rfl rfl rfl rfl (fun hg => ok_load ty3 rfl (opd1.on hg)),
      obl_tf rfl rfl rfl rfl rfl rfl rfl (fun hg => ok_cmp (op := .gtr) (by simp) rfl rfl (opd1.on hg) opdI),
      ok_or rfl opd0 (fun e => (opd1.on (notT e))), trivial⟩ (by kernel_rfl) ?_
  clear hAt
  intro a w hAt
  replace hAt : At B h0 (mkG [(34, fV Rep.bool ((((((cmpI .lss x0.Nominal 1) || (cmpI .gtr x0.Nominal x0.Most)) || (cmpI .gtr x0.Most 10000)) || (cmpI .lss x0.Soonest 0)) || (cmpI .gtr x0.Soonest x0.Latest)) || (cmpI .gtr x0.Latest 1000000)))]) (mkO []) F 35 a w := hAt
  refine then_n ?_
  refine wp_if hAt (by rfl) ?_ ?_
  · intro hb1
    have H := iteT hb1 H
    refine wp_seq ?_
    refine reg [⟨fV r_i64 2, [], [], []⟩] [2] [] hAt
        ⟨ok_assign rfl opdI, trivial⟩ (by kernel_rfl) ?_
    clear hAt
    intro a w hAt
    replace hAt : At B h0 (mkG [(2, fV r_i64 2)]) (mkO []) F 35 a w := hAt
    refine then_n ?_
    refine wp_ret ?_
    refine then_r ?_
    cases H
    exact ret1 rfl (rv_tmp rfl rfl) hAt
  · intro hb1
    have H := iteF hb1 H
    refine wp_skip ?_
    refine then_n ?_
    refine wp_seq ?_
    refine reg [⟨fV r_i64 0, [], [], []⟩] [2] [] hAt
        ⟨ok_assign rfl opdI, trivial⟩ (by kernel_rfl) ?_
    clear hAt
    intro a w hAt
    replace hAt : At B h0 (mkG [(2, fV r_i64 0)]) (mkO []) F 35 a w := hAt
    refine then_n ?_
    refine wp_ret ?_
    cases H
    exact ret1 rfl (rv_tmp rfl rfl) hAt
theorem ok_f_survey_CheckScheme (N : Nat) (x0 : (List GCoat)) (r : Int) (H : f_survey_CheckScheme N x0 = some r) : FnOk Try.prog 52 [fV (Rep.slice GCoat.rep) x0] (fV r_i64 r) := by
  unfold f_survey_CheckScheme at H
  refine fn_enter Try.func52 rfl rfl (by kernel_rfl) ?_
  intro κ B h0 F a w hAt
  refine wp_seq ?_
  refine reg [⟨fV r_i64 0, [], [], []⟩] [0] [] hAt
      ⟨ok_assign rfl opdI, trivial⟩ (by kernel_rfl) ?_
  clear hAt
  intro a w hAt
  replace hAt : At B h0 (mkG [(0, fV (Rep.slice GCoat.rep) x0)]) (mkO []) F 41 a w := hAt
  refine then_n ?_
  refine wp_seq ?_
  refine wp_block ?_
  refine wp_seq ?_
  refine reg [⟨fV (Rep.slice GCoat.rep) x0, [], [(0, none)], []⟩,
      ⟨fV r_i64 (List.length x0 : Int), [], [(8, some 0)], []⟩,
      ⟨fV Rep.bool (cmpI .eql (List.length x0 : Int) 0), [], [(9, some 1)], []⟩,
      ⟨fV Rep.bool (cmpI .eql (List.length x0 : Int) 0), [], [(10, some 2)], []⟩] [0, 7] [] hAt
      ⟨ok_move rfl opd0,
      ok_len un93 rfl opd0,
      ok_cmp (op := .eql) (by simp) rfl rfl opd0 opdI,
      ok_assign rfl opd0, trivial⟩ (by kernel_rfl) ?_
  clear hAt
  intro a w hAt
  replace hAt : At B h0 (mkG [(0, fV (Rep.slice GCoat.rep) x0), (7, fV Rep.bool (cmpI .eql (List.length x0 : Int) 0))]) (mkO []) F 41 a w := hAt
  refine then_n ?_
  refine wp_if hAt (by rfl) ?_ ?_
  · intro hb15
    have H := iteT hb15 H
    refine wp_seq ?_
    refine reg [⟨fV r_i64 11, [], [], []⟩] [2] [] hAt
        ⟨ok_assign rfl opdI, trivial⟩ (by kernel_rfl) ?_
    clear hAt
    intro a w hAt
    replace hAt : At B h0 (mkG [(2, fV r_i64 11)]) (mkO []) F 41 a w := hAt
    refine then_n ?_
    refine wp_ret ?_
    refine blk_r ?_
    refine then_r ?_
    cases H
    exact ret1 rfl (rv_tmp rfl rfl) hAt
  · intro hb15
    have H := iteF hb15 H
    refine wp_seq ?_
    refine reg [⟨fV (Rep.slice GCoat.rep) x0, [], [(0, none)], []⟩,
        ⟨fV r_i64 (List.length x0 : Int), [], [(12, some 0)], []⟩,
        ⟨fV Rep.bool (cmpI .gtr (List.length x0 : Int) 8), [], [(13, some 1)], []⟩,
        ⟨fV Rep.bool (cmpI .gtr (List.length x0 : Int) 8), [], [(14, some 2)], []⟩] [0, 11] [] hAt
        ⟨ok_move rfl opd0,
        ok_len un93 rfl opd0,
        ok_cmp (op := .gtr) (by simp) rfl rfl opd0 opdI,
        ok_assign rfl opd0, trivial⟩ (by kernel_rfl) ?_
    clear hAt
    intro a w hAt
    replace hAt : At B h0 (mkG [(0, fV (Rep.slice GCoat.rep) x0), (11, fV Rep.bool (cmpI .gtr (List.length x0 : Int) 8))]) (mkO []) F 41 a w := hAt
    refine then_n ?_
    refine wp_if hAt (by rfl) ?_ ?_
    · intro hb14
      have H := iteT hb14 H
      refine wp_seq ?_
      refine reg [⟨fV r_i64 8, [], [], []⟩] [2] [] hAt
          ⟨ok_assign rfl opdI, trivial⟩ (by kernel_rfl) ?_
      clear hAt
      intro a w hAt
      replace hAt : At B h0 (mkG [(2, fV r_i64 8)]) (mkO []) F 41 a w := hAt
      refine then_n ?_
      refine wp_ret ?_
      refine blk_r ?_
      refine then_r ?_
      cases H
      exact ret1 rfl (rv_tmp rfl rfl) hAt
    · intro hb14
      have H := iteF hb14 H
      refine wp_skip ?_
      refine blk_n ?_
      refine then_n ?_
      refine wp_seq ?_
      refine reg [⟨Fact.triv, [(15, some (mapE kStr Rep.bool ([] : (List (Str × Bool)))))], [], []⟩,
          ⟨Fact.triv, [(15, none), (3, some (mapE kStr Rep.bool ([] : (List (Str × Bool)))))], [], [(15, some 0)]⟩] [0] [3] hAt
          ⟨ok_makeMap rfl rfl,
          (ok_moveOwn (f := Fact.triv) rfl rfl (.inr rfl) (fun _ _ _ => trivial)), trivial⟩ (by kernel_rfl) ?_
      clear hAt
      intro a w hAt
      replace hAt : At B h0 (mkG [(0, fV (Rep.slice GCoat.rep) x0)]) (mkO [(3, mapE kStr Rep.bool ([] : (List (Str × Bool))))]) F 41 a w := hAt
      refine then_n ?_
      refine wp_seq ?_
      refine wp_seq ?_
      refine reg [⟨fV (Rep.slice GCoat.rep) x0, [], [(0, none)], []⟩,
          ⟨fV r_i64 (List.length x0 : Int), [], [(16, some 0)], []⟩,
          ⟨fV r_i64 0, [], [], []⟩] [16, 17, 18] [3] hAt
          ⟨ok_move rfl opd0,
          ok_len un93 rfl opd0,
          ok_move rfl opdI, trivial⟩ (by kernel_rfl) ?_
      clear hAt
      intro a w hAt
      replace hAt : At B h0 (mkG [(16, fV (Rep.slice GCoat.rep) x0), (17, fV r_i64 (List.length x0 : Int)), (18, fV r_i64 0)]) (mkO [(3, mapE kStr Rep.bool ([] : (List (Str × Bool))))]) F 41 a w := hAt
      refine then_n ?_
      refine wp_block ?_
      obtain ⟨o9, hl10, H⟩ := bindE H
      refine wp_mono (wp_loopN (f := f_survey_CheckScheme_L1 N x0) (fun (s1 : ((List (Str × Bool)) × Int)) a w => At B h0 (mkG [(16, fV (Rep.slice GCoat.rep) x0), (17, fV r_i64 (List.length x0 : Int)), (18, fV r_i64 s1.2)]) (mkO [(3, mapE kStr Rep.bool s1.1)]) F 41 a w) (fun o e a w => (Sum.elim (fun v => e = .exit 1 ∧ At B h0 (mkG []) (mkO []) F 41 a w) (fun v => e = .ret ∧ At B h0 (mkG [(2, fV r_i64 v)]) (mkO []) F 41 a w)) o) ?_ N (([] : (List (Str × Bool))), 0) o9 _ _ hl10 ?_) ?_
      · clear H hAt hl10
        intro s1 r13 a w H hAt
        unfold f_survey_CheckScheme_L1 at H
        refine wp_seq ?_
        refine reg [⟨fV Rep.bool (cmpI .lss s1.2 (List.length x0 : Int)), [], [(18, none), (17, none)], []⟩] [16, 17, 18, 19] [3] hAt
            ⟨ok_cmp (op := .lss) (by simp) rfl rfl opd0 opd1, trivial⟩ (by kernel_rfl) ?_
        clear hAt
        intro a w hAt
        replace hAt : At B h0 (mkG [(16, fV (Rep.slice GCoat.rep) x0), (17, fV r_i64 (List.length x0 : Int)), (18, fV r_i64 s1.2), (19, fV Rep.bool (cmpI .lss s1.2 (List.length x0 : Int)))]) (mkO [(3, mapE kStr Rep.bool s1.1)]) F 41 a w := hAt
        refine then_n ?_
        refine wp_seq ?_
        refine wp_if hAt (by rfl) ?_ ?_
        · intro hb8
          have H := iteT hb8 H
          refine wp_skip ?_
          refine then_n ?_
          refine wp_seq ?_
          refine wp_block ?_
          refine wp_seq ?_
          obtain ⟨v2, hv2, H⟩ := bindE H
          refine reg [⟨fRef GCoat.rep v2, [], [(16, none), (18, none)], []⟩,
              ⟨fV GCoat.rep v2, [], [(20, some 0)], []⟩,
              ⟨Fact.triv, [(5, some (boxE 95 GCoat.rep (⟨[], 0, 0, 0, 0⟩ : GCoat)))], [], []⟩,
              ⟨Fact.triv, [(5, some (boxE 95 GCoat.rep v2))], [(21, some 1)], [(5, some 2)]⟩] [16, 17, 18] [3, 5] hAt
              ⟨ok_index ty95 un93 hv2 rfl opd0 opd1,
              ok_load ty95 rfl opd0,
              ok_alloc ty95 rfl rfl,
              ok_storeBox ty95 rfl rfl opd0, trivial⟩ (by kernel_rfl) ?_
          clear hAt
          intro a w hAt
          replace hAt : At B h0 (mkG [(16, fV (Rep.slice GCoat.rep) x0), (17, fV r_i64 (List.length x0 : Int)), (18, fV r_i64 s1.2)]) (mkO [(3, mapE kStr Rep.bool s1.1), (5, boxE 95 GCoat.rep v2)]) F 41 a w := hAt
          refine then_n ?_
          refine wp_seq ?_
          refine wp_block ?_
          refine wp_seq ?_
          obtain ⟨v3, hv3, H⟩ := bindE H
          refine reg [⟨fOff 5 0, [], [], [(5, none)]⟩,
              ⟨fV Rep.str v2.Name, [], [(23, some 0)], [(5, none)]⟩,
              ⟨fV Rep.bool v3, [], [(24, some 1)], []⟩,
              ⟨fV Rep.bool (!v3), [], [(25, some 2)], []⟩,
              ⟨fV Rep.bool (!v3), [], [(26, some 3)], []⟩] [16, 17, 18, 22] [3, 5] hAt
              ⟨ok_fieldOwn fo95_0 rfl,
              ok_loadOwn GCoat.l0 ty9 rfl opd0,
              ok_call (ok_f_survey_name N v2.Name _ hv3) Try.func70 (by kernel_rfl) (by kernel_rfl) rfl ⟨opd0, trivial⟩,
              ok_not rfl opd0,
              ok_assign rfl opd0, trivial⟩ (by kernel_rfl) ?_
          clear hAt
          intro a w hAt
          replace hAt : At B h0 (mkG [(16, fV (Rep.slice GCoat.rep) x0), (17, fV r_i64 (List.length x0 : Int)), (18, fV r_i64 s1.2), (22, fV Rep.bool (!v3))]) (mkO [(3, mapE kStr Rep.bool s1.1), (5, boxE 95 GCoat.rep v2)]) F 41 a w := hAt
          refine then_n ?_
          refine wp_if hAt (by rfl) ?_ ?_
          · intro hb7
            have H := iteT hb7 H
            refine wp_seq ?_
            refine reg [⟨fV r_i64 4, [], [], []⟩] [2] [] hAt
                ⟨ok_assign rfl opdI, trivial⟩ (by kernel_rfl) ?_
            clear hAt
            intro a w hAt
            replace hAt : At B h0 (mkG [(2, fV r_i64 4)]) (mkO []) F 41 a w := hAt
            refine then_n ?_
            refine wp_ret ?_
            refine blk_r ?_
            refine then_r ?_
            refine blk_r ?_
            refine then_r ?_
            cases H
            exact ⟨ret_ne, rfl, hAt.pick [2] []⟩
          · intro hb7
            have H := iteF hb7 H
            refine wp_seq ?_
            refine reg [⟨fCp 3, [], [], []⟩,
                ⟨fOff 5 0, [], [], [(5, none)]⟩,
                ⟨fV Rep.str v2.Name, [], [(29, some 1)], [(5, none)]⟩,
                ⟨fV Rep.bool (mget false s1.1 v2.Name), [], [(28, some 0), (30, some 2)], [(3, none)]⟩,
                ⟨fV Rep.bool (mget false s1.1 v2.Name), [], [(31, some 3)], []⟩] [16, 17, 18, 27] [3, 5] hAt
                ⟨ok_cp rfl,
                ok_fieldOwn fo95_0 rfl,
                ok_loadOwn GCoat.l0 ty9 rfl opd0,
                ok_lookup ko9 ty4 un150 rfl opd0 opd1,
                ok_assign rfl opd0, trivial⟩ (by kernel_rfl) ?_
            clear hAt
            intro a w hAt
            replace hAt : At B h0 (mkG [(16, fV (Rep.slice GCoat.rep) x0), (17, fV r_i64 (List.length x0 : Int)), (18, fV r_i64 s1.2), (27, fV Rep.bool (mget false s1.1 v2.Name))]) (mkO [(3, mapE kStr Rep.bool s1.1), (5, boxE 95 GCoat.rep v2)]) F 41 a w := hAt
            refine then_n ?_
            refine wp_if hAt (by rfl) ?_ ?_
            · intro hb6
              have H := iteT hb6 H
              refine wp_seq ?_
              refine reg [⟨fV r_i64 5, [], [], []⟩] [2] [] hAt
                  ⟨ok_assign rfl opdI, trivial⟩ (by kernel_rfl) ?_
              clear hAt
              intro a w hAt
              replace hAt : At B h0 (mkG [(2, fV r_i64 5)]) (mkO []) F 41 a w := hAt
              refine then_n ?_
              refine wp_ret ?_
              refine blk_r ?_
              refine then_r ?_
              refine blk_r ?_
              refine then_r ?_
              cases H
              exact ⟨ret_ne, rfl, hAt.pick [2] []⟩
            · intro hb6
              have H := iteF hb6 H
              refine wp_skip ?_
              refine blk_n ?_
              refine then_n ?_
              refine wp_seq ?_
              refine wp_seq ?_
              obtain ⟨v4, hv4, H⟩ := bindE H
              refine reg [⟨fV GCoat.rep v2, [], [], [(5, none)]⟩,
                  ⟨fV r_i64 v4, [], [(32, some 0)], []⟩,
                  ⟨fV r_i64 v4, [], [(33, some 1)], []⟩] [6, 16, 17, 18] [3, 5] hAt
                  ⟨ok_loadBox ty95 rfl,
                  ok_call (ok_f_survey_checkCoat N v2 _ hv4) Try.func89 (by kernel_rfl) (by kernel_rfl) rfl ⟨opd0, trivial⟩,
                  ok_assign rfl opd0, trivial⟩ (by kernel_rfl) ?_
              clear hAt
              intro a w hAt
              replace hAt : At B h0 (mkG [(6, fV r_i64 v4), (16, fV (Rep.slice GCoat.rep) x0), (17, fV r_i64 (List.length x0 : Int)), (18, fV r_i64 s1.2)]) (mkO [(3, mapE kStr Rep.bool s1.1), (5, boxE 95 GCoat.rep v2)]) F 41 a w := hAt
              refine then_n ?_
              refine wp_seq ?_
              refine reg [⟨fV r_i64 v4, [], [(6, none)], []⟩,
                  ⟨fV Rep.bool (cmpI .neq v4 0), [], [(34, some 0)], []⟩] [6, 16, 17, 18, 35] [3, 5] hAt
                  ⟨ok_move rfl opd0,
                  ok_cmp (op := .neq) (by simp) rfl rfl opd0 opdI, trivial⟩ (by kernel_rfl) ?_
              clear hAt
              intro a w hAt
              replace hAt : At B h0 (mkG [(6, fV r_i64 v4), (16, fV (Rep.slice GCoat.rep) x0), (17, fV r_i64 (List.length x0 : Int)), (18, fV r_i64 s1.2), (35, fV Rep.bool (cmpI .neq v4 0))]) (mkO [(3, mapE kStr Rep.bool s1.1), (5, boxE 95 GCoat.rep v2)]) F 41 a w := hAt
              refine then_n ?_
              refine wp_if hAt (by rfl) ?_ ?_
              · intro hb5
                have H := iteT hb5 H
                refine wp_seq ?_
                refine reg [⟨fV r_i64 v4, [], [(6, none)], []⟩,
                    ⟨fV r_i64 v4, [], [(36, some 0)], []⟩] [2] [] hAt
                    ⟨ok_move rfl opd0,
                    ok_assign rfl opd0, trivial⟩ (by kernel_rfl) ?_
                clear hAt
                intro a w hAt
                replace hAt : At B h0 (mkG [(2, fV r_i64 v4)]) (mkO []) F 41 a w := hAt
                refine then_n ?_
                refine wp_ret ?_
                refine then_r ?_
                refine blk_r ?_
                refine then_r ?_
                cases H
                exact ⟨ret_ne, rfl, hAt.pick [2] []⟩
              · intro hb5
                have H := iteF hb5 H
                refine wp_skip ?_
                refine then_n ?_
                refine reg [⟨fCp 3, [], [], []⟩,
                    ⟨fOff 5 0, [], [], [(5, none)]⟩,
                    ⟨fV Rep.str v2.Name, [], [(38, some 1)], [(5, none)]⟩,
                    ⟨Fact.triv, [(3, some (mapE kStr Rep.bool (mset s1.1 v2.Name true)))], [(37, some 0), (39, some 2)], [(3, none)]⟩] [16, 17, 18] [3] hAt
                    ⟨ok_cp rfl,
                    ok_fieldOwn fo95_0 rfl,
                    ok_loadOwn GCoat.l0 ty9 rfl opd0,
                    ok_mapUpdate ko9 un150 rfl rfl opd0 opd1 opdB, trivial⟩ (by kernel_rfl) ?_
                clear hAt
                intro a w hAt
                replace hAt : At B h0 (mkG [(16, fV (Rep.slice GCoat.rep) x0), (17, fV r_i64 (List.length x0 : Int)), (18, fV r_i64 s1.2)]) (mkO [(3, mapE kStr Rep.bool (mset s1.1 v2.Name true))]) F 41 a w := hAt
                refine blk_n ?_
                refine then_n ?_
                refine reg [⟨fV r_i64 (IntKind.i64.wrap (s1.2 + 1)), [], [(18, none)], []⟩,
                    ⟨fV r_i64 (IntKind.i64.wrap (s1.2 + 1)), [], [(40, some 0)], []⟩] [16, 17, 18] [3] hAt
                    ⟨ok_add rfl opd0 opdI,
                    ok_move rfl opd0, trivial⟩ (by kernel_rfl) ?_
                clear hAt
                intro a w hAt
                replace hAt : At B h0 (mkG [(16, fV (Rep.slice GCoat.rep) x0), (17, fV r_i64 (List.length x0 : Int)), (18, fV r_i64 (IntKind.i64.wrap (s1.2 + 1)))]) (mkO [(3, mapE kStr Rep.bool (mset s1.1 v2.Name true))]) F 41 a w := hAt
                cases H
                exact ⟨rfl, hAt.pick [16, 17, 18] [3]⟩
        · intro hb8
          have H := iteF hb8 H
          refine wp_exit ?_
          refine then_x ?_
          cases H
          exact ⟨ex_ne, rfl, hAt.pick [] []⟩
      · exact hAt.pick [16, 17, 18] [3]
      · clear hAt
        intro e a w hp
        cases o9 with
        | inl l11 =>
          rw [Sum.elim_inl] at H
          obtain ⟨rfl, hAt⟩ := hp
          refine blk_eq ?_
          refine then_n ?_
          refine wp_seq ?_
          refine reg [⟨fV r_i64 0, [], [], []⟩] [2] [] hAt
              ⟨ok_assign rfl opdI, trivial⟩ (by kernel_rfl) ?_
          clear hAt
          intro a w hAt
          replace hAt : At B h0 (mkG [(2, fV r_i64 0)]) (mkO []) F 41 a w := hAt
          refine then_n ?_
          refine wp_ret ?_
          cases H
          exact ret1 rfl (rv_tmp rfl rfl) hAt
        | inr r12 =>
          rw [Sum.elim_inr] at H
          replace hp := hp
          obtain ⟨rfl, hAt⟩ := hp
          refine blk_r ?_
          refine then_r ?_
          cases H
          exact ret1 rfl (rv_tmp rfl rfl) hAt
theorem ok_f_slices_Minlint_int (N : Nat) (x0 : (List Int)) (r : Int) (H : f_slices_Minlint_int N x0 = some r) : FnOk Try.prog 90 [fV (Rep.slice r_i64) x0] (fV r_i64 r) := by
  unfold f_slices_Minlint_int at H
  refine fn_enter Try.func90 rfl rfl (by kernel_rfl) ?_
  intro κ B h0 F a w hAt
  refine wp_seq ?_
  refine reg [⟨fV r_i64 0, [], [], []⟩] [0] [] hAt
      ⟨ok_assign rfl opdI, trivial⟩ (by kernel_rfl) ?_
  clear hAt
  intro a w hAt
  replace hAt : At B h0 (mkG [(0, fV (Rep.slice r_i64) x0)]) (mkO []) F 25 a w := hAt
  refine then_n ?_
  refine wp_seq ?_
  obtain ⟨o2, hl3, H⟩ := bindE H
  refine wp_mono (Q := (fun o e a w => (fun v => e = .normal ∧ At B h0 (mkG [(0, fV (Rep.slice r_i64) x0)]) (mkO []) F 25 a w) o) o2) ?_ ?_
  · clear H
    have H := hl3
    clear hl3
    refine wp_seq ?_
    refine reg [⟨fV (Rep.slice r_i64) x0, [], [(0, none)], []⟩,
        ⟨fV r_i64 (List.length x0 : Int), [], [(5, some 0)], []⟩,
        ⟨fV Rep.bool (cmpI .lss (List.length x0 : Int) 1), [], [(6, some 1)], []⟩] [0, 7] [] hAt
        ⟨ok_move rfl opd0,
        ok_len un22 rfl opd0,
        ok_cmp (op := .lss) (by simp) rfl rfl opd0 opdI, trivial⟩ (by kernel_rfl) ?_
    clear hAt
    intro a w hAt
    replace hAt : At B h0 (mkG [(0, fV (Rep.slice r_i64) x0), (7, fV Rep.bool (cmpI .lss (List.length x0 : Int) 1))]) (mkO []) F 25 a w := hAt
    refine then_n ?_
    refine wp_if hAt (by rfl) ?_ ?_
    · intro hb1
      have H := iteT hb1 H
      cases H
    · intro hb1
      have H := iteF hb1 H
      refine wp_skip ?_
      cases H
      exact ⟨rfl, hAt.pick [0] []⟩
  · clear hAt
    intro e a w hp
    obtain ⟨rfl, hAt⟩ := hp
    refine then_n ?_
    refine wp_seq ?_
    obtain ⟨v4, hv4, H⟩ := bindE H
    refine reg [⟨fV (Rep.slice r_i64) x0, [], [(0, none)], []⟩,
        ⟨fRef r_i64 v4, [], [(9, some 0)], []⟩,
        ⟨fV r_i64 v4, [], [(10, some 1)], []⟩,
        ⟨fV r_i64 v4, [], [(11, some 2)], []⟩] [0, 3] [] hAt
        ⟨ok_move rfl opd0,
        ok_index ty3 un22 hv4 rfl opd0 opdI,
        ok_load ty3 rfl opd0,
        ok_assign rfl opd0, trivial⟩ (by kernel_rfl) ?_
    clear hAt
    intro a w hAt
    replace hAt : At B h0 (mkG [(0, fV (Rep.slice r_i64) x0), (3, fV r_i64 v4)]) (mkO []) F 25 a w := hAt
    refine then_n ?_
    refine wp_seq ?_
    refine wp_seq ?_
    refine reg [⟨fV r_i64 1, [], [], []⟩] [0, 3, 4] [] hAt
        ⟨ok_assign rfl opdI, trivial⟩ (by kernel_rfl) ?_
    clear hAt
    intro a w hAt
    replace hAt : At B h0 (mkG [(0, fV (Rep.slice r_i64) x0), (3, fV r_i64 v4), (4, fV r_i64 1)]) (mkO []) F 25 a w := hAt
    refine then_n ?_
    refine wp_block ?_
    obtain ⟨o8, hl9, H⟩ := bindE H
    refine wp_mono (wp_loopN (f := f_slices_Minlint_int_L1 N x0) (fun (s5 : (Int × Int)) a w => At B h0 (mkG [(0, fV (Rep.slice r_i64) x0), (3, fV r_i64 s5.1), (4, fV r_i64 s5.2)]) (mkO []) F 25 a w) (fun o e a w => (fun v => e = .exit 0 ∧ At B h0 (mkG [(3, fV r_i64 v)]) (mkO []) F 25 a w) o) ?_ N (v4, 1) o8 _ _ hl9 ?_) ?_
    · clear H hAt hl9
      intro s5 r10 a w H hAt
      unfold f_slices_Minlint_int_L1 at H
      refine wp_seq ?_
      refine wp_seq ?_
      refine reg [⟨fV r_i64 s5.2, [], [(4, none)], []⟩,
          ⟨fV (Rep.slice r_i64) x0, [], [(0, none)], []⟩,
          ⟨fV r_i64 (List.length x0 : Int), [], [(13, some 1)], []⟩,
          ⟨fV Rep.bool (cmpI .lss s5.2 (List.length x0 : Int)), [], [(12, some 0), (14, some 2)], []⟩] [0, 3, 4, 15] [] hAt
          ⟨ok_move rfl opd0,
          ok_move rfl opd0,
          ok_len un22 rfl opd0,
          ok_cmp (op := .lss) (by simp) rfl rfl opd0 opd1, trivial⟩ (by kernel_rfl) ?_
      clear hAt
      intro a w hAt
      replace hAt : At B h0 (mkG [(0, fV (Rep.slice r_i64) x0), (3, fV r_i64 s5.1), (4, fV r_i64 s5.2), (15, fV Rep.bool (cmpI .lss s5.2 (List.length x0 : Int)))]) (mkO []) F 25 a w := hAt
      refine then_n ?_
      refine wp_if hAt (by rfl) ?_ ?_
      · intro hb7
        have H := iteT hb7 H
        refine wp_skip ?_
        refine then_n ?_
        refine wp_seq ?_
        refine wp_block ?_
        obtain ⟨v6, hv6, H⟩ := bindE H
        refine reg [⟨fV r_i64 s5.1, [], [(3, none)], []⟩,
            ⟨fV (Rep.slice r_i64) x0, [], [(0, none)], []⟩,
            ⟨fV r_i64 s5.2, [], [(4, none)], []⟩,
            ⟨fRef r_i64 v6, [], [(19, some 1), (20, some 2)], []⟩,
            ⟨fV r_i64 v6, [], [(21, some 3)], []⟩,
            ⟨fV r_i64 (min s5.1 v6), [], [(18, some 0), (22, some 4)], []⟩,
            ⟨fV r_i64 (min s5.1 v6), [], [(23, some 5)], []⟩] [0, 3, 4] [] hAt
            ⟨ok_move rfl opd0,
            ok_move rfl opd0,
            ok_move rfl opd0,
            ok_index ty3 un22 hv6 rfl opd0 opd1,
            ok_load ty3 rfl opd0,
            ok_min rfl opd0 opd1,
            ok_assign rfl opd0, trivial⟩ (by kernel_rfl) ?_
        clear hAt
        intro a w hAt
        replace hAt : At B h0 (mkG [(0, fV (Rep.slice r_i64) x0), (3, fV r_i64 (min s5.1 v6)), (4, fV r_i64 s5.2)]) (mkO []) F 25 a w := hAt
        refine blk_n ?_
        refine then_n ?_
        refine reg [⟨fV r_i64 s5.2, [], [(4, none)], []⟩,
            ⟨fV r_i64 (IntKind.i64.wrap (s5.2 + 1)), [], [(16, some 0)], []⟩,
            ⟨fV r_i64 (IntKind.i64.wrap (s5.2 + 1)), [], [(17, some 1)], []⟩] [0, 3, 4] [] hAt
            ⟨ok_move rfl opd0,
            ok_add rfl opd0 opdI,
            ok_assign rfl opd0, trivial⟩ (by kernel_rfl) ?_
        clear hAt
        intro a w hAt
        replace hAt : At B h0 (mkG [(0, fV (Rep.slice r_i64) x0), (3, fV r_i64 (min s5.1 v6)), (4, fV r_i64 (IntKind.i64.wrap (s5.2 + 1)))]) (mkO []) F 25 a w := hAt
        cases H
        exact ⟨rfl, hAt.pick [0, 3, 4] []⟩
      · intro hb7
        have H := iteF hb7 H
        refine wp_exit ?_
        refine then_x ?_
        cases H
        exact ⟨ex_ne, rfl, hAt.pick [3] []⟩
    · exact hAt.pick [0, 3, 4] []
    · clear hAt
      intro e a w hp
      obtain ⟨rfl, hAt⟩ := hp
      refine blk_eq ?_
      refine then_n ?_
      refine wp_seq ?_
      refine reg [⟨fV r_i64 o8, [], [(3, none)], []⟩,
          ⟨fV r_i64 o8, [], [(24, some 0)], []⟩] [2] [] hAt
          ⟨ok_move rfl opd0,
          ok_assign rfl opd0, trivial⟩ (by kernel_rfl) ?_
      clear hAt
      intro a w hAt
      replace hAt : At B h0 (mkG [(2, fV r_i64 o8)]) (mkO []) F 25 a w := hAt
      refine then_n ?_
      refine wp_ret ?_
      cases H
      exact ret1 rfl (rv_tmp rfl rfl) hAt
theorem ok_f_slices_Maxlint_int (N : Nat) (x0 : (List Int)) (r : Int) (H : f_slices_Maxlint_int N x0 = some r) : FnOk Try.prog 91 [fV (Rep.slice r_i64) x0] (fV r_i64 r) := by
  unfold f_slices_Maxlint_int at H
  refine fn_enter Try.func91 rfl rfl (by kernel_rfl) ?_
  intro κ B h0 F a w hAt
  refine wp_seq ?_
  refine reg [⟨fV r_i64 0, [], [], []⟩] [0] [] hAt
      ⟨ok_assign rfl opdI, trivial⟩ (by kernel_rfl) ?_
  clear hAt
  intro a w hAt
  replace hAt : At B h0 (mkG [(0, fV (Rep.slice r_i64) x0)]) (mkO []) F 25 a w := hAt
  refine then_n ?_
  refine wp_seq ?_
  obtain ⟨o2, hl3, H⟩ := bindE H
  refine wp_mono (Q := (fun o e a w => (fun v => e = .normal ∧ At B h0 (mkG [(0, fV (Rep.slice r_i64) x0)]) (mkO []) F 25 a w) o) o2) ?_ ?_
  · clear H
    have H := hl3
    clear hl3
    refine wp_seq ?_
    refine reg [⟨fV (Rep.slice r_i64) x0, [], [(0, none)], []⟩,
        ⟨fV r_i64 (List.length x0 : Int), [], [(5, some 0)], []⟩,
        ⟨fV Rep.bool (cmpI .lss (List.length x0 : Int) 1), [], [(6, some 1)], []⟩] [0, 7] [] hAt
        ⟨ok_move rfl opd0,
        ok_len un22 rfl opd0,
        ok_cmp (op := .lss) (by simp) rfl rfl opd0 opdI, trivial⟩ (by kernel_rfl) ?_
    clear hAt
    intro a w hAt
    replace hAt : At B h0 (mkG [(0, fV (Rep.slice r_i64) x0), (7, fV Rep.bool (cmpI .lss (List.length x0 : Int) 1))]) (mkO []) F 25 a w := hAt
    refine then_n ?_
    refine wp_if hAt (by rfl) ?_ ?_
    · intro hb1
      have H := iteT hb1 H
      cases H
    · intro hb1
      have H := iteF hb1 H
      refine wp_skip ?_
      cases H
      exact ⟨rfl, hAt.pick [0] []⟩
  · clear hAt
    intro e a w hp
    obtain ⟨rfl, hAt⟩ := hp
    refine then_n ?_
    refine wp_seq ?_
    obtain ⟨v4, hv4, H⟩ := bindE H
    refine reg [⟨fV (Rep.slice r_i64) x0, [], [(0, none)], []⟩,
        ⟨fRef r_i64 v4, [], [(9, some 0)], []⟩,
        ⟨fV r_i64 v4, [], [(10, some 1)], []⟩,
        ⟨fV r_i64 v4, [], [(11, some 2)], []⟩] [0, 3] [] hAt
        ⟨ok_move rfl opd0,
        ok_index ty3 un22 hv4 rfl opd0 opdI,
        ok_load ty3 rfl opd0,
        ok_assign rfl opd0, trivial⟩ (by kernel_rfl) ?_
    clear hAt
    intro a w hAt
    replace hAt : At B h0 (mkG [(0, fV (Rep.slice r_i64) x0), (3, fV r_i64 v4)]) (mkO []) F 25 a w := hAt
    refine then_n ?_
    refine wp_seq ?_
    refine wp_seq ?_
    refine reg [⟨fV r_i64 1, [], [], []⟩] [0, 3, 4] [] hAt
        ⟨ok_assign rfl opdI, trivial⟩ (by kernel_rfl) ?_
    clear hAt
    intro a w hAt
    replace hAt : At B h0 (mkG [(0, fV (Rep.slice r_i64) x0), (3, fV r_i64 v4), (4, fV r_i64 1)]) (mkO []) F 25 a w := hAt
    refine then_n ?_
    refine wp_block ?_
    obtain ⟨o8, hl9, H⟩ := bindE H
    refine wp_mono (wp_loopN (f := f_slices_Maxlint_int_L1 N x0) (fun (s5 : (Int × Int)) a w => At B h0 (mkG [(0, fV (Rep.slice r_i64) x0), (3, fV r_i64 s5.1), (4, fV r_i64 s5.2)]) (mkO []) F 25 a w) (fun o e a w => (fun v => e = .exit 0 ∧ At B h0 (mkG [(3, fV r_i64 v)]) (mkO []) F 25 a w) o) ?_ N (v4, 1) o8 _ _ hl9 ?_) ?_
    · clear H hAt hl9
      intro s5 r10 a w H hAt
      unfold f_slices_Maxlint_int_L1 at H
      refine wp_seq ?_
      refine wp_seq ?_
      refine reg [⟨fV r_i64 s5.2, [], [(4, none)], []⟩,
          ⟨fV (Rep.slice r_i64) x0, [], [(0, none)], []⟩,
          ⟨fV r_i64 (List.length x0 : Int), [], [(13, some 1)], []⟩,
          ⟨fV Rep.bool (cmpI .lss s5.2 (List.length x0 : Int)), [], [(12, some 0), (14, some 2)], []⟩] [0, 3, 4, 15] [] hAt
          ⟨ok_move rfl opd0,
          ok_move rfl opd0,
          ok_len un22 rfl opd0,
          ok_cmp (op := .lss) (by simp) rfl rfl opd0 opd1, trivial⟩ (by kernel_rfl) ?_
      clear hAt
      intro a w hAt
      replace hAt : At B h0 (mkG [(0, fV (Rep.slice r_i64) x0), (3, fV r_i64 s5.1), (4, fV r_i64 s5.2), (15, fV Rep.bool (cmpI .lss s5.2 (List.length x0 : Int)))]) (mkO []) F 25 a w := hAt
      refine then_n ?_
      refine wp_if hAt (by rfl) ?_ ?_
      · intro hb7
        have H := iteT hb7 H
        refine wp_skip ?_
        refine then_n ?_
        refine wp_seq ?_
        refine wp_block ?_
        obtain ⟨v6, hv6, H⟩ := bindE H
        refine reg [⟨fV r_i64 s5.1, [], [(3, none)], []⟩,
            ⟨fV (Rep.slice r_i64) x0, [], [(0, none)], []⟩,
            ⟨fV r_i64 s5.2, [], [(4, none)], []⟩,
            ⟨fRef r_i64 v6, [], [(19, some 1), (20, some 2)], []⟩,
            ⟨fV r_i64 v6, [], [(21, some 3)], []⟩,
            ⟨fV r_i64 (max s5.1 v6), [], [(18, some 0), (22, some 4)], []⟩,
            ⟨fV r_i64 (max s5.1 v6), [], [(23, some 5)], []⟩] [0, 3, 4] [] hAt
            ⟨ok_move rfl opd0,
            ok_move rfl opd0,
            ok_move rfl opd0,
            ok_index ty3 un22 hv6 rfl opd0 opd1,
            ok_load ty3 rfl opd0,
            ok_max rfl opd0 opd1,
            ok_assign rfl opd0, trivial⟩ (by kernel_rfl) ?_
        clear hAt
        intro a w hAt
        replace hAt : At B h0 (mkG [(0, fV (Rep.slice r_i64) x0), (3, fV r_i64 (max s5.1 v6)), (4, fV r_i64 s5.2)]) (mkO []) F 25 a w := hAt
        refine blk_n ?_
        refine then_n ?_
        refine reg [⟨fV r_i64 s5.2, [], [(4, none)], []⟩,
            ⟨fV r_i64 (IntKind.i64.wrap (s5.2 + 1)), [], [(16, some 0)], []⟩,
            ⟨fV r_i64 (IntKind.i64.wrap (s5.2 + 1)), [], [(17, some 1)], []⟩] [0, 3, 4] [] hAt
            ⟨ok_move rfl opd0,
            ok_add rfl opd0 opdI,
            ok_assign rfl opd0, trivial⟩ (by kernel_rfl) ?_
        clear hAt
        intro a w hAt
        replace hAt : At B h0 (mkG [(0, fV (Rep.slice r_i64) x0), (3, fV r_i64 (max s5.1 v6)), (4, fV r_i64 (IntKind.i64.wrap (s5.2 + 1)))]) (mkO []) F 25 a w := hAt
        cases H
        exact ⟨rfl, hAt.pick [0, 3, 4] []⟩
      · intro hb7
        have H := iteF hb7 H
        refine wp_exit ?_
        refine then_x ?_
        cases H
        exact ⟨ex_ne, rfl, hAt.pick [3] []⟩
    · exact hAt.pick [0, 3, 4] []
    · clear hAt
      intro e a w hp
      obtain ⟨rfl, hAt⟩ := hp
      refine blk_eq ?_
      refine then_n ?_
      refine wp_seq ?_
      refine reg [⟨fV r_i64 o8, [], [(3, none)], []⟩,
          ⟨fV r_i64 o8, [], [(24, some 0)], []⟩] [2] [] hAt
          ⟨ok_move rfl opd0,
          ok_assign rfl opd0, trivial⟩ (by kernel_rfl) ?_
      clear hAt
      intro a w hAt
      replace hAt : At B h0 (mkG [(2, fV r_i64 o8)]) (mkO []) F 25 a w := hAt
      refine then_n ?_
      refine wp_ret ?_
      cases H
      exact ret1 rfl (rv_tmp rfl rfl) hAt
theorem ok_f_survey_Thickness (N : Nat) (x0 : GCoat) (x1 : (List Int)) (r : Int × Int) (H : f_survey_Thickness N x0 x1 = some r) : FnOk Try.prog 50 [fV GCoat.rep x0, fV (Rep.slice r_i64) x1] (fT2 (fV r_i64 (r.1)) (fV r_i64 (r.2))) := by
  unfold f_survey_Thickness at H
  refine fn_enter Try.func50 rfl rfl (by kernel_rfl) ?_
  intro κ B h0 F a w hAt
  refine wp_seq ?_
  refine reg [⟨fRef GCoat.rep x0, [], [(0, none)], []⟩,
      ⟨fV r_i64 0, [], [], []⟩,
      ⟨fV r_i64 0, [], [], []⟩] [1, 2] [] hAt
      ⟨ok_box rfl opd0,
      ok_assign rfl opdI,
      ok_assign rfl opdI, trivial⟩ (by kernel_rfl) ?_
  clear hAt
  intro a w hAt
  replace hAt : At B h0 (mkG [(1, fV (Rep.slice r_i64) x1), (2, fRef GCoat.rep x0)]) (mkO []) F 70 a w := hAt
  refine then_n ?_
  refine wp_seq ?_
  refine wp_seq ?_
  obtain ⟨v1, hv1, H⟩ := bindE H
  refine reg [⟨fRef Rep.str x0.Name, [], [(2, none)], []⟩,
      ⟨fV Rep.str x0.Name, [], [(12, some 0)], []⟩,
      ⟨fV Rep.bool v1, [], [(13, some 1)], []⟩,
      ⟨fV Rep.bool (!v1), [], [(14, some 2)], []⟩] [1, 2, 15] [] hAt
      ⟨ok_field GCoat.l0 fo95_0 rfl opd0,
      ok_load ty9 rfl opd0,
      ok_call (ok_f_survey_name N x0.Name _ hv1) Try.func70 (by kernel_rfl) (by kernel_rfl) rfl ⟨opd0, trivial⟩,
      ok_not rfl opd0, trivial⟩ (by kernel_rfl) ?_
  clear hAt
  intro a w hAt
  replace hAt : At B h0 (mkG [(1, fV (Rep.slice r_i64) x1), (2, fRef GCoat.rep x0), (15, fV Rep.bool (!v1))]) (mkO []) F 70 a w := hAt
  refine then_n ?_
  refine wp_if hAt (by rfl) ?_ ?_
  · intro hb19
    have H := iteT hb19 H
    refine wp_seq ?_
    refine reg [⟨fV r_i64 0, [], [], []⟩,
        ⟨fV r_i64 4, [], [], []⟩] [4, 5] [] hAt
        ⟨ok_assign rfl opdI,
        ok_assign rfl opdI, trivial⟩ (by kernel_rfl) ?_
    clear hAt
    intro a w hAt
    replace hAt : At B h0 (mkG [(4, fV r_i64 0), (5, fV r_i64 4)]) (mkO []) F 70 a w := hAt
    refine then_n ?_
    refine wp_ret ?_
    refine then_r ?_
    cases H
    exact ret2 rfl (rv_tmp rfl rfl) (rv_tmp rfl rfl) hAt
  · intro hb19
    have H := iteF hb19 H
    refine wp_skip ?_
    refine then_n ?_
    refine wp_seq ?_
    refine wp_seq ?_
    obtain ⟨v2, hv2, H⟩ := bindE H
    refine reg [⟨fV GCoat.rep x0, [], [(2, none)], []⟩,
        ⟨fV r_i64 v2, [], [(16, some 0)], []⟩,
        ⟨fV r_i64 v2, [], [(17, some 1)], []⟩] [1, 2, 6] [] hAt
        ⟨ok_load ty95 rfl opd0,
        ok_call (ok_f_survey_checkCoat N x0 _ hv2) Try.func89 (by kernel_rfl) (by kernel_rfl) rfl ⟨opd0, trivial⟩,
        ok_assign rfl opd0, trivial⟩ (by kernel_rfl) ?_
    clear hAt
    intro a w hAt
    replace hAt : At B h0 (mkG [(1, fV (Rep.slice r_i64) x1), (2, fRef GCoat.rep x0), (6, fV r_i64 v2)]) (mkO []) F 70 a w := hAt
    refine then_n ?_
    refine wp_seq ?_
    refine reg [⟨fV r_i64 v2, [], [(6, none)], []⟩,
        ⟨fV Rep.bool (cmpI .neq v2 0), [], [(18, some 0)], []⟩] [1, 2, 6, 19] [] hAt
        ⟨ok_move rfl opd0,
        ok_cmp (op := .neq) (by simp) rfl rfl opd0 opdI, trivial⟩ (by kernel_rfl) ?_
    clear hAt
    intro a w hAt
    replace hAt : At B h0 (mkG [(1, fV (Rep.slice r_i64) x1), (2, fRef GCoat.rep x0), (6, fV r_i64 v2), (19, fV Rep.bool (cmpI .neq v2 0))]) (mkO []) F 70 a w := hAt
    refine then_n ?_
    refine wp_if hAt (by rfl) ?_ ?_
    · intro hb18
      have H := iteT hb18 H
      refine wp_seq ?_
      refine reg [⟨fV r_i64 v2, [], [(6, none)], []⟩,
          ⟨fV r_i64 0, [], [], []⟩,
          ⟨fV r_i64 v2, [], [(20, some 0)], []⟩] [4, 5] [] hAt
          ⟨ok_move rfl opd0,
          ok_assign rfl opdI,
          ok_assign rfl opd0, trivial⟩ (by kernel_rfl) ?_
      clear hAt
      intro a w hAt
      replace hAt : At B h0 (mkG [(4, fV r_i64 0), (5, fV r_i64 v2)]) (mkO []) F 70 a w := hAt
      refine then_n ?_
      refine wp_ret ?_
      refine then_r ?_
      cases H
      exact ret2 rfl (rv_tmp rfl rfl) (rv_tmp rfl rfl) hAt
    · intro hb18
      have H := iteF hb18 H
      refine wp_skip ?_
      refine then_n ?_
      refine wp_seq ?_
      refine wp_block ?_
      refine wp_seq ?_
      refine reg [⟨fV (Rep.slice r_i64) x1, [], [(1, none)], []⟩,
          ⟨fV r_i64 (List.length x1 : Int), [], [(22, some 0)], []⟩,
          ⟨fV Rep.bool (cmpI .eql (List.length x1 : Int) 0), [], [(23, some 1)], []⟩,
          ⟨fV Rep.bool (cmpI .eql (List.length x1 : Int) 0), [], [(24, some 2)], []⟩] [1, 2, 21] [] hAt
          ⟨ok_move rfl opd0,
          ok_len un22 rfl opd0,
          ok_cmp (op := .eql) (by simp) rfl rfl opd0 opdI,
          ok_assign rfl opd0, trivial⟩ (by kernel_rfl) ?_
      clear hAt
      intro a w hAt
      replace hAt : At B h0 (mkG [(1, fV (Rep.slice r_i64) x1), (2, fRef GCoat.rep x0), (21, fV Rep.bool (cmpI .eql (List.length x1 : Int) 0))]) (mkO []) F 70 a w := hAt
      refine then_n ?_
      refine wp_if hAt (by rfl) ?_ ?_
      · intro hb17
        have H := iteT hb17 H
        refine wp_seq ?_
        refine reg [⟨fV r_i64 0, [], [], []⟩,
            ⟨fV r_i64 11, [], [], []⟩] [4, 5] [] hAt
            ⟨ok_assign rfl opdI,
            ok_assign rfl opdI, trivial⟩ (by kernel_rfl) ?_
        clear hAt
        intro a w hAt
        replace hAt : At B h0 (mkG [(4, fV r_i64 0), (5, fV r_i64 11)]) (mkO []) F 70 a w := hAt
        refine then_n ?_
        refine wp_ret ?_
        refine blk_r ?_
        refine then_r ?_
        cases H
        exact ret2 rfl (rv_tmp rfl rfl) (rv_tmp rfl rfl) hAt
      · intro hb17
        have H := iteF hb17 H
        refine wp_seq ?_
        refine reg [⟨fV (Rep.slice r_i64) x1, [], [(1, none)], []⟩,
            ⟨fV r_i64 (List.length x1 : Int), [], [(26, some 0)], []⟩,
            ⟨fV Rep.bool (cmpI .gtr (List.length x1 : Int) 100), [], [(27, some 1)], []⟩,
            ⟨fV Rep.bool (cmpI .gtr (List.length x1 : Int) 100), [], [(28, some 2)], []⟩] [1, 2, 25] [] hAt
            ⟨ok_move rfl opd0,
            ok_len un22 rfl opd0,
            ok_cmp (op := .gtr) (by simp) rfl rfl opd0 opdI,
            ok_assign rfl opd0, trivial⟩ (by kernel_rfl) ?_
        clear hAt
        intro a w hAt
        replace hAt : At B h0 (mkG [(1, fV (Rep.slice r_i64) x1), (2, fRef GCoat.rep x0), (25, fV Rep.bool (cmpI .gtr (List.length x1 : Int) 100))]) (mkO []) F 70 a w := hAt
        refine then_n ?_
        refine wp_if hAt (by rfl) ?_ ?_
        · intro hb16
          have H := iteT hb16 H
          refine wp_seq ?_
          refine reg [⟨fV r_i64 0, [], [], []⟩,
              ⟨fV r_i64 8, [], [], []⟩] [4, 5] [] hAt
              ⟨ok_assign rfl opdI,
              ok_assign rfl opdI, trivial⟩ (by kernel_rfl) ?_
          clear hAt
          intro a w hAt
          replace hAt : At B h0 (mkG [(4, fV r_i64 0), (5, fV r_i64 8)]) (mkO []) F 70 a w := hAt
          refine then_n ?_
          refine wp_ret ?_
          refine blk_r ?_
          refine then_r ?_
          cases H
          exact ret2 rfl (rv_tmp rfl rfl) (rv_tmp rfl rfl) hAt
        · intro hb16
          have H := iteF hb16 H
          refine wp_seq ?_
          obtain ⟨v3, hv3, H⟩ := bindE H
          refine reg [⟨fV (Rep.slice r_i64) x1, [], [(1, none)], []⟩,
              ⟨fV Rep.bool v3, [], [(30, some 0)], []⟩,
              ⟨fV Rep.bool (!v3), [], [(31, some 1)], []⟩,
              ⟨fV Rep.bool (!v3), [], [(32, some 2)], []⟩] [1, 2, 29] [] hAt
              ⟨ok_move rfl opd0,
              ok_call (ok_f_survey_inside N 0 20000 x1 _ hv3) Try.func71 (by kernel_rfl) (by kernel_rfl) rfl ⟨opdI, ⟨opdI, ⟨opd0, trivial⟩⟩⟩,
              ok_not rfl opd0,
              ok_assign rfl opd0, trivial⟩ (by kernel_rfl) ?_
          clear hAt
          intro a w hAt
          replace hAt : At B h0 (mkG [(1, fV (Rep.slice r_i64) x1), (2, fRef GCoat.rep x0), (29, fV Rep.bool (!v3))]) (mkO []) F 70 a w := hAt
          refine then_n ?_
          refine wp_if hAt (by rfl) ?_ ?_
          · intro hb15
            have H := iteT hb15 H
            refine wp_seq ?_
            refine reg [⟨fV r_i64 0, [], [], []⟩,
                ⟨fV r_i64 2, [], [], []⟩] [4, 5] [] hAt
                ⟨ok_assign rfl opdI,
                ok_assign rfl opdI, trivial⟩ (by kernel_rfl) ?_
            clear hAt
            intro a w hAt
            replace hAt : At B h0 (mkG [(4, fV r_i64 0), (5, fV r_i64 2)]) (mkO []) F 70 a w := hAt
            refine then_n ?_
            refine wp_ret ?_
            refine blk_r ?_
            refine then_r ?_
            cases H
            exact ret2 rfl (rv_tmp rfl rfl) (rv_tmp rfl rfl) hAt
          · intro hb15
            have H := iteF hb15 H
            refine wp_skip ?_
            refine blk_n ?_
            refine then_n ?_
            refine wp_seq ?_
            refine reg [⟨fV r_i64 0, [], [], []⟩] [1, 2, 7] [] hAt
                ⟨ok_assign rfl opdI, trivial⟩ (by kernel_rfl) ?_
            clear hAt
            intro a w hAt
            replace hAt : At B h0 (mkG [(1, fV (Rep.slice r_i64) x1), (2, fRef GCoat.rep x0), (7, fV r_i64 0)]) (mkO []) F 70 a w := hAt
            refine then_n ?_
            refine wp_seq ?_
            refine wp_seq ?_
            refine reg [⟨fV (Rep.slice r_i64) x1, [], [(1, none)], []⟩,
                ⟨fV r_i64 (List.length x1 : Int), [], [(33, some 0)], []⟩,
                ⟨fV r_i64 0, [], [], []⟩] [1, 2, 7, 33, 34, 35] [] hAt
                ⟨ok_move rfl opd0,
                ok_len un22 rfl opd0,
                ok_move rfl opdI, trivial⟩ (by kernel_rfl) ?_
            clear hAt
            intro a w hAt
            replace hAt : At B h0 (mkG [(1, fV (Rep.slice r_i64) x1), (2, fRef GCoat.rep x0), (7, fV r_i64 0), (33, fV (Rep.slice r_i64) x1), (34, fV r_i64 (List.length x1 : Int)), (35, fV r_i64 0)]) (mkO []) F 70 a w := hAt
            refine then_n ?_
            refine wp_block ?_
            obtain ⟨o8, hl9, H⟩ := bindE H
            refine wp_mono (wp_loopN (f := f_survey_Thickness_L1 N x0 x1) (fun (s4 : (Int × Int)) a w => At B h0 (mkG [(1, fV (Rep.slice r_i64) x1), (2, fRef GCoat.rep x0), (7, fV r_i64 s4.1), (33, fV (Rep.slice r_i64) x1), (34, fV r_i64 (List.length x1 : Int)), (35, fV r_i64 s4.2)]) (mkO []) F 70 a w) (fun o e a w => (fun v => e = .exit 1 ∧ At B h0 (mkG [(1, fV (Rep.slice r_i64) x1), (2, fRef GCoat.rep x0), (7, fV r_i64 v)]) (mkO []) F 70 a w) o) ?_ N (0, 0) o8 _ _ hl9 ?_) ?_
            · clear H hAt hl9
              intro s4 r14 a w H hAt
              unfold f_survey_Thickness_L1 at H
              refine wp_seq ?_
              refine reg [⟨fV Rep.bool (cmpI .lss s4.2 (List.length x1 : Int)), [], [(35, none), (34, none)], []⟩] [1, 2, 7, 33, 34, 35, 36] [] hAt
                  ⟨ok_cmp (op := .lss) (by simp) rfl rfl opd0 opd1, trivial⟩ (by kernel_rfl) ?_
              clear hAt
              intro a w hAt
              replace hAt : At B h0 (mkG [(1, fV (Rep.slice r_i64) x1), (2, fRef GCoat.rep x0), (7, fV r_i64 s4.1), (33, fV (Rep.slice r_i64) x1), (34, fV r_i64 (List.length x1 : Int)), (35, fV r_i64 s4.2), (36, fV Rep.bool (cmpI .lss s4.2 (List.length x1 : Int)))]) (mkO []) F 70 a w := hAt
              refine then_n ?_
              refine wp_seq ?_
              refine wp_if hAt (by rfl) ?_ ?_
              · intro hb7
                have H := iteT hb7 H
                refine wp_skip ?_
                refine then_n ?_
                refine wp_seq ?_
                refine wp_block ?_
                refine wp_seq ?_
                obtain ⟨v5, hv5, H⟩ := bindE H
                refine reg [⟨fRef r_i64 v5, [], [(33, none), (35, none)], []⟩,
                    ⟨fV r_i64 v5, [], [(37, some 0)], []⟩,
                    ⟨fV r_i64 v5, [], [(38, some 1)], []⟩] [1, 2, 7, 9, 33, 34, 35] [] hAt
                    ⟨ok_index ty3 un22 hv5 rfl opd0 opd1,
                    ok_load ty3 rfl opd0,
                    ok_assign rfl opd0, trivial⟩ (by kernel_rfl) ?_
                clear hAt
                intro a w hAt
                replace hAt : At B h0 (mkG [(1, fV (Rep.slice r_i64) x1), (2, fRef GCoat.rep x0), (7, fV r_i64 s4.1), (9, fV r_i64 v5), (33, fV (Rep.slice r_i64) x1), (34, fV r_i64 (List.length x1 : Int)), (35, fV r_i64 s4.2)]) (mkO []) F 70 a w := hAt
                refine then_n ?_
                refine wp_seq ?_
                refine reg [⟨fV r_i64 v5, [], [(9, none)], []⟩,
                    ⟨fRef r_i64 x0.Nominal, [], [(2, none)], []⟩,
                    ⟨fV r_i64 x0.Nominal, [], [(40, some 1)], []⟩,
                    ⟨fV Rep.bool (cmpI .geq v5 x0.Nominal), [], [(39, some 0), (41, some 2)], []⟩] [1, 2, 7, 33, 34, 35, 42] [] hAt
                    ⟨ok_move rfl opd0,
                    ok_field GCoat.l1 fo95_1 rfl opd0,
                    ok_load ty3 rfl opd0,
                    ok_cmp (op := .geq) (by simp) rfl rfl opd0 opd1, trivial⟩ (by kernel_rfl) ?_
                clear hAt
                intro a w hAt
                replace hAt : At B h0 (mkG [(1, fV (Rep.slice r_i64) x1), (2, fRef GCoat.rep x0), (7, fV r_i64 s4.1), (33, fV (Rep.slice r_i64) x1), (34, fV r_i64 (List.length x1 : Int)), (35, fV r_i64 s4.2), (42, fV Rep.bool (cmpI .geq v5 x0.Nominal))]) (mkO []) F 70 a w := hAt
                refine then_n ?_
                refine wp_if hAt (by rfl) ?_ ?_
                · intro hb6
                  have H := iteT hb6 H
                  refine reg [⟨fV r_i64 s4.1, [], [(7, none)], []⟩,
                      ⟨fV r_i64 (IntKind.i64.wrap (s4.1 + 1)), [], [(43, some 0)], []⟩,
                      ⟨fV r_i64 (IntKind.i64.wrap (s4.1 + 1)), [], [(44, some 1)], []⟩] [1, 2, 7, 33, 34, 35] [] hAt
                      ⟨ok_move rfl opd0,
                      ok_add rfl opd0 opdI,
                      ok_assign rfl opd0, trivial⟩ (by kernel_rfl) ?_
                  clear hAt
                  intro a w hAt
                  replace hAt : At B h0 (mkG [(1, fV (Rep.slice r_i64) x1), (2, fRef GCoat.rep x0), (7, fV r_i64 (IntKind.i64.wrap (s4.1 + 1))), (33, fV (Rep.slice r_i64) x1), (34, fV r_i64 (List.length x1 : Int)), (35, fV r_i64 s4.2)]) (mkO []) F 70 a w := hAt
                  refine blk_n ?_
                  refine then_n ?_
                  refine reg [⟨fV r_i64 (IntKind.i64.wrap (s4.2 + 1)), [], [(35, none)], []⟩,
                      ⟨fV r_i64 (IntKind.i64.wrap (s4.2 + 1)), [], [(45, some 0)], []⟩] [1, 2, 7, 33, 34, 35] [] hAt
                      ⟨ok_add rfl opd0 opdI,
                      ok_move rfl opd0, trivial⟩ (by kernel_rfl) ?_
                  clear hAt
                  intro a w hAt
                  replace hAt : At B h0 (mkG [(1, fV (Rep.slice r_i64) x1), (2, fRef GCoat.rep x0), (7, fV r_i64 (IntKind.i64.wrap (s4.1 + 1))), (33, fV (Rep.slice r_i64) x1), (34, fV r_i64 (List.length x1 : Int)), (35, fV r_i64 (IntKind.i64.wrap (s4.2 + 1)))]) (mkO []) F 70 a w := hAt
                  cases H
                  exact ⟨rfl, hAt.pick [1, 2, 7, 33, 34, 35] []⟩
                · intro hb6
                  have H := iteF hb6 H
                  refine wp_skip ?_
                  refine blk_n ?_
                  refine then_n ?_
                  refine reg [⟨fV r_i64 (IntKind.i64.wrap (s4.2 + 1)), [], [(35, none)], []⟩,
                      ⟨fV r_i64 (IntKind.i64.wrap (s4.2 + 1)), [], [(45, some 0)], []⟩] [1, 2, 7, 33, 34, 35] [] hAt
                      ⟨ok_add rfl opd0 opdI,
                      ok_move rfl opd0, trivial⟩ (by kernel_rfl) ?_
                  clear hAt
                  intro a w hAt
                  replace hAt : At B h0 (mkG [(1, fV (Rep.slice r_i64) x1), (2, fRef GCoat.rep x0), (7, fV r_i64 s4.1), (33, fV (Rep.slice r_i64) x1), (34, fV r_i64 (List.length x1 : Int)), (35, fV r_i64 (IntKind.i64.wrap (s4.2 + 1)))]) (mkO []) F 70 a w := hAt
                  cases H
                  exact ⟨rfl, hAt.pick [1, 2, 7, 33, 34, 35] []⟩
              · intro hb7
                have H := iteF hb7 H
                refine wp_exit ?_
                refine then_x ?_
                cases H
                exact ⟨ex_ne, rfl, hAt.pick [1, 2, 7] []⟩
            · exact hAt.pick [1, 2, 7, 33, 34, 35] []
            · clear hAt
              intro e a w hp
              obtain ⟨rfl, hAt⟩ := hp
              refine blk_eq ?_
              refine then_n ?_
              refine wp_seq ?_
              obtain ⟨v10, hv10, H⟩ := bindE H
              obtain ⟨v11, hv11, H⟩ := bindE H
              refine reg [⟨fV (Rep.slice r_i64) x1, [], [(1, none)], []⟩,
                  ⟨fV r_i64 v10, [], [(46, some 0)], []⟩,
                  ⟨fV (Rep.slice r_i64) x1, [], [(1, none)], []⟩,
                  ⟨fV r_i64 v11, [], [(48, some 2)], []⟩,
                  ⟨fV r_i64 v10, [], [(47, some 1)], []⟩,
                  ⟨fV r_i64 v11, [], [(49, some 3)], []⟩] [1, 2, 7, 10, 11] [] hAt
                  ⟨ok_move rfl opd0,
                  ok_call (ok_f_slices_Minlint_int N x1 _ hv10) Try.func90 (by kernel_rfl) (by kernel_rfl) rfl ⟨opd0, trivial⟩,
                  ok_move rfl opd0,
                  ok_call (ok_f_slices_Maxlint_int N x1 _ hv11) Try.func91 (by kernel_rfl) (by kernel_rfl) rfl ⟨opd0, trivial⟩,
                  ok_assign rfl opd0,
                  ok_assign rfl opd0, trivial⟩ (by kernel_rfl) ?_
              clear hAt
              intro a w hAt
              replace hAt : At B h0 (mkG [(1, fV (Rep.slice r_i64) x1), (2, fRef GCoat.rep x0), (7, fV r_i64 o8), (10, fV r_i64 v10), (11, fV r_i64 v11)]) (mkO []) F 70 a w := hAt
              refine then_n ?_
              refine wp_seq ?_
              refine wp_block ?_
              refine wp_seq ?_
              refine reg [⟨fV r_i64 v11, [], [(11, none)], []⟩,
                  ⟨fRef r_i64 x0.Most, [], [(2, none)], []⟩,
                  ⟨fV r_i64 x0.Most, [], [(52, some 1)], []⟩,
                  ⟨fV Rep.bool (cmpI .gtr v11 x0.Most), [], [(51, some 0), (53, some 2)], []⟩,
                  ⟨fV Rep.bool (cmpI .gtr v11 x0.Most), [], [(54, some 3)], []⟩] [1, 2, 7, 10, 50] [] hAt
                  ⟨ok_move rfl opd0,
                  ok_field GCoat.l2 fo95_2 rfl opd0,
                  ok_load ty3 rfl opd0,
                  ok_cmp (op := .gtr) (by simp) rfl rfl opd0 opd1,
                  ok_assign rfl opd0, trivial⟩ (by kernel_rfl) ?_
              clear hAt
              intro a w hAt
              replace hAt : At B h0 (mkG [(1, fV (Rep.slice r_i64) x1), (2, fRef GCoat.rep x0), (7, fV r_i64 o8), (10, fV r_i64 v10), (50, fV Rep.bool (cmpI .gtr v11 x0.Most))]) (mkO []) F 70 a w := hAt
              refine then_n ?_
              refine wp_if hAt (by rfl) ?_ ?_
              · intro hb13
                have H := iteT hb13 H
                refine wp_seq ?_
                refine reg [⟨fV r_i64 1, [], [], []⟩,
                    ⟨fV r_i64 0, [], [], []⟩] [4, 5] [] hAt
                    ⟨ok_assign rfl opdI,
                    ok_assign rfl opdI, trivial⟩ (by kernel_rfl) ?_
                clear hAt
                intro a w hAt
                replace hAt : At B h0 (mkG [(4, fV r_i64 1), (5, fV r_i64 0)]) (mkO []) F 70 a w := hAt
                refine then_n ?_
                refine wp_ret ?_
                refine blk_r ?_
                refine then_r ?_
                cases H
                exact ret2 rfl (rv_tmp rfl rfl) (rv_tmp rfl rfl) hAt
              · intro hb13
                have H := iteF hb13 H
                refine wp_seq ?_
                refine reg [⟨fV r_i64 o8, [], [(7, none)], []⟩,
                    ⟨fV r_i64 (IntKind.i64.wrap (10 * o8)), [], [(56, some 0)], []⟩,
                    ⟨fV (Rep.slice r_i64) x1, [], [(1, none)], []⟩,
                    ⟨fV r_i64 (List.length x1 : Int), [], [(58, some 2)], []⟩,
                    ⟨fV r_i64 (IntKind.i64.wrap (9 * (List.length x1 : Int))), [], [(59, some 3)], []⟩,
                    ⟨fV Rep.bool (cmpI .lss (IntKind.i64.wrap (10 * o8)) (IntKind.i64.wrap (9 * (List.length x1 : Int)))), [], [(57, some 1), (60, some 4)], []⟩,
                    ⟨fV Rep.bool (cmpI .lss (IntKind.i64.wrap (10 * o8)) (IntKind.i64.wrap (9 * (List.length x1 : Int)))), [], [(61, some 5)], []⟩,
                    ⟨Fact.when ((!(cmpI .lss (IntKind.i64.wrap (10 * o8)) (IntKind.i64.wrap (9 * (List.length x1 : Int))))) = true) (fV r_i64 v10), [], [(62, some 6), (10, none)], []⟩,
                    ⟨Fact.when ((!(cmpI .lss (IntKind.i64.wrap (10 * o8)) (IntKind.i64.wrap (9 * (List.length x1 : Int))))) = true) (fV r_i64 (IntKind.i64.wrap (10 * v10))), [], [(62, some 6), (63, some 7)], []⟩,
                    ⟨Fact.when ((!(cmpI .lss (IntKind.i64.wrap (10 * o8)) (IntKind.i64.wrap (9 * (List.length x1 : Int))))) = true) (fRef r_i64 x0.Nominal), [], [(62, some 6), (2, none)], []⟩,
                    ⟨Fact.when ((!(cmpI .lss (IntKind.i64.wrap (10 * o8)) (IntKind.i64.wrap (9 * (List.length x1 : Int))))) = true) (fV r_i64 x0.Nominal), [], [(62, some 6), (65, some 9)], []⟩,
                    ⟨Fact.when ((!(cmpI .lss (IntKind.i64.wrap (10 * o8)) (IntKind.i64.wrap (9 * (List.length x1 : Int))))) = true) (fV r_i64 (IntKind.i64.wrap (9 * x0.Nominal))), [], [(62, some 6), (66, some 10)], []⟩,
                    ⟨Fact.when ((!(cmpI .lss (IntKind.i64.wrap (10 * o8)) (IntKind.i64.wrap (9 * (List.length x1 : Int))))) = true) (fV Rep.bool (cmpI .lss (IntKind.i64.wrap (10 * v10)) (IntKind.i64.wrap (9 * x0.Nominal)))), [], [(62, some 6), (64, some 8), (67, some 11)], []⟩,
                    ⟨fV Rep.bool ((cmpI .lss (IntKind.i64.wrap (10 * o8)) (IntKind.i64.wrap (9 * (List.length x1 : Int)))) || (cmpI .lss (IntKind.i64.wrap (10 * v10)) (IntKind.i64.wrap (9 * x0.Nominal)))), [], [(62, some 6), (68, some 12)], []⟩,
                    ⟨fV Rep.bool ((cmpI .lss (IntKind.i64.wrap (10 * o8)) (IntKind.i64.wrap (9 * (List.length x1 : Int)))) || (cmpI .lss (IntKind.i64.wrap (10 * v10)) (IntKind.i64.wrap (9 * x0.Nominal)))), [], [(69, some 13)], []⟩] [55] [] hAt
                    ⟨ok_move rfl opd0,
                    ok_mul rfl opdI opd0,
                    ok_move rfl opd0,
                    ok_len un22 rfl opd0,
                    ok_mul rfl opdI opd0,
                    ok_cmp (op := .lss) (by simp) rfl rfl opd0 opd1,
                    ok_move rfl opd0,
                    obl_tf rfl rfl rfl rfl rfl rfl rfl (fun hg => ok_move rfl opd1),
                    obl_tf rfl rfl rfl rfl rfl rfl rfl (fun hg => ok_mul rfl opdI (opd1.on hg)),
                    obl_tf rfl rfl rfl rfl rfl rfl rfl (fun hg => ok_field GCoat.l1 fo95_1 rfl opd1),
                    obl_tf rfl rfl rfl rfl rfl rfl rfl (fun hg => ok_load ty3 rfl (opd1.on hg)),
                    obl_tf rfl rfl rfl rfl rfl rfl rfl (fun hg => ok_mul rfl opdI (opd1.on hg)),
                    obl_tf rfl rfl rfl rfl rfl rfl rfl (fun hg => ok_cmp (op := .lss) (by simp) rfl rfl (opd1.on hg) (opd2.on hg)),
                    ok_or rfl opd0 (fun e => (opd1.on (notT e))),
                    ok_assign rfl opd0, trivial⟩ (by kernel_rfl) ?_
                clear hAt
                intro a w hAt
                replace hAt : At B h0 (mkG [(55, fV Rep.bool ((cmpI .lss (IntKind.i64.wrap (10 * o8)) (IntKind.i64.wrap (9 * (List.length x1 : Int)))) || (cmpI .lss (IntKind.i64.wrap (10 * v10)) (IntKind.i64.wrap (9 * x0.Nominal)))))]) (mkO []) F 70 a w := hAt
                refine then_n ?_
                refine wp_if hAt (by rfl) ?_ ?_
                · intro hb12
                  have H := iteT hb12 H
                  refine wp_seq ?_
                  refine reg [⟨fV r_i64 2, [], [], []⟩,
                      ⟨fV r_i64 0, [], [], []⟩] [4, 5] [] hAt
                      ⟨ok_assign rfl opdI,
                      ok_assign rfl opdI, trivial⟩ (by kernel_rfl) ?_
                  clear hAt
                  intro a w hAt
                  replace hAt : At B h0 (mkG [(4, fV r_i64 2), (5, fV r_i64 0)]) (mkO []) F 70 a w := hAt
                  refine then_n ?_
                  refine wp_ret ?_
                  refine blk_r ?_
                  refine then_r ?_
                  cases H
                  exact ret2 rfl (rv_tmp rfl rfl) (rv_tmp rfl rfl) hAt
                · intro hb12
                  have H := iteF hb12 H
                  refine wp_skip ?_
                  refine blk_n ?_
                  refine then_n ?_
                  refine wp_seq ?_
                  refine reg [⟨fV r_i64 0, [], [], []⟩,
                      ⟨fV r_i64 0, [], [], []⟩] [4, 5] [] hAt
                      ⟨ok_assign rfl opdI,
                      ok_assign rfl opdI, trivial⟩ (by kernel_rfl) ?_
                  clear hAt
                  intro a w hAt
                  replace hAt : At B h0 (mkG [(4, fV r_i64 0), (5, fV r_i64 0)]) (mkO []) F 70 a w := hAt
                  refine then_n ?_
                  refine wp_ret ?_
                  cases H
                  exact ret2 rfl (rv_tmp rfl rfl) (rv_tmp rfl rfl) hAt
theorem ok_f_survey_painted (N : Nat) (x0 : (List GCoat)) (x1 : (List GPainting)) (x2 : Int) (r : Int) (H : f_survey_painted N x0 x1 x2 = some r) : FnOk Try.prog 94 [fV (Rep.slice GCoat.rep) x0, fV (Rep.slice GPainting.rep) x1, fV r_i64 x2] (fV r_i64 r) := by
  unfold f_survey_painted at H
  refine fn_enter Try.func94 rfl rfl (by kernel_rfl) ?_
  intro κ B h0 F a w hAt
  refine wp_seq ?_
  refine reg [⟨fV r_i64 0, [], [], []⟩] [0, 1, 2] [] hAt
      ⟨ok_assign rfl opdI, trivial⟩ (by kernel_rfl) ?_
  clear hAt
  intro a w hAt
  replace hAt : At B h0 (mkG [(0, fV (Rep.slice GCoat.rep) x0), (1, fV (Rep.slice GPainting.rep) x1), (2, fV r_i64 x2)]) (mkO []) F 80 a w := hAt
  refine then_n ?_
  refine wp_seq ?_
  refine wp_seq ?_
  obtain ⟨v1, hv1, H⟩ := bindE H
  obtain ⟨v2, hv2, H⟩ := bindE H
  refine regd [⟨fV r_i64 x2, [], [(2, none)], []⟩,
      ⟨fV (Rep.slice GCoat.rep) x0, [], [(0, none)], []⟩,
      ⟨fV r_i64 (List.length x0 : Int), [], [(11, some 1)], []⟩,
      ⟨fV Rep.bool (cmpI .geq x2 (List.length x0 : Int)), [], [(10, some 0), (12, some 2)], []⟩,
      ⟨fV Rep.bool (cmpI .geq x2 (List.length x0 : Int)), [], [(13, some 3)], []⟩,
      ⟨Fact.when ((!(cmpI .geq x2 (List.length x0 : Int))) = true) (fV (Rep.slice GCoat.rep) x0), [], [(14, some 4), (0, none)], []⟩,
      ⟨Fact.when ((!(cmpI .geq x2 (List.length x0 : Int))) = true) (fV r_i64 x2), [], [(14, some 4), (2, none)], []⟩,
      ⟨Fact.when ((!(cmpI .geq x2 (List.length x0 : Int))) = true) (fRef GCoat.rep v1), [], [(14, some 4), (15, some 5), (16, some 6)], []⟩,
      ⟨Fact.when ((!(cmpI .geq x2 (List.length x0 : Int))) = true) (fRef Rep.str v1.Name), [], [(14, some 4), (17, some 7)], []⟩,
      ⟨Fact.when ((!(cmpI .geq x2 (List.length x0 : Int))) = true) (fV Rep.str v1.Name), [], [(14, some 4), (18, some 8)], []⟩,
      ⟨Fact.when ((!(cmpI .geq x2 (List.length x0 : Int))) = true) (fV (Rep.slice GPainting.rep) x1), [], [(14, some 4), (1, none)], []⟩,
      ⟨Fact.when ((!(cmpI .geq x2 (List.length x0 : Int))) = true) (fV r_i64 x2), [], [(14, some 4), (2, none)], []⟩,
      ⟨Fact.when ((!(cmpI .geq x2 (List.length x0 : Int))) = true) (fRef GPainting.rep v2), [], [(14, some 4), (20, some 10), (21, some 11)], []⟩,
      ⟨Fact.when ((!(cmpI .geq x2 (List.length x0 : Int))) = true) (fRef Rep.str v2.Coat), [], [(14, some 4), (22, some 12)], []⟩,
      ⟨Fact.when ((!(cmpI .geq x2 (List.length x0 : Int))) = true) (fV Rep.str v2.Coat), [], [(14, some 4), (23, some 13)], []⟩,
      ⟨Fact.when ((!(cmpI .geq x2 (List.length x0 : Int))) = true) (fV Rep.bool (cmpS .neq v1.Name v2.Coat)), [], [(14, some 4), (19, some 9), (24, some 14)], []⟩,
      ⟨fV Rep.bool ((cmpI .geq x2 (List.length x0 : Int)) || (cmpS .neq v1.Name v2.Coat)), [], [(14, some 4), (25, some 15)], []⟩] [0, 1, 2, 3, 4, 5, 6, 7, 8, 9, 10, 11, 12, 13, 14, 15, 16] [0, 1, 2, 3, 4, 5, 6, 7, 8, 9, 10, 11, 12, 13, 14, 15, 16] [0, 1, 2, 26] [] hAt
      ⟨ok_move rfl opd0,
      ok_move rfl opd0,
      ok_len un93 rfl opd0,
      ok_cmp (op := .geq) (by simp) rfl rfl opd0 opd1,
      ok_move rfl opd0,
      obl_tf rfl rfl rfl rfl rfl rfl rfl (fun hg => ok_move rfl opd1),
      obl_tf rfl rfl rfl rfl rfl rfl rfl (fun hg => ok_move rfl opd1),
      obl_tf rfl rfl rfl rfl rfl rfl rfl (fun hg => ok_index ty95 un93 (iteT hg hv1) rfl (opd1.on hg) (opd2.on hg)),
      obl_tf rfl rfl rfl rfl rfl rfl rfl (fun hg => ok_field GCoat.l0 fo95_0 rfl (opd1.on hg)),
      obl_tf rfl rfl rfl rfl rfl rfl rfl (fun hg => ok_load ty9 rfl (opd1.on hg)),
      obl_tf rfl rfl rfl rfl rfl rfl rfl (fun hg => ok_move rfl opd1),
      obl_tf rfl rfl rfl rfl rfl rfl rfl (fun hg => ok_move rfl opd1),
      obl_tf rfl rfl rfl rfl rfl rfl rfl (fun hg => ok_index ty107 un102 (iteT hg hv2) rfl (opd1.on hg) (opd2.on hg)),
      obl_tf rfl rfl rfl rfl rfl rfl rfl (fun hg => ok_field GPainting.l0 fo107_0 rfl (opd1.on hg)),
      obl_tf rfl rfl rfl rfl rfl rfl rfl (fun hg => ok_load ty9 rfl (opd1.on hg)),
      obl_tf rfl rfl rfl rfl rfl rfl rfl (fun hg => ok_cmpS (op := .neq) (by simp) rfl rfl (opd1.on hg) (opd2.on hg)),
      ok_or rfl opd0 (fun e => (opd1.on (notT e))), trivial⟩ (by kernel_rfl) ?_
  clear hAt
  intro a w hAt
  replace hAt : At B h0 (mkG [(0, fV (Rep.slice GCoat.rep) x0), (1, fV (Rep.slice GPainting.rep) x1), (2, fV r_i64 x2), (26, fV Rep.bool ((cmpI .geq x2 (List.length x0 : Int)) || (cmpS .neq v1.Name v2.Coat)))]) (mkO []) F 80 a w := hAt
  refine then_n ?_
  refine wp_if hAt (by rfl) ?_ ?_
  · intro hb19
    have H := iteT hb19 H
    refine wp_seq ?_
    refine reg [⟨fV r_i64 6, [], [], []⟩] [6] [] hAt
        ⟨ok_assign rfl opdI, trivial⟩ (by kernel_rfl) ?_
    clear hAt
    intro a w hAt
    replace hAt : At B h0 (mkG [(6, fV r_i64 6)]) (mkO []) F 80 a w := hAt
    refine then_n ?_
    refine wp_ret ?_
    refine then_r ?_
    cases H
    exact ret1 rfl (rv_tmp rfl rfl) hAt
  · intro hb19
    have H := iteF hb19 H
    refine wp_skip ?_
    refine then_n ?_
    refine wp_seq ?_
    obtain ⟨o11, hl12, H⟩ := bindE H
    refine wp_mono (Q := (fun o e a w => (Sum.elim (fun v => e = .normal ∧ At B h0 (mkG [(0, fV (Rep.slice GCoat.rep) x0), (1, fV (Rep.slice GPainting.rep) x1), (2, fV r_i64 x2)]) (mkO []) F 80 a w) (fun v => e = .ret ∧ At B h0 (mkG [(6, fV r_i64 v)]) (mkO []) F 80 a w)) o) o11) ?_ ?_
    · clear H
      have H := hl12
      clear hl12
      refine wp_seq ?_
      refine reg [⟨fV r_i64 x2, [], [(2, none)], []⟩,
          ⟨fV Rep.bool (cmpI .gtr x2 0), [], [(27, some 0)], []⟩] [0, 1, 2, 28] [] hAt
          ⟨ok_move rfl opd0,
          ok_cmp (op := .gtr) (by simp) rfl rfl opd0 opdI, trivial⟩ (by kernel_rfl) ?_
      clear hAt
      intro a w hAt
      replace hAt : At B h0 (mkG [(0, fV (Rep.slice GCoat.rep) x0), (1, fV (Rep.slice GPainting.rep) x1), (2, fV r_i64 x2), (28, fV Rep.bool (cmpI .gtr x2 0))]) (mkO []) F 80 a w := hAt
      refine then_n ?_
      refine wp_if hAt (by rfl) ?_ ?_
      · intro hb10
        have H := iteT hb10 H
        refine wp_seq ?_
        obtain ⟨v3, hv3, H⟩ := bindE H
        obtain ⟨v4, hv4, H⟩ := bindE H
        refine regd [⟨fV (Rep.slice GPainting.rep) x1, [], [(1, none)], []⟩,
            ⟨fV r_i64 x2, [], [(2, none)], []⟩,
            ⟨fRef GPainting.rep v3, [], [(29, some 0), (30, some 1)], []⟩,
            ⟨fRef r_i64 v3.Start, [], [(31, some 2)], []⟩,
            ⟨fV r_i64 v3.Start, [], [(32, some 3)], []⟩,
            ⟨fV (Rep.slice GPainting.rep) x1, [], [(1, none)], []⟩,
            ⟨fV r_i64 x2, [], [(2, none)], []⟩,
            ⟨fV r_i64 (IntKind.i64.wrap (x2 - 1)), [], [(35, some 6)], []⟩,
            ⟨fRef GPainting.rep v4, [], [(34, some 5), (36, some 7)], []⟩,
            ⟨fRef r_i64 v4.Start, [], [(37, some 8)], []⟩,
            ⟨fV r_i64 v4.Start, [], [(38, some 9)], []⟩,
            ⟨fV r_i64 (IntKind.i64.wrap (v3.Start - v4.Start)), [], [(33, some 4), (39, some 10)], []⟩,
            ⟨fV r_i64 (IntKind.i64.wrap (v3.Start - v4.Start)), [], [(40, some 11)], []⟩] [0, 1, 2, 3, 4, 5, 6, 7, 8, 9, 10, 11, 12] [0, 1, 2, 3, 4, 5, 6, 7, 8, 9, 10, 11, 12] [0, 1, 2, 7] [] hAt
            ⟨ok_move rfl opd0,
            ok_move rfl opd0,
            ok_index ty107 un102 hv3 rfl opd0 opd1,
            ok_field GPainting.l1 fo107_1 rfl opd0,
            ok_load ty3 rfl opd0,
            ok_move rfl opd0,
            ok_move rfl opd0,
            ok_sub rfl opd0 opdI,
            ok_index ty107 un102 hv4 rfl opd0 opd1,
            ok_field GPainting.l1 fo107_1 rfl opd0,
            ok_load ty3 rfl opd0,
            ok_sub rfl opd0 opd1,
            ok_assign rfl opd0, trivial⟩ (by kernel_rfl) ?_
        clear hAt
        intro a w hAt
        replace hAt : At B h0 (mkG [(0, fV (Rep.slice GCoat.rep) x0), (1, fV (Rep.slice GPainting.rep) x1), (2, fV r_i64 x2), (7, fV r_i64 (IntKind.i64.wrap (v3.Start - v4.Start)))]) (mkO []) F 80 a w := hAt
        refine then_n ?_
        refine wp_block ?_
        refine wp_seq ?_
        refine reg [⟨fV r_i64 (IntKind.i64.wrap (v3.Start - v4.Start)), [], [(7, none)], []⟩,
            ⟨fV Rep.bool (cmpI .lss (IntKind.i64.wrap (v3.Start - v4.Start)) 0), [], [(42, some 0)], []⟩,
            ⟨fV Rep.bool (cmpI .lss (IntKind.i64.wrap (v3.Start - v4.Start)) 0), [], [(43, some 1)], []⟩] [0, 1, 2, 7, 41] [] hAt
            ⟨ok_move rfl opd0,
            ok_cmp (op := .lss) (by simp) rfl rfl opd0 opdI,
            ok_assign rfl opd0, trivial⟩ (by kernel_rfl) ?_
        clear hAt
        intro a w hAt
        replace hAt : At B h0 (mkG [(0, fV (Rep.slice GCoat.rep) x0), (1, fV (Rep.slice GPainting.rep) x1), (2, fV r_i64 x2), (7, fV r_i64 (IntKind.i64.wrap (v3.Start - v4.Start))), (41, fV Rep.bool (cmpI .lss (IntKind.i64.wrap (v3.Start - v4.Start)) 0))]) (mkO []) F 80 a w := hAt
        refine then_n ?_
        refine wp_if hAt (by rfl) ?_ ?_
        · intro hb9
          have H := iteT hb9 H
          refine wp_seq ?_
          refine reg [⟨fV r_i64 10, [], [], []⟩] [6] [] hAt
              ⟨ok_assign rfl opdI, trivial⟩ (by kernel_rfl) ?_
          clear hAt
          intro a w hAt
          replace hAt : At B h0 (mkG [(6, fV r_i64 10)]) (mkO []) F 80 a w := hAt
          refine then_n ?_
          refine wp_ret ?_
          refine blk_r ?_
          cases H
          exact ⟨rfl, hAt.pick [6] []⟩
        · intro hb9
          have H := iteF hb9 H
          refine wp_seq ?_
          obtain ⟨v5, hv5, H⟩ := bindE H
          refine reg [⟨fV r_i64 (IntKind.i64.wrap (v3.Start - v4.Start)), [], [(7, none)], []⟩,
              ⟨fV (Rep.slice GCoat.rep) x0, [], [(0, none)], []⟩,
              ⟨fV r_i64 x2, [], [(2, none)], []⟩,
              ⟨fRef GCoat.rep v5, [], [(46, some 1), (47, some 2)], []⟩,
              ⟨fRef r_i64 v5.Soonest, [], [(48, some 3)], []⟩,
              ⟨fV r_i64 v5.Soonest, [], [(49, some 4)], []⟩,
              ⟨fV Rep.bool (cmpI .lss (IntKind.i64.wrap (v3.Start - v4.Start)) v5.Soonest), [], [(45, some 0), (50, some 5)], []⟩,
              ⟨fV Rep.bool (cmpI .lss (IntKind.i64.wrap (v3.Start - v4.Start)) v5.Soonest), [], [(51, some 6)], []⟩] [0, 1, 2, 7, 44] [] hAt
              ⟨ok_move rfl opd0,
              ok_move rfl opd0,
              ok_move rfl opd0,
              ok_index ty95 un93 hv5 rfl opd0 opd1,
              ok_field GCoat.l3 fo95_3 rfl opd0,
              ok_load ty3 rfl opd0,
              ok_cmp (op := .lss) (by simp) rfl rfl opd0 opd1,
              ok_assign rfl opd0, trivial⟩ (by kernel_rfl) ?_
          clear hAt
          intro a w hAt
          replace hAt : At B h0 (mkG [(0, fV (Rep.slice GCoat.rep) x0), (1, fV (Rep.slice GPainting.rep) x1), (2, fV r_i64 x2), (7, fV r_i64 (IntKind.i64.wrap (v3.Start - v4.Start))), (44, fV Rep.bool (cmpI .lss (IntKind.i64.wrap (v3.Start - v4.Start)) v5.Soonest))]) (mkO []) F 80 a w := hAt
          refine then_n ?_
          refine wp_if hAt (by rfl) ?_ ?_
          · intro hb8
            have H := iteT hb8 H
            refine wp_seq ?_
            refine reg [⟨fV r_i64 17, [], [], []⟩] [6] [] hAt
                ⟨ok_assign rfl opdI, trivial⟩ (by kernel_rfl) ?_
            clear hAt
            intro a w hAt
            replace hAt : At B h0 (mkG [(6, fV r_i64 17)]) (mkO []) F 80 a w := hAt
            refine then_n ?_
            refine wp_ret ?_
            refine blk_r ?_
            cases H
            exact ⟨rfl, hAt.pick [6] []⟩
          · intro hb8
            have H := iteF hb8 H
            refine wp_seq ?_
            obtain ⟨v6, hv6, H⟩ := bindE H
            refine reg [⟨fV r_i64 (IntKind.i64.wrap (v3.Start - v4.Start)), [], [(7, none)], []⟩,
                ⟨fV (Rep.slice GCoat.rep) x0, [], [(0, none)], []⟩,
                ⟨fV r_i64 x2, [], [(2, none)], []⟩,
                ⟨fRef GCoat.rep v6, [], [(54, some 1), (55, some 2)], []⟩,
                ⟨fRef r_i64 v6.Latest, [], [(56, some 3)], []⟩,
                ⟨fV r_i64 v6.Latest, [], [(57, some 4)], []⟩,
                ⟨fV Rep.bool (cmpI .gtr (IntKind.i64.wrap (v3.Start - v4.Start)) v6.Latest), [], [(53, some 0), (58, some 5)], []⟩,
                ⟨fV Rep.bool (cmpI .gtr (IntKind.i64.wrap (v3.Start - v4.Start)) v6.Latest), [], [(59, some 6)], []⟩] [0, 1, 2, 52] [] hAt
                ⟨ok_move rfl opd0,
                ok_move rfl opd0,
                ok_move rfl opd0,
                ok_index ty95 un93 hv6 rfl opd0 opd1,
                ok_field GCoat.l4 fo95_4 rfl opd0,
                ok_load ty3 rfl opd0,
                ok_cmp (op := .gtr) (by simp) rfl rfl opd0 opd1,
                ok_assign rfl opd0, trivial⟩ (by kernel_rfl) ?_
            clear hAt
            intro a w hAt
            replace hAt : At B h0 (mkG [(0, fV (Rep.slice GCoat.rep) x0), (1, fV (Rep.slice GPainting.rep) x1), (2, fV r_i64 x2), (52, fV Rep.bool (cmpI .gtr (IntKind.i64.wrap (v3.Start - v4.Start)) v6.Latest))]) (mkO []) F 80 a w := hAt
            refine then_n ?_
            refine wp_if hAt (by rfl) ?_ ?_
            · intro hb7
              have H := iteT hb7 H
              refine wp_seq ?_
              refine reg [⟨fV r_i64 19, [], [], []⟩] [6] [] hAt
                  ⟨ok_assign rfl opdI, trivial⟩ (by kernel_rfl) ?_
              clear hAt
              intro a w hAt
              replace hAt : At B h0 (mkG [(6, fV r_i64 19)]) (mkO []) F 80 a w := hAt
              refine then_n ?_
              refine wp_ret ?_
              refine blk_r ?_
              cases H
              exact ⟨rfl, hAt.pick [6] []⟩
            · intro hb7
              have H := iteF hb7 H
              refine wp_skip ?_
              refine blk_n ?_
              cases H
              exact ⟨rfl, hAt.pick [0, 1, 2] []⟩
      · intro hb10
        have H := iteF hb10 H
        refine wp_skip ?_
        cases H
        exact ⟨rfl, hAt.pick [0, 1, 2] []⟩
    · clear hAt
      intro e a w hp
      cases o11 with
      | inl l13 =>
        rw [Sum.elim_inl] at H
        obtain ⟨rfl, hAt⟩ := hp
        refine then_n ?_
        refine wp_seq ?_
        obtain ⟨v15, hv15, H⟩ := bindE H
        obtain ⟨v16, hv16, H⟩ := bindE H
        obtain ⟨v17, hv17, H⟩ := bindE H
        refine regd [⟨fV (Rep.slice GCoat.rep) x0, [], [(0, none)], []⟩,
            ⟨fV r_i64 x2, [], [(2, none)], []⟩,
            ⟨fRef GCoat.rep v15, [], [(61, some 0), (62, some 1)], []⟩,
            ⟨fV GCoat.rep v15, [], [(63, some 2)], []⟩,
            ⟨fV (Rep.slice GPainting.rep) x1, [], [(1, none)], []⟩,
            ⟨fV r_i64 x2, [], [(2, none)], []⟩,
            ⟨fRef GPainting.rep v16, [], [(65, some 4), (66, some 5)], []⟩,
            ⟨fRef (Rep.slice r_i64) v16.Readings, [], [(67, some 6)], []⟩,
            ⟨fV (Rep.slice r_i64) v16.Readings, [], [(68, some 7)], []⟩,
            ⟨fT2 (fV r_i64 v17.1) (fV r_i64 v17.2), [], [(64, some 3), (69, some 8)], []⟩,
            ⟨fT2 (fV r_i64 v17.1) (fV r_i64 v17.2), [], [(70, some 9)], []⟩,
            ⟨fV r_i64 v17.1, [], [(60, some 10)], []⟩,
            ⟨fV r_i64 v17.2, [], [(60, some 10)], []⟩,
            ⟨fV r_i64 v17.1, [], [(71, some 11)], []⟩,
            ⟨fV r_i64 v17.2, [], [(72, some 12)], []⟩] [0, 1, 2, 3, 4, 5, 6, 7, 8, 9, 10, 11, 12, 13, 14] [0, 1, 2, 3, 4, 5, 6, 7, 8, 9, 10, 11, 13, 12, 14] [8, 9] [] hAt
            ⟨ok_move rfl opd0,
            ok_move rfl opd0,
            ok_index ty95 un93 hv15 rfl opd0 opd1,
            ok_load ty95 rfl opd0,
            ok_move rfl opd0,
            ok_move rfl opd0,
            ok_index ty107 un102 hv16 rfl opd0 opd1,
            ok_field GPainting.l2 fo107_2 rfl opd0,
            ok_load ty22 rfl opd0,
            ok_call (ok_f_survey_Thickness N v15 v16.Readings _ hv17) Try.func50 (by kernel_rfl) (by kernel_rfl) rfl ⟨opd0, ⟨opd1, trivial⟩⟩,
            ok_move rfl opd0,
            ok_ext20 rfl rfl opd0,
            ok_ext21 rfl rfl opd0,
            ok_assign rfl opd0,
            ok_assign rfl opd0, trivial⟩ (by kernel_rfl) ?_
        clear hAt
        intro a w hAt
        replace hAt : At B h0 (mkG [(8, fV r_i64 v17.1), (9, fV r_i64 v17.2)]) (mkO []) F 80 a w := hAt
        refine then_n ?_
        refine wp_seq ?_
        refine wp_seq ?_
        refine reg [⟨fV r_i64 v17.2, [], [(9, none)], []⟩,
            ⟨fV Rep.bool (cmpI .eql v17.2 0), [], [(73, some 0)], []⟩,
            ⟨fV Rep.bool (cmpI .eql v17.2 0), [], [(74, some 1)], []⟩,
            ⟨Fact.when ((cmpI .eql v17.2 0) = true) (fV r_i64 v17.1), [], [(75, some 2), (8, none)], []⟩,
            ⟨Fact.when ((cmpI .eql v17.2 0) = true) (fV Rep.bool (cmpI .neq v17.1 0)), [], [(75, some 2), (76, some 3)], []⟩,
            ⟨fV Rep.bool ((cmpI .eql v17.2 0) && (cmpI .neq v17.1 0)), [], [(75, some 2), (77, some 4)], []⟩] [9, 78] [] hAt
            ⟨ok_move rfl opd0,
            ok_cmp (op := .eql) (by simp) rfl rfl opd0 opdI,
            ok_move rfl opd0,
            obl_tt rfl rfl rfl rfl rfl rfl rfl (fun hg => ok_move rfl opd1),
            obl_tt rfl rfl rfl rfl rfl rfl rfl (fun hg => ok_cmp (op := .neq) (by simp) rfl rfl (opd1.on hg) opdI),
            ok_and rfl opd0 (fun e => (opd1.on e)), trivial⟩ (by kernel_rfl) ?_
        clear hAt
        intro a w hAt
        replace hAt : At B h0 (mkG [(9, fV r_i64 v17.2), (78, fV Rep.bool ((cmpI .eql v17.2 0) && (cmpI .neq v17.1 0)))]) (mkO []) F 80 a w := hAt
        refine then_n ?_
        refine wp_if hAt (by rfl) ?_ ?_
        · intro hb18
          have H := iteT hb18 H
          refine wp_seq ?_
          refine reg [⟨fV r_i64 16, [], [], []⟩] [6] [] hAt
              ⟨ok_assign rfl opdI, trivial⟩ (by kernel_rfl) ?_
          clear hAt
          intro a w hAt
          replace hAt : At B h0 (mkG [(6, fV r_i64 16)]) (mkO []) F 80 a w := hAt
          refine then_n ?_
          refine wp_ret ?_
          refine then_r ?_
          cases H
          exact ret1 rfl (rv_tmp rfl rfl) hAt
        · intro hb18
          have H := iteF hb18 H
          refine wp_skip ?_
          refine then_n ?_
          refine wp_seq ?_
          refine reg [⟨fV r_i64 v17.2, [], [(9, none)], []⟩,
              ⟨fV r_i64 v17.2, [], [(79, some 0)], []⟩] [6] [] hAt
              ⟨ok_move rfl opd0,
              ok_assign rfl opd0, trivial⟩ (by kernel_rfl) ?_
          clear hAt
          intro a w hAt
          replace hAt : At B h0 (mkG [(6, fV r_i64 v17.2)]) (mkO []) F 80 a w := hAt
          refine then_n ?_
          refine wp_ret ?_
          cases H
          exact ret1 rfl (rv_tmp rfl rfl) hAt
      | inr r14 =>
        rw [Sum.elim_inr] at H
        replace hp := hp
        obtain ⟨rfl, hAt⟩ := hp
        refine then_r ?_
        cases H
        exact ret1 rfl (rv_tmp rfl rfl) hAt
theorem ok_f_survey_Paint (N : Nat) (x0 : (List GCoat)) (x1 : (List GPainting)) (r : Int × Int) (H : f_survey_Paint N x0 x1 = some r) : FnOk Try.prog 55 [fV (Rep.slice GCoat.rep) x0, fV (Rep.slice GPainting.rep) x1] (fT2 (fV r_i64 (r.1)) (fV r_i64 (r.2))) := by
  unfold f_survey_Paint at H
  refine fn_enter Try.func55 rfl rfl (by kernel_rfl) ?_
  intro κ B h0 F a w hAt
  refine wp_seq ?_
  refine reg [⟨fV r_i64 0, [], [], []⟩,
      ⟨fV r_i64 0, [], [], []⟩] [0, 1] [] hAt
      ⟨ok_assign rfl opdI,
      ok_assign rfl opdI, trivial⟩ (by kernel_rfl) ?_
  clear hAt
  intro a w hAt
  replace hAt : At B h0 (mkG [(0, fV (Rep.slice GCoat.rep) x0), (1, fV (Rep.slice GPainting.rep) x1)]) (mkO []) F 47 a w := hAt
  refine then_n ?_
  refine wp_seq ?_
  refine wp_seq ?_
  obtain ⟨v1, hv1, H⟩ := bindE H
  refine reg [⟨fV (Rep.slice GCoat.rep) x0, [], [(0, none)], []⟩,
      ⟨fV r_i64 v1, [], [(11, some 0)], []⟩,
      ⟨fV r_i64 v1, [], [(12, some 1)], []⟩] [0, 1, 6] [] hAt
      ⟨ok_move rfl opd0,
      ok_call (ok_f_survey_CheckScheme N x0 _ hv1) Try.func52 (by kernel_rfl) (by kernel_rfl) rfl ⟨opd0, trivial⟩,
      ok_assign rfl opd0, trivial⟩ (by kernel_rfl) ?_
  clear hAt
  intro a w hAt
  replace hAt : At B h0 (mkG [(0, fV (Rep.slice GCoat.rep) x0), (1, fV (Rep.slice GPainting.rep) x1), (6, fV r_i64 v1)]) (mkO []) F 47 a w := hAt
  refine then_n ?_
  refine wp_seq ?_
  refine reg [⟨fV r_i64 v1, [], [(6, none)], []⟩,
      ⟨fV Rep.bool (cmpI .neq v1 0), [], [(13, some 0)], []⟩] [0, 1, 6, 14] [] hAt
      ⟨ok_move rfl opd0,
      ok_cmp (op := .neq) (by simp) rfl rfl opd0 opdI, trivial⟩ (by kernel_rfl) ?_
  clear hAt
  intro a w hAt
  replace hAt : At B h0 (mkG [(0, fV (Rep.slice GCoat.rep) x0), (1, fV (Rep.slice GPainting.rep) x1), (6, fV r_i64 v1), (14, fV Rep.bool (cmpI .neq v1 0))]) (mkO []) F 47 a w := hAt
  refine then_n ?_
  refine wp_if hAt (by rfl) ?_ ?_
  · intro hb22
    have H := iteT hb22 H
    refine wp_seq ?_
    refine reg [⟨fV r_i64 v1, [], [(6, none)], []⟩,
        ⟨fV r_i64 0, [], [], []⟩,
        ⟨fV r_i64 v1, [], [(15, some 0)], []⟩] [4, 5] [] hAt
        ⟨ok_move rfl opd0,
        ok_assign rfl opdI,
        ok_assign rfl opd0, trivial⟩ (by kernel_rfl) ?_
    clear hAt
    intro a w hAt
    replace hAt : At B h0 (mkG [(4, fV r_i64 0), (5, fV r_i64 v1)]) (mkO []) F 47 a w := hAt
    refine then_n ?_
    refine wp_ret ?_
    refine then_r ?_
    cases H
    exact ret2 rfl (rv_tmp rfl rfl) (rv_tmp rfl rfl) hAt
  · intro hb22
    have H := iteF hb22 H
    refine wp_skip ?_
    refine then_n ?_
    refine wp_seq ?_
    refine wp_seq ?_
    refine reg [⟨fV (Rep.slice GPainting.rep) x1, [], [(1, none)], []⟩,
        ⟨fV r_i64 (List.length x1 : Int), [], [(16, some 0)], []⟩,
        ⟨fV Rep.bool (cmpI .gtr (List.length x1 : Int) 8), [], [(17, some 1)], []⟩] [0, 1, 18] [] hAt
        ⟨ok_move rfl opd0,
        ok_len un102 rfl opd0,
        ok_cmp (op := .gtr) (by simp) rfl rfl opd0 opdI, trivial⟩ (by kernel_rfl) ?_
    clear hAt
    intro a w hAt
    replace hAt : At B h0 (mkG [(0, fV (Rep.slice GCoat.rep) x0), (1, fV (Rep.slice GPainting.rep) x1), (18, fV Rep.bool (cmpI .gtr (List.length x1 : Int) 8))]) (mkO []) F 47 a w := hAt
    refine then_n ?_
    refine wp_if hAt (by rfl) ?_ ?_
    · intro hb21
      have H := iteT hb21 H
      refine wp_seq ?_
      refine reg [⟨fV r_i64 0, [], [], []⟩,
          ⟨fV r_i64 8, [], [], []⟩] [4, 5] [] hAt
          ⟨ok_assign rfl opdI,
          ok_assign rfl opdI, trivial⟩ (by kernel_rfl) ?_
      clear hAt
      intro a w hAt
      replace hAt : At B h0 (mkG [(4, fV r_i64 0), (5, fV r_i64 8)]) (mkO []) F 47 a w := hAt
      refine then_n ?_
      refine wp_ret ?_
      refine then_r ?_
      cases H
      exact ret2 rfl (rv_tmp rfl rfl) (rv_tmp rfl rfl) hAt
    · intro hb21
      have H := iteF hb21 H
      refine wp_skip ?_
      refine then_n ?_
      refine wp_seq ?_
      refine wp_seq ?_
      refine reg [⟨fV (Rep.slice GPainting.rep) x1, [], [(1, none)], []⟩,
          ⟨fV r_i64 (List.length x1 : Int), [], [(19, some 0)], []⟩,
          ⟨fV r_i64 0, [], [], []⟩] [0, 1, 19, 20, 21] [] hAt
          ⟨ok_move rfl opd0,
          ok_len un102 rfl opd0,
          ok_move rfl opdI, trivial⟩ (by kernel_rfl) ?_
      clear hAt
      intro a w hAt
      replace hAt : At B h0 (mkG [(0, fV (Rep.slice GCoat.rep) x0), (1, fV (Rep.slice GPainting.rep) x1), (19, fV (Rep.slice GPainting.rep) x1), (20, fV r_i64 (List.length x1 : Int)), (21, fV r_i64 0)]) (mkO []) F 47 a w := hAt
      refine then_n ?_
      refine wp_block ?_
      obtain ⟨o7, hl8, H⟩ := bindE H
      refine wp_mono (wp_loopN (f := f_survey_Paint_L2 N x1) (fun (s2 : Int) a w => At B h0 (mkG [(0, fV (Rep.slice GCoat.rep) x0), (1, fV (Rep.slice GPainting.rep) x1), (19, fV (Rep.slice GPainting.rep) x1), (20, fV r_i64 (List.length x1 : Int)), (21, fV r_i64 s2)]) (mkO []) F 47 a w) (fun o e a w => (Sum.elim (fun v => e = .exit 0 ∧ At B h0 (mkG [(0, fV (Rep.slice GCoat.rep) x0), (1, fV (Rep.slice GPainting.rep) x1)]) (mkO []) F 47 a w) (fun v => e = .ret ∧ At B h0 (mkG [(4, fV r_i64 v.1), (5, fV r_i64 v.2)]) (mkO []) F 47 a w)) o) ?_ N 0 o7 _ _ hl8 ?_) ?_
      · clear H hAt hl8
        intro s2 r20 a w H hAt
        unfold f_survey_Paint_L2 at H
        refine wp_seq ?_
        refine reg [⟨fV Rep.bool (cmpI .lss s2 (List.length x1 : Int)), [], [(21, none), (20, none)], []⟩] [0, 1, 19, 20, 21, 22] [] hAt
            ⟨ok_cmp (op := .lss) (by simp) rfl rfl opd0 opd1, trivial⟩ (by kernel_rfl) ?_
        clear hAt
        intro a w hAt
        replace hAt : At B h0 (mkG [(0, fV (Rep.slice GCoat.rep) x0), (1, fV (Rep.slice GPainting.rep) x1), (19, fV (Rep.slice GPainting.rep) x1), (20, fV r_i64 (List.length x1 : Int)), (21, fV r_i64 s2), (22, fV Rep.bool (cmpI .lss s2 (List.length x1 : Int)))]) (mkO []) F 47 a w := hAt
        refine then_n ?_
        refine wp_seq ?_
        refine wp_if hAt (by rfl) ?_ ?_
        · intro hb6
          have H := iteT hb6 H
          refine wp_skip ?_
          refine then_n ?_
          refine wp_seq ?_
          refine wp_block ?_
          refine wp_seq ?_
          obtain ⟨v3, hv3, H⟩ := bindE H
          refine reg [⟨fRef GPainting.rep v3, [], [(19, none), (21, none)], []⟩,
              ⟨fV GPainting.rep v3, [], [(23, some 0)], []⟩,
              ⟨Fact.triv, [(8, some (boxE 107 GPainting.rep (⟨[], 0, []⟩ : GPainting)))], [], []⟩,
              ⟨Fact.triv, [(8, some (boxE 107 GPainting.rep v3))], [(24, some 1)], [(8, some 2)]⟩] [0, 1, 19, 20, 21] [8] hAt
              ⟨ok_index ty107 un102 hv3 rfl opd0 opd1,
              ok_load ty107 rfl opd0,
              ok_alloc ty107 rfl rfl,
              ok_storeBox ty107 rfl rfl opd0, trivial⟩ (by kernel_rfl) ?_
          clear hAt
          intro a w hAt
          replace hAt : At B h0 (mkG [(0, fV (Rep.slice GCoat.rep) x0), (1, fV (Rep.slice GPainting.rep) x1), (19, fV (Rep.slice GPainting.rep) x1), (20, fV r_i64 (List.length x1 : Int)), (21, fV r_i64 s2)]) (mkO [(8, boxE 107 GPainting.rep v3)]) F 47 a w := hAt
          refine then_n ?_
          refine wp_seq ?_
          obtain ⟨v4, hv4, H⟩ := bindE H
          refine reg [⟨fOff 8 1, [], [], [(8, none)]⟩,
              ⟨fV r_i64 v3.Start, [], [(25, some 0)], [(8, none)]⟩,
              ⟨fV (Rep.slice r_i64) [v3.Start], [], [(26, some 1)], []⟩,
              ⟨fV Rep.bool v4, [], [(27, some 2)], []⟩,
              ⟨fV Rep.bool (!v4), [], [(28, some 3)], []⟩] [0, 1, 19, 20, 21, 29] [] hAt
              ⟨ok_fieldOwn fo107_1 rfl,
              ok_loadOwn GPainting.l1 ty3 rfl opd0,
              ok_buildSlice ty3 un22 rfl rfl (fillC (Lens.arr _ _ 0 (by decide)) rfl opd0 fillN),
              ok_call (ok_f_survey_inside N 0 1000000 [v3.Start] _ hv4) Try.func71 (by kernel_rfl) (by kernel_rfl) rfl ⟨opdI, ⟨opdI, ⟨opd0, trivial⟩⟩⟩,
              ok_not rfl opd0, trivial⟩ (by kernel_rfl) ?_
          clear hAt
          intro a w hAt
          replace hAt : At B h0 (mkG [(0, fV (Rep.slice GCoat.rep) x0), (1, fV (Rep.slice GPainting.rep) x1), (19, fV (Rep.slice GPainting.rep) x1), (20, fV r_i64 (List.length x1 : Int)), (21, fV r_i64 s2), (29, fV Rep.bool (!v4))]) (mkO []) F 47 a w := hAt
          refine then_n ?_
          refine wp_if hAt (by rfl) ?_ ?_
          · intro hb5
            have H := iteT hb5 H
            refine wp_seq ?_
            refine reg [⟨fV r_i64 0, [], [], []⟩,
                ⟨fV r_i64 2, [], [], []⟩] [4, 5] [] hAt
                ⟨ok_assign rfl opdI,
                ok_assign rfl opdI, trivial⟩ (by kernel_rfl) ?_
            clear hAt
            intro a w hAt
            replace hAt : At B h0 (mkG [(4, fV r_i64 0), (5, fV r_i64 2)]) (mkO []) F 47 a w := hAt
            refine then_n ?_
            refine wp_ret ?_
            refine blk_r ?_
            refine then_r ?_
            cases H
            exact ⟨ret_ne, rfl, hAt.pick [4, 5] []⟩
          · intro hb5
            have H := iteF hb5 H
            refine wp_skip ?_
            refine blk_n ?_
            refine then_n ?_
            refine reg [⟨fV r_i64 (IntKind.i64.wrap (s2 + 1)), [], [(21, none)], []⟩,
                ⟨fV r_i64 (IntKind.i64.wrap (s2 + 1)), [], [(30, some 0)], []⟩] [0, 1, 19, 20, 21] [] hAt
                ⟨ok_add rfl opd0 opdI,
                ok_move rfl opd0, trivial⟩ (by kernel_rfl) ?_
            clear hAt
            intro a w hAt
            replace hAt : At B h0 (mkG [(0, fV (Rep.slice GCoat.rep) x0), (1, fV (Rep.slice GPainting.rep) x1), (19, fV (Rep.slice GPainting.rep) x1), (20, fV r_i64 (List.length x1 : Int)), (21, fV r_i64 (IntKind.i64.wrap (s2 + 1)))]) (mkO []) F 47 a w := hAt
            cases H
            exact ⟨rfl, hAt.pick [0, 1, 19, 20, 21] []⟩
        · intro hb6
          have H := iteF hb6 H
          refine wp_exit ?_
          refine then_x ?_
          cases H
          exact ⟨ex_ne, rfl, hAt.pick [0, 1] []⟩
      · exact hAt.pick [0, 1, 19, 20, 21] []
      · clear hAt
        intro e a w hp
        cases o7 with
        | inl l9 =>
          rw [Sum.elim_inl] at H
          obtain ⟨rfl, hAt⟩ := hp
          refine blk_eq ?_
          refine then_n ?_
          refine wp_seq ?_
          refine wp_seq ?_
          refine reg [⟨fV (Rep.slice GPainting.rep) x1, [], [(1, none)], []⟩,
              ⟨fV r_i64 (List.length x1 : Int), [], [(31, some 0)], []⟩,
              ⟨fV r_i64 0, [], [], []⟩] [0, 1, 32, 33] [] hAt
              ⟨ok_move rfl opd0,
              ok_len un102 rfl opd0,
              ok_move rfl opdI, trivial⟩ (by kernel_rfl) ?_
          clear hAt
          intro a w hAt
          replace hAt : At B h0 (mkG [(0, fV (Rep.slice GCoat.rep) x0), (1, fV (Rep.slice GPainting.rep) x1), (32, fV r_i64 (List.length x1 : Int)), (33, fV r_i64 0)]) (mkO []) F 47 a w := hAt
          refine then_n ?_
          refine wp_block ?_
          obtain ⟨o15, hl16, H⟩ := bindE H
          refine wp_mono (wp_loopN (f := f_survey_Paint_L1 N x0 x1) (fun (s11 : Int) a w => At B h0 (mkG [(0, fV (Rep.slice GCoat.rep) x0), (1, fV (Rep.slice GPainting.rep) x1), (32, fV r_i64 (List.length x1 : Int)), (33, fV r_i64 s11)]) (mkO []) F 47 a w) (fun o e a w => (Sum.elim (fun v => e = .exit 2 ∧ At B h0 (mkG [(1, fV (Rep.slice GPainting.rep) x1)]) (mkO []) F 47 a w) (fun v => e = .ret ∧ At B h0 (mkG [(4, fV r_i64 v.1), (5, fV r_i64 v.2)]) (mkO []) F 47 a w)) o) ?_ N 0 o15 _ _ hl16 ?_) ?_
          · clear H hAt hl16
            intro s11 r19 a w H hAt
            unfold f_survey_Paint_L1 at H
            refine wp_seq ?_
            refine reg [⟨fV Rep.bool (cmpI .lss s11 (List.length x1 : Int)), [], [(33, none), (32, none)], []⟩] [0, 1, 32, 33, 34] [] hAt
                ⟨ok_cmp (op := .lss) (by simp) rfl rfl opd0 opd1, trivial⟩ (by kernel_rfl) ?_
            clear hAt
            intro a w hAt
            replace hAt : At B h0 (mkG [(0, fV (Rep.slice GCoat.rep) x0), (1, fV (Rep.slice GPainting.rep) x1), (32, fV r_i64 (List.length x1 : Int)), (33, fV r_i64 s11), (34, fV Rep.bool (cmpI .lss s11 (List.length x1 : Int)))]) (mkO []) F 47 a w := hAt
            refine then_n ?_
            refine wp_seq ?_
            refine wp_if hAt (by rfl) ?_ ?_
            · intro hb14
              have H := iteT hb14 H
              refine wp_skip ?_
              refine then_n ?_
              refine wp_seq ?_
              refine wp_block ?_
              refine wp_seq ?_
              refine reg [⟨fV r_i64 s11, [], [(33, none)], []⟩,
                  ⟨fV r_i64 s11, [], [(35, some 0)], []⟩] [0, 1, 9, 32, 33] [] hAt
                  ⟨ok_move rfl opd0,
                  ok_assign rfl opd0, trivial⟩ (by kernel_rfl) ?_
              clear hAt
              intro a w hAt
              replace hAt : At B h0 (mkG [(0, fV (Rep.slice GCoat.rep) x0), (1, fV (Rep.slice GPainting.rep) x1), (9, fV r_i64 s11), (32, fV r_i64 (List.length x1 : Int)), (33, fV r_i64 s11)]) (mkO []) F 47 a w := hAt
              refine then_n ?_
              refine wp_seq ?_
              obtain ⟨v12, hv12, H⟩ := bindE H
              refine reg [⟨fV (Rep.slice GCoat.rep) x0, [], [(0, none)], []⟩,
                  ⟨fV (Rep.slice GPainting.rep) x1, [], [(1, none)], []⟩,
                  ⟨fV r_i64 s11, [], [(9, none)], []⟩,
                  ⟨fV r_i64 v12, [], [(36, some 0), (37, some 1), (38, some 2)], []⟩,
                  ⟨fV r_i64 v12, [], [(39, some 3)], []⟩] [0, 1, 9, 10, 32, 33] [] hAt
                  ⟨ok_move rfl opd0,
                  ok_move rfl opd0,
                  ok_move rfl opd0,
                  ok_call (ok_f_survey_painted N x0 x1 s11 _ hv12) Try.func94 (by kernel_rfl) (by kernel_rfl) rfl ⟨opd0, ⟨opd1, ⟨opd2, trivial⟩⟩⟩,
                  ok_assign rfl opd0, trivial⟩ (by kernel_rfl) ?_
              clear hAt
              intro a w hAt
              replace hAt : At B h0 (mkG [(0, fV (Rep.slice GCoat.rep) x0), (1, fV (Rep.slice GPainting.rep) x1), (9, fV r_i64 s11), (10, fV r_i64 v12), (32, fV r_i64 (List.length x1 : Int)), (33, fV r_i64 s11)]) (mkO []) F 47 a w := hAt
              refine then_n ?_
              refine wp_seq ?_
              refine reg [⟨fV r_i64 v12, [], [(10, none)], []⟩,
                  ⟨fV Rep.bool (cmpI .neq v12 0), [], [(40, some 0)], []⟩] [0, 1, 9, 10, 32, 33, 41] [] hAt
                  ⟨ok_move rfl opd0,
                  ok_cmp (op := .neq) (by simp) rfl rfl opd0 opdI, trivial⟩ (by kernel_rfl) ?_
              clear hAt
              intro a w hAt
              replace hAt : At B h0 (mkG [(0, fV (Rep.slice GCoat.rep) x0), (1, fV (Rep.slice GPainting.rep) x1), (9, fV r_i64 s11), (10, fV r_i64 v12), (32, fV r_i64 (List.length x1 : Int)), (33, fV r_i64 s11), (41, fV Rep.bool (cmpI .neq v12 0))]) (mkO []) F 47 a w := hAt
              refine then_n ?_
              refine wp_if hAt (by rfl) ?_ ?_
              · intro hb13
                have H := iteT hb13 H
                refine wp_seq ?_
                refine reg [⟨fV r_i64 s11, [], [(9, none)], []⟩,
                    ⟨fV r_i64 v12, [], [(10, none)], []⟩,
                    ⟨fV r_i64 s11, [], [(42, some 0)], []⟩,
                    ⟨fV r_i64 v12, [], [(43, some 1)], []⟩] [4, 5] [] hAt
                    ⟨ok_move rfl opd0,
                    ok_move rfl opd0,
                    ok_assign rfl opd0,
                    ok_assign rfl opd0, trivial⟩ (by kernel_rfl) ?_
                clear hAt
                intro a w hAt
                replace hAt : At B h0 (mkG [(4, fV r_i64 s11), (5, fV r_i64 v12)]) (mkO []) F 47 a w := hAt
                refine then_n ?_
                refine wp_ret ?_
                refine blk_r ?_
                refine then_r ?_
                cases H
                exact ⟨ret_ne, rfl, hAt.pick [4, 5] []⟩
              · intro hb13
                have H := iteF hb13 H
                refine wp_skip ?_
                refine blk_n ?_
                refine then_n ?_
                refine reg [⟨fV r_i64 (IntKind.i64.wrap (s11 + 1)), [], [(33, none)], []⟩,
                    ⟨fV r_i64 (IntKind.i64.wrap (s11 + 1)), [], [(44, some 0)], []⟩] [0, 1, 32, 33] [] hAt
                    ⟨ok_add rfl opd0 opdI,
                    ok_move rfl opd0, trivial⟩ (by kernel_rfl) ?_
                clear hAt
                intro a w hAt
                replace hAt : At B h0 (mkG [(0, fV (Rep.slice GCoat.rep) x0), (1, fV (Rep.slice GPainting.rep) x1), (32, fV r_i64 (List.length x1 : Int)), (33, fV r_i64 (IntKind.i64.wrap (s11 + 1)))]) (mkO []) F 47 a w := hAt
                cases H
                exact ⟨rfl, hAt.pick [0, 1, 32, 33] []⟩
            · intro hb14
              have H := iteF hb14 H
              refine wp_exit ?_
              refine then_x ?_
              cases H
              exact ⟨ex_ne, rfl, hAt.pick [1] []⟩
          · exact hAt.pick [0, 1, 32, 33] []
          · clear hAt
            intro e a w hp
            cases o15 with
            | inl l17 =>
              rw [Sum.elim_inl] at H
              obtain ⟨rfl, hAt⟩ := hp
              refine blk_eq ?_
              refine then_n ?_
              refine wp_seq ?_
              refine reg [⟨fV (Rep.slice GPainting.rep) x1, [], [(1, none)], []⟩,
                  ⟨fV r_i64 (List.length x1 : Int), [], [(45, some 0)], []⟩,
                  ⟨fV r_i64 (List.length x1 : Int), [], [(46, some 1)], []⟩,
                  ⟨fV r_i64 0, [], [], []⟩] [4, 5] [] hAt
                  ⟨ok_move rfl opd0,
                  ok_len un102 rfl opd0,
                  ok_assign rfl opd0,
                  ok_assign rfl opdI, trivial⟩ (by kernel_rfl) ?_
              clear hAt
              intro a w hAt
              replace hAt : At B h0 (mkG [(4, fV r_i64 (List.length x1 : Int)), (5, fV r_i64 0)]) (mkO []) F 47 a w := hAt
              refine then_n ?_
              refine wp_ret ?_
              cases H
              exact ret2 rfl (rv_tmp rfl rfl) (rv_tmp rfl rfl) hAt
            | inr r18 =>
              rw [Sum.elim_inr] at H
              replace hp := hp
              obtain ⟨rfl, hAt⟩ := hp
              refine blk_r ?_
              refine then_r ?_
              cases H
              exact ret2 rfl (rv_tmp rfl rfl) (rv_tmp rfl rfl) hAt
        | inr r10 =>
          rw [Sum.elim_inr] at H
          replace hp := hp
          obtain ⟨rfl, hAt⟩ := hp
          refine blk_r ?_
          refine then_r ?_
          cases H
          exact ret2 rfl (rv_tmp rfl rfl) (rv_tmp rfl rfl) hAt
end Go.KB
