/- The Go functions compute what the plain functions compute. Printed by a program. No condition. -/
import Derived.Test.YtcpcedbnpieebaaGProof5
namespace Go.KB
open Go.Proofs
set_option maxRecDepth 100000
set_option linter.unusedVariables false
theorem ok_f_ref09_Clearances (N : Nat) (x0 : (List GTolerance)) (x1 : (List GBearing)) (r : (List Int) × Int) (H : f_ref09_Clearances N x0 x1 = some r) : FnOk Try.prog 48 [fV (Rep.slice GTolerance.rep) x0, fV (Rep.slice GBearing.rep) x1] (fT2 (fV (Rep.slice r_i64) (r.1)) (fV r_i64 (r.2))) := by
  unfold f_ref09_Clearances at H
  refine fn_enter Try.func48 rfl rfl (by kernel_rfl) ?_
  intro κ B h0 F a w hAt
  refine wp_seq ?_
  refine reg [⟨fV (Rep.slice r_i64) [], [(4, some (tipE 3 r_i64.sz))], [], []⟩,
      ⟨fV r_i64 0, [], [], []⟩] [0, 1] [] hAt
      ⟨ok_nilTip rfl (.inl rfl),
      ok_assign rfl opdI, trivial⟩ (by kernel_rfl) ?_
  clear hAt
  intro a w hAt
  replace hAt : At B h0 (mkG [(0, fV (Rep.slice GTolerance.rep) x0), (1, fV (Rep.slice GBearing.rep) x1)]) (mkO []) F 110 a w := hAt
  refine then_n ?_
  refine wp_seq ?_
  refine wp_seq ?_
  obtain ⟨v1, hv1, H⟩ := bindE H
  refine reg [⟨fV (Rep.slice GTolerance.rep) x0, [], [(0, none)], []⟩,
      ⟨fV r_i64 v1, [], [(13, some 0)], []⟩,
      ⟨fV r_i64 v1, [], [(14, some 1)], []⟩] [0, 1, 6] [] hAt
      ⟨ok_move rfl opd0,
      ok_call (ok_f_ref09_CheckTolerances N x0 _ hv1) Try.func88 (by kernel_rfl) (by kernel_rfl) rfl ⟨opd0, trivial⟩,
      ok_assign rfl opd0, trivial⟩ (by kernel_rfl) ?_
  clear hAt
  intro a w hAt
  replace hAt : At B h0 (mkG [(0, fV (Rep.slice GTolerance.rep) x0), (1, fV (Rep.slice GBearing.rep) x1), (6, fV r_i64 v1)]) (mkO []) F 110 a w := hAt
  refine then_n ?_
  refine wp_seq ?_
  refine reg [⟨fV r_i64 v1, [], [(6, none)], []⟩,
      ⟨fV Rep.bool (cmpI .neq v1 0), [], [(15, some 0)], []⟩] [0, 1, 6, 16] [] hAt
      ⟨ok_move rfl opd0,
      ok_cmp (op := .neq) (by simp) rfl rfl opd0 opdI, trivial⟩ (by kernel_rfl) ?_
  clear hAt
  intro a w hAt
  replace hAt : At B h0 (mkG [(0, fV (Rep.slice GTolerance.rep) x0), (1, fV (Rep.slice GBearing.rep) x1), (6, fV r_i64 v1), (16, fV Rep.bool (cmpI .neq v1 0))]) (mkO []) F 110 a w := hAt
  refine then_n ?_
  refine wp_if hAt (by rfl) ?_ ?_
  · intro hb38
    have H := iteT hb38 H
    refine wp_seq ?_
    refine reg [⟨fV r_i64 v1, [], [(6, none)], []⟩,
        ⟨fV (Rep.slice r_i64) [], [(4, some (tipE 3 r_i64.sz))], [], []⟩,
        ⟨fV r_i64 v1, [], [(17, some 0)], []⟩] [4, 5] [4] hAt
        ⟨ok_move rfl opd0,
        ok_nilTip rfl (.inl rfl),
        ok_assign rfl opd0, trivial⟩ (by kernel_rfl) ?_
    clear hAt
    intro a w hAt
    replace hAt : At B h0 (mkG [(4, fV (Rep.slice r_i64) []), (5, fV r_i64 v1)]) (mkO [(4, tipE 3 r_i64.sz)]) F 110 a w := hAt
    refine then_n ?_
    refine wp_ret ?_
    refine then_r ?_
    cases H
    exact ret2 rfl (rv_tmp rfl rfl) (rv_tmp rfl rfl) hAt
  · intro hb38
    have H := iteF hb38 H
    refine wp_skip ?_
    refine then_n ?_
    refine wp_seq ?_
    refine wp_seq ?_
    refine reg [⟨fV (Rep.slice GBearing.rep) x1, [], [(1, none)], []⟩,
        ⟨fV r_i64 (List.length x1 : Int), [], [(18, some 0)], []⟩,
        ⟨fV Rep.bool (cmpI .gtr (List.length x1 : Int) 40), [], [(19, some 1)], []⟩] [0, 1, 20] [] hAt
        ⟨ok_move rfl opd0,
        ok_len un82 rfl opd0,
        ok_cmp (op := .gtr) (by simp) rfl rfl opd0 opdI, trivial⟩ (by kernel_rfl) ?_
    clear hAt
    intro a w hAt
    replace hAt : At B h0 (mkG [(0, fV (Rep.slice GTolerance.rep) x0), (1, fV (Rep.slice GBearing.rep) x1), (20, fV Rep.bool (cmpI .gtr (List.length x1 : Int) 40))]) (mkO []) F 110 a w := hAt
    refine then_n ?_
    refine wp_if hAt (by rfl) ?_ ?_
    · intro hb37
      have H := iteT hb37 H
      refine wp_seq ?_
      refine reg [⟨fV (Rep.slice r_i64) [], [(4, some (tipE 3 r_i64.sz))], [], []⟩,
          ⟨fV r_i64 8, [], [], []⟩] [4, 5] [4] hAt
          ⟨ok_nilTip rfl (.inl rfl),
          ok_assign rfl opdI, trivial⟩ (by kernel_rfl) ?_
      clear hAt
      intro a w hAt
      replace hAt : At B h0 (mkG [(4, fV (Rep.slice r_i64) []), (5, fV r_i64 8)]) (mkO [(4, tipE 3 r_i64.sz)]) F 110 a w := hAt
      refine then_n ?_
      refine wp_ret ?_
      refine then_r ?_
      cases H
      exact ret2 rfl (rv_tmp rfl rfl) (rv_tmp rfl rfl) hAt
    · intro hb37
      have H := iteF hb37 H
      refine wp_skip ?_
      refine then_n ?_
      refine wp_seq ?_
      refine reg [⟨fV (Rep.slice r_i64) [], [(7, some (tipE 3 r_i64.sz))], [], []⟩] [0, 1, 7] [7] hAt
          ⟨ok_nilTip rfl (.inl rfl), trivial⟩ (by kernel_rfl) ?_
      clear hAt
      intro a w hAt
      replace hAt : At B h0 (mkG [(0, fV (Rep.slice GTolerance.rep) x0), (1, fV (Rep.slice GBearing.rep) x1), (7, fV (Rep.slice r_i64) [])]) (mkO [(7, tipE 3 r_i64.sz)]) F 110 a w := hAt
      refine then_n ?_
      refine wp_seq ?_
      refine wp_seq ?_
      refine reg [⟨fV r_i64 0, [], [], []⟩] [0, 1, 7, 8] [7] hAt
          ⟨ok_assign rfl opdI, trivial⟩ (by kernel_rfl) ?_
      clear hAt
      intro a w hAt
      replace hAt : At B h0 (mkG [(0, fV (Rep.slice GTolerance.rep) x0), (1, fV (Rep.slice GBearing.rep) x1), (7, fV (Rep.slice r_i64) []), (8, fV r_i64 0)]) (mkO [(7, tipE 3 r_i64.sz)]) F 110 a w := hAt
      refine then_n ?_
      refine wp_block ?_
      obtain ⟨o32, hl33, H⟩ := bindE H
      refine wp_mono (wp_loopN (f := f_ref09_Clearances_L2 N x0 x1) (fun (s2 : ((List Int) × Int)) a w => At B h0 (mkG [(0, fV (Rep.slice GTolerance.rep) x0), (1, fV (Rep.slice GBearing.rep) x1), (7, fV (Rep.slice r_i64) s2.1), (8, fV r_i64 s2.2)]) (mkO [(7, tipE 3 r_i64.sz)]) F 110 a w) (fun o e a w => (Sum.elim (fun v => e = .exit 0 ∧ At B h0 (mkG [(7, fV (Rep.slice r_i64) v)]) (mkO [(7, tipE 3 r_i64.sz)]) F 110 a w) (fun v => e = .ret ∧ At B h0 (mkG [(4, fV (Rep.slice r_i64) v.1), (5, fV r_i64 v.2)]) (mkO [(4, tipE 3 r_i64.sz)]) F 110 a w)) o) ?_ N ([], 0) o32 _ _ hl33 ?_) ?_
      · clear H hAt hl33
        intro s2 r36 a w H hAt
        unfold f_ref09_Clearances_L2 at H
        refine wp_seq ?_
        refine wp_seq ?_
        refine reg [⟨fV r_i64 s2.2, [], [(8, none)], []⟩,
            ⟨fV (Rep.slice GBearing.rep) x1, [], [(1, none)], []⟩,
            ⟨fV r_i64 (List.length x1 : Int), [], [(22, some 1)], []⟩,
            ⟨fV Rep.bool (cmpI .lss s2.2 (List.length x1 : Int)), [], [(21, some 0), (23, some 2)], []⟩] [0, 1, 7, 8, 24] [7] hAt
            ⟨ok_move rfl opd0,
            ok_move rfl opd0,
            ok_len un82 rfl opd0,
            ok_cmp (op := .lss) (by simp) rfl rfl opd0 opd1, trivial⟩ (by kernel_rfl) ?_
        clear hAt
        intro a w hAt
        replace hAt : At B h0 (mkG [(0, fV (Rep.slice GTolerance.rep) x0), (1, fV (Rep.slice GBearing.rep) x1), (7, fV (Rep.slice r_i64) s2.1), (8, fV r_i64 s2.2), (24, fV Rep.bool (cmpI .lss s2.2 (List.length x1 : Int)))]) (mkO [(7, tipE 3 r_i64.sz)]) F 110 a w := hAt
        refine then_n ?_
        refine wp_if hAt (by rfl) ?_ ?_
        · intro hb31
          have H := iteT hb31 H
          refine wp_skip ?_
          refine then_n ?_
          refine wp_seq ?_
          refine wp_block ?_
          refine wp_seq ?_
          refine wp_seq ?_
          obtain ⟨v3, hv3, H⟩ := bindE H
          obtain ⟨v4, hv4, H⟩ := bindE H
          refine reg [⟨fV (Rep.slice GBearing.rep) x1, [], [(1, none)], []⟩,
              ⟨fV r_i64 s2.2, [], [(8, none)], []⟩,
              ⟨fRef GBearing.rep v3, [], [(27, some 0), (28, some 1)], []⟩,
              ⟨fRef Rep.str v3.Name, [], [(29, some 2)], []⟩,
              ⟨fV Rep.str v3.Name, [], [(30, some 3)], []⟩,
              ⟨fV Rep.bool v4, [], [(31, some 4)], []⟩,
              ⟨fV Rep.bool (!v4), [], [(32, some 5)], []⟩] [0, 1, 7, 8, 33] [7] hAt
              ⟨ok_move rfl opd0,
              ok_move rfl opd0,
              ok_index ty84 un82 hv3 rfl opd0 opd1,
              ok_field GBearing.l0 fo84_0 rfl opd0,
              ok_load ty9 rfl opd0,
              ok_call (ok_f_base_IsName N v3.Name _ hv4) Try.func68 (by kernel_rfl) (by kernel_rfl) rfl ⟨opd0, trivial⟩,
              ok_not rfl opd0, trivial⟩ (by kernel_rfl) ?_
          clear hAt
          intro a w hAt
          replace hAt : At B h0 (mkG [(0, fV (Rep.slice GTolerance.rep) x0), (1, fV (Rep.slice GBearing.rep) x1), (7, fV (Rep.slice r_i64) s2.1), (8, fV r_i64 s2.2), (33, fV Rep.bool (!v4))]) (mkO [(7, tipE 3 r_i64.sz)]) F 110 a w := hAt
          refine then_n ?_
          refine wp_if hAt (by rfl) ?_ ?_
          · intro hb30
            have H := iteT hb30 H
            refine wp_seq ?_
            refine reg [⟨fV (Rep.slice r_i64) [], [(4, some (tipE 3 r_i64.sz))], [], []⟩,
                ⟨fV r_i64 4, [], [], []⟩] [4, 5] [4] hAt
                ⟨ok_nilTip rfl (.inl rfl),
                ok_assign rfl opdI, trivial⟩ (by kernel_rfl) ?_
            clear hAt
            intro a w hAt
            replace hAt : At B h0 (mkG [(4, fV (Rep.slice r_i64) []), (5, fV r_i64 4)]) (mkO [(4, tipE 3 r_i64.sz)]) F 110 a w := hAt
            refine then_n ?_
            refine wp_ret ?_
            refine then_r ?_
            refine blk_r ?_
            refine then_r ?_
            cases H
            exact ⟨ret_ne, rfl, hAt.pick [4, 5] [4]⟩
          · intro hb30
            have H := iteF hb30 H
            refine wp_skip ?_
            refine then_n ?_
            refine wp_seq ?_
            refine wp_seq ?_
            refine reg [⟨fV r_i64 0, [], [], []⟩] [0, 1, 7, 8, 9] [7] hAt
                ⟨ok_assign rfl opdI, trivial⟩ (by kernel_rfl) ?_
            clear hAt
            intro a w hAt
            replace hAt : At B h0 (mkG [(0, fV (Rep.slice GTolerance.rep) x0), (1, fV (Rep.slice GBearing.rep) x1), (7, fV (Rep.slice r_i64) s2.1), (8, fV r_i64 s2.2), (9, fV r_i64 0)]) (mkO [(7, tipE 3 r_i64.sz)]) F 110 a w := hAt
            refine then_n ?_
            refine wp_block ?_
            obtain ⟨o10, hl11, H⟩ := bindE H
            refine wp_mono (wp_loopN (f := f_ref09_Clearances_L1 N x1 s2) (fun (s5 : Int) a w => At B h0 (mkG [(0, fV (Rep.slice GTolerance.rep) x0), (1, fV (Rep.slice GBearing.rep) x1), (7, fV (Rep.slice r_i64) s2.1), (8, fV r_i64 s2.2), (9, fV r_i64 s5)]) (mkO [(7, tipE 3 r_i64.sz)]) F 110 a w) (fun o e a w => (Sum.elim (fun v => e = .exit 2 ∧ At B h0 (mkG [(0, fV (Rep.slice GTolerance.rep) x0), (1, fV (Rep.slice GBearing.rep) x1), (7, fV (Rep.slice r_i64) s2.1), (8, fV r_i64 s2.2)]) (mkO [(7, tipE 3 r_i64.sz)]) F 110 a w) (fun v => e = .ret ∧ At B h0 (mkG [(4, fV (Rep.slice r_i64) v.1), (5, fV r_i64 v.2)]) (mkO [(4, tipE 3 r_i64.sz)]) F 110 a w)) o) ?_ N 0 o10 _ _ hl11 ?_) ?_
            · clear H hAt hl11
              intro s5 r29 a w H hAt
              unfold f_ref09_Clearances_L1 at H
              refine wp_seq ?_
              refine wp_seq ?_
              refine reg [⟨fV r_i64 s5, [], [(9, none)], []⟩,
                  ⟨fV r_i64 s2.2, [], [(8, none)], []⟩,
                  ⟨fV Rep.bool (cmpI .lss s5 s2.2), [], [(34, some 0), (35, some 1)], []⟩] [0, 1, 7, 8, 9, 36] [7] hAt
                  ⟨ok_move rfl opd0,
                  ok_move rfl opd0,
                  ok_cmp (op := .lss) (by simp) rfl rfl opd0 opd1, trivial⟩ (by kernel_rfl) ?_
              clear hAt
              intro a w hAt
              replace hAt : At B h0 (mkG [(0, fV (Rep.slice GTolerance.rep) x0), (1, fV (Rep.slice GBearing.rep) x1), (7, fV (Rep.slice r_i64) s2.1), (8, fV r_i64 s2.2), (9, fV r_i64 s5), (36, fV Rep.bool (cmpI .lss s5 s2.2))]) (mkO [(7, tipE 3 r_i64.sz)]) F 110 a w := hAt
              refine then_n ?_
              refine wp_if hAt (by rfl) ?_ ?_
              · intro hb9
                have H := iteT hb9 H
                refine wp_skip ?_
                refine then_n ?_
                refine wp_seq ?_
                refine wp_block ?_
                refine wp_seq ?_
                obtain ⟨v6, hv6, H⟩ := bindE H
                obtain ⟨v7, hv7, H⟩ := bindE H
                refine regd [⟨fV (Rep.slice GBearing.rep) x1, [], [(1, none)], []⟩,
                    ⟨fV r_i64 s5, [], [(9, none)], []⟩,
                    ⟨fRef GBearing.rep v6, [], [(39, some 0), (40, some 1)], []⟩,
                    ⟨fRef Rep.str v6.Name, [], [(41, some 2)], []⟩,
                    ⟨fV Rep.str v6.Name, [], [(42, some 3)], []⟩,
                    ⟨fV (Rep.slice GBearing.rep) x1, [], [(1, none)], []⟩,
                    ⟨fV r_i64 s2.2, [], [(8, none)], []⟩,
                    ⟨fRef GBearing.rep v7, [], [(44, some 5), (45, some 6)], []⟩,
                    ⟨fRef Rep.str v7.Name, [], [(46, some 7)], []⟩,
                    ⟨fV Rep.str v7.Name, [], [(47, some 8)], []⟩,
                    ⟨fV Rep.bool (cmpS .eql v6.Name v7.Name), [], [(43, some 4), (48, some 9)], []⟩] [0, 1, 2, 3, 4, 5, 6, 7, 8, 9, 10] [0, 1, 2, 3, 4, 5, 6, 7, 8, 9, 10] [0, 1, 7, 8, 9, 49] [7] hAt
                    ⟨ok_move rfl opd0,
                    ok_move rfl opd0,
                    ok_index ty84 un82 hv6 rfl opd0 opd1,
                    ok_field GBearing.l0 fo84_0 rfl opd0,
                    ok_load ty9 rfl opd0,
                    ok_move rfl opd0,
                    ok_move rfl opd0,
                    ok_index ty84 un82 hv7 rfl opd0 opd1,
                    ok_field GBearing.l0 fo84_0 rfl opd0,
                    ok_load ty9 rfl opd0,
                    ok_cmpS (op := .eql) (by simp) rfl rfl opd0 opd1, trivial⟩ (by kernel_rfl) ?_
                clear hAt
                intro a w hAt
                replace hAt : At B h0 (mkG [(0, fV (Rep.slice GTolerance.rep) x0), (1, fV (Rep.slice GBearing.rep) x1), (7, fV (Rep.slice r_i64) s2.1), (8, fV r_i64 s2.2), (9, fV r_i64 s5), (49, fV Rep.bool (cmpS .eql v6.Name v7.Name))]) (mkO [(7, tipE 3 r_i64.sz)]) F 110 a w := hAt
                refine then_n ?_
                refine wp_if hAt (by rfl) ?_ ?_
                · intro hb8
                  have H := iteT hb8 H
                  refine wp_seq ?_
                  refine reg [⟨fV (Rep.slice r_i64) [], [(4, some (tipE 3 r_i64.sz))], [], []⟩,
                      ⟨fV r_i64 5, [], [], []⟩] [4, 5] [4] hAt
                      ⟨ok_nilTip rfl (.inl rfl),
                      ok_assign rfl opdI, trivial⟩ (by kernel_rfl) ?_
                  clear hAt
                  intro a w hAt
                  replace hAt : At B h0 (mkG [(4, fV (Rep.slice r_i64) []), (5, fV r_i64 5)]) (mkO [(4, tipE 3 r_i64.sz)]) F 110 a w := hAt
                  refine then_n ?_
                  refine wp_ret ?_
                  refine blk_r ?_
                  refine then_r ?_
                  cases H
                  exact ⟨ret_ne, rfl, hAt.pick [4, 5] [4]⟩
                · intro hb8
                  have H := iteF hb8 H
                  refine wp_skip ?_
                  refine blk_n ?_
                  refine then_n ?_
                  refine reg [⟨fV r_i64 s5, [], [(9, none)], []⟩,
                      ⟨fV r_i64 (IntKind.i64.wrap (s5 + 1)), [], [(37, some 0)], []⟩,
                      ⟨fV r_i64 (IntKind.i64.wrap (s5 + 1)), [], [(38, some 1)], []⟩] [0, 1, 7, 8, 9] [7] hAt
                      ⟨ok_move rfl opd0,
                      ok_add rfl opd0 opdI,
                      ok_assign rfl opd0, trivial⟩ (by kernel_rfl) ?_
                  clear hAt
                  intro a w hAt
                  replace hAt : At B h0 (mkG [(0, fV (Rep.slice GTolerance.rep) x0), (1, fV (Rep.slice GBearing.rep) x1), (7, fV (Rep.slice r_i64) s2.1), (8, fV r_i64 s2.2), (9, fV r_i64 (IntKind.i64.wrap (s5 + 1)))]) (mkO [(7, tipE 3 r_i64.sz)]) F 110 a w := hAt
                  cases H
                  exact ⟨rfl, hAt.pick [0, 1, 7, 8, 9] [7]⟩
              · intro hb9
                have H := iteF hb9 H
                refine wp_exit ?_
                refine then_x ?_
                cases H
                exact ⟨ex_ne, rfl, hAt.pick [0, 1, 7, 8] [7]⟩
            · exact hAt.pick [0, 1, 7, 8, 9] [7]
            · clear hAt
              intro e a w hp
              cases o10 with
              | inl l12 =>
                rw [Sum.elim_inl] at H
                obtain ⟨rfl, hAt⟩ := hp
                refine blk_eq ?_
                refine then_n ?_
                refine wp_seq ?_
                refine wp_seq ?_
                obtain ⟨v14, hv14, H⟩ := bindE H
                obtain ⟨v15, hv15, H⟩ := bindE H
                obtain ⟨v16, hv16, H⟩ := bindE H
                obtain ⟨v17, hv17, H⟩ := bindE H
                refine reg [⟨fV (Rep.slice GBearing.rep) x1, [], [(1, none)], []⟩,
                    ⟨fV r_i64 s2.2, [], [(8, none)], []⟩,
                    ⟨fRef GBearing.rep v14, [], [(50, some 0), (51, some 1)], []⟩,
                    ⟨fRef r_i64 v14.Up, [], [(52, some 2)], []⟩,
                    ⟨fV r_i64 v14.Up, [], [(53, some 3)], []⟩,
                    ⟨fV Rep.bool v15, [], [(54, some 4)], []⟩,
                    ⟨fV Rep.bool (!v15), [], [(55, some 5)], []⟩,
                    ⟨fV Rep.bool (!v15), [], [(56, some 6)], []⟩,
                    ⟨Fact.when ((!(!v15)) = true) (fV (Rep.slice GBearing.rep) x1), [], [(57, some 7), (1, none)], []⟩,
                    ⟨Fact.when ((!(!v15)) = true) (fV r_i64 s2.2), [], [(57, some 7), (8, none)], []⟩,
                    ⟨Fact.when ((!(!v15)) = true) (fRef GBearing.rep v16), [], [(57, some 7), (58, some 8), (59, some 9)], []⟩,
                    ⟨Fact.when ((!(!v15)) = true) (fRef r_i64 v16.Across), [], [(57, some 7), (60, some 10)], []⟩,
                    ⟨Fact.when ((!(!v15)) = true) (fV r_i64 v16.Across), [], [(57, some 7), (61, some 11)], []⟩,
                    ⟨Fact.when ((!(!v15)) = true) (fV Rep.bool v17), [], [(57, some 7), (62, some 12)], []⟩,
                    ⟨Fact.when ((!(!v15)) = true) (fV Rep.bool (!v17)), [], [(57, some 7), (63, some 13)], []⟩,
                    ⟨fV Rep.bool ((!v15) || (!v17)), [], [(57, some 7), (64, some 14)], []⟩] [0, 1, 7, 8, 65] [7] hAt
                    ⟨ok_move rfl opd0,
                    ok_move rfl opd0,
                    ok_index ty84 un82 hv14 rfl opd0 opd1,
                    ok_field GBearing.l2 fo84_2 rfl opd0,
                    ok_load ty3 rfl opd0,
                    ok_call (ok_f_ref09_within N v14.Up 0 1000000 _ hv15) Try.func69 (by kernel_rfl) (by kernel_rfl) rfl ⟨opd0, ⟨opdI, ⟨opdI, trivial⟩⟩⟩,
                    ok_not rfl opd0,
                    ok_move rfl opd0,
                    obl_tf rfl rfl rfl rfl rfl rfl rfl (fun hg => ok_move rfl opd1),
                    obl_tf rfl rfl rfl rfl rfl rfl rfl (fun hg => ok_move rfl opd1),
                    obl_tf rfl rfl rfl rfl rfl rfl rfl (fun hg => ok_index ty84 un82 (iteT hg hv16) rfl (opd1.on hg) (opd2.on hg)),
                    obl_tf rfl rfl rfl rfl rfl rfl rfl (fun hg => ok_field GBearing.l3 fo84_3 rfl (opd1.on hg)),
                    obl_tf rfl rfl rfl rfl rfl rfl rfl (fun hg => ok_load ty3 rfl (opd1.on hg)),
                    obl_tf rfl rfl rfl rfl rfl rfl rfl (fun hg => ok_call (ok_f_ref09_within N v16.Across 0 1000000 _ (iteT hg hv17)) Try.func69 (by kernel_rfl) (by kernel_rfl) rfl ⟨(opd1.on hg), ⟨opdI, ⟨opdI, trivial⟩⟩⟩),
                    obl_tf rfl rfl rfl rfl rfl rfl rfl (fun hg => ok_not rfl (opd1.on hg)),
                    ok_or rfl opd0 (fun e => (opd1.on (notT e))), trivial⟩ (by kernel_rfl) ?_
                clear hAt
                intro a w hAt
                replace hAt : At B h0 (mkG [(0, fV (Rep.slice GTolerance.rep) x0), (1, fV (Rep.slice GBearing.rep) x1), (7, fV (Rep.slice r_i64) s2.1), (8, fV r_i64 s2.2), (65, fV Rep.bool ((!v15) || (!v17)))]) (mkO [(7, tipE 3 r_i64.sz)]) F 110 a w := hAt
                refine then_n ?_
                refine wp_if hAt (by rfl) ?_ ?_
                · intro hb28
                  have H := iteT hb28 H
                  refine wp_seq ?_
                  refine reg [⟨fV (Rep.slice r_i64) [], [(4, some (tipE 3 r_i64.sz))], [], []⟩,
                      ⟨fV r_i64 2, [], [], []⟩] [4, 5] [4] hAt
                      ⟨ok_nilTip rfl (.inl rfl),
                      ok_assign rfl opdI, trivial⟩ (by kernel_rfl) ?_
                  clear hAt
                  intro a w hAt
                  replace hAt : At B h0 (mkG [(4, fV (Rep.slice r_i64) []), (5, fV r_i64 2)]) (mkO [(4, tipE 3 r_i64.sz)]) F 110 a w := hAt
                  refine then_n ?_
                  refine wp_ret ?_
                  refine then_r ?_
                  refine blk_r ?_
                  refine then_r ?_
                  cases H
                  exact ⟨ret_ne, rfl, hAt.pick [4, 5] [4]⟩
                · intro hb28
                  have H := iteF hb28 H
                  refine wp_skip ?_
                  refine then_n ?_
                  refine wp_seq ?_
                  obtain ⟨v18, hv18, H⟩ := bindE H
                  obtain ⟨v19, hv19, H⟩ := bindE H
                  refine reg [⟨fV (Rep.slice GTolerance.rep) x0, [], [(0, none)], []⟩,
                      ⟨fV (Rep.slice GBearing.rep) x1, [], [(1, none)], []⟩,
                      ⟨fV r_i64 s2.2, [], [(8, none)], []⟩,
                      ⟨fRef GBearing.rep v18, [], [(68, some 1), (69, some 2)], []⟩,
                      ⟨fRef r_i64 v18.Diameter, [], [(70, some 3)], []⟩,
                      ⟨fV r_i64 v18.Diameter, [], [(71, some 4)], []⟩,
                      ⟨fT2 (fV r_i64 v19.1) (fV r_i64 v19.2), [], [(67, some 0), (72, some 5)], []⟩,
                      ⟨fT2 (fV r_i64 v19.1) (fV r_i64 v19.2), [], [(73, some 6)], []⟩,
                      ⟨fV r_i64 v19.1, [], [(66, some 7)], []⟩,
                      ⟨fV r_i64 v19.2, [], [(66, some 7)], []⟩,
                      ⟨fV r_i64 v19.1, [], [(74, some 8)], []⟩,
                      ⟨fV r_i64 v19.2, [], [(75, some 9)], []⟩] [0, 1, 7, 8, 10, 11] [7] hAt
                      ⟨ok_move rfl opd0,
                      ok_move rfl opd0,
                      ok_move rfl opd0,
                      ok_index ty84 un82 hv18 rfl opd0 opd1,
                      ok_field GBearing.l1 fo84_1 rfl opd0,
                      ok_load ty3 rfl opd0,
                      ok_call (ok_f_ref09_Allowed N x0 v18.Diameter _ hv19) Try.func46 (by kernel_rfl) (by kernel_rfl) rfl ⟨opd0, ⟨opd1, trivial⟩⟩,
                      ok_move rfl opd0,
                      ok_ext20 rfl rfl opd0,
                      ok_ext21 rfl rfl opd0,
                      ok_assign rfl opd0,
                      ok_assign rfl opd0, trivial⟩ (by kernel_rfl) ?_
                  clear hAt
                  intro a w hAt
                  replace hAt : At B h0 (mkG [(0, fV (Rep.slice GTolerance.rep) x0), (1, fV (Rep.slice GBearing.rep) x1), (7, fV (Rep.slice r_i64) s2.1), (8, fV r_i64 s2.2), (10, fV r_i64 v19.1), (11, fV r_i64 v19.2)]) (mkO [(7, tipE 3 r_i64.sz)]) F 110 a w := hAt
                  refine then_n ?_
                  refine wp_seq ?_
                  refine wp_seq ?_
                  refine reg [⟨fV r_i64 v19.2, [], [(11, none)], []⟩,
                      ⟨fV Rep.bool (cmpI .neq v19.2 0), [], [(76, some 0)], []⟩] [0, 1, 7, 8, 10, 11, 77] [7] hAt
                      ⟨ok_move rfl opd0,
                      ok_cmp (op := .neq) (by simp) rfl rfl opd0 opdI, trivial⟩ (by kernel_rfl) ?_
                  clear hAt
                  intro a w hAt
                  replace hAt : At B h0 (mkG [(0, fV (Rep.slice GTolerance.rep) x0), (1, fV (Rep.slice GBearing.rep) x1), (7, fV (Rep.slice r_i64) s2.1), (8, fV r_i64 s2.2), (10, fV r_i64 v19.1), (11, fV r_i64 v19.2), (77, fV Rep.bool (cmpI .neq v19.2 0))]) (mkO [(7, tipE 3 r_i64.sz)]) F 110 a w := hAt
                  refine then_n ?_
                  refine wp_if hAt (by rfl) ?_ ?_
                  · intro hb27
                    have H := iteT hb27 H
                    refine wp_seq ?_
                    refine reg [⟨fV r_i64 v19.2, [], [(11, none)], []⟩,
                        ⟨fV (Rep.slice r_i64) [], [(4, some (tipE 3 r_i64.sz))], [], []⟩,
                        ⟨fV r_i64 v19.2, [], [(78, some 0)], []⟩] [4, 5] [4] hAt
                        ⟨ok_move rfl opd0,
                        ok_nilTip rfl (.inl rfl),
                        ok_assign rfl opd0, trivial⟩ (by kernel_rfl) ?_
                    clear hAt
                    intro a w hAt
                    replace hAt : At B h0 (mkG [(4, fV (Rep.slice r_i64) []), (5, fV r_i64 v19.2)]) (mkO [(4, tipE 3 r_i64.sz)]) F 110 a w := hAt
                    refine then_n ?_
                    refine wp_ret ?_
                    refine then_r ?_
                    refine blk_r ?_
                    refine then_r ?_
                    cases H
                    exact ⟨ret_ne, rfl, hAt.pick [4, 5] [4]⟩
                  · intro hb27
                    have H := iteF hb27 H
                    refine wp_skip ?_
                    refine then_n ?_
                    refine wp_seq ?_
                    obtain ⟨v20, hv20, H⟩ := bindE H
                    obtain ⟨v21, hv21, H⟩ := bindE H
                    refine regd [⟨fV (Rep.slice GBearing.rep) x1, [], [(1, none)], []⟩,
                        ⟨fV r_i64 s2.2, [], [(8, none)], []⟩,
                        ⟨fRef GBearing.rep v20, [], [(79, some 0), (80, some 1)], []⟩,
                        ⟨fRef r_i64 v20.Up, [], [(81, some 2)], []⟩,
                        ⟨fV r_i64 v20.Up, [], [(82, some 3)], []⟩,
                        ⟨fV (Rep.slice GBearing.rep) x1, [], [(1, none)], []⟩,
                        ⟨fV r_i64 s2.2, [], [(8, none)], []⟩,
                        ⟨fRef GBearing.rep v21, [], [(84, some 5), (85, some 6)], []⟩,
                        ⟨fRef r_i64 v21.Across, [], [(86, some 7)], []⟩,
                        ⟨fV r_i64 v21.Across, [], [(87, some 8)], []⟩,
                        ⟨fV r_i64 (max v20.Up v21.Across), [], [(83, some 4), (88, some 9)], []⟩,
                        ⟨fV r_i64 v19.1, [], [(10, none)], []⟩,
                        ⟨fV r_i64 (IntKind.i64.wrap ((max v20.Up v21.Across) - v19.1)), [], [(89, some 10), (90, some 11)], []⟩,
                        ⟨fV r_i64 (IntKind.i64.wrap ((max v20.Up v21.Across) - v19.1)), [], [(91, some 12)], []⟩] [0, 1, 2, 3, 4, 5, 6, 7, 8, 9, 10, 11, 12, 13] [0, 1, 2, 3, 4, 5, 6, 7, 8, 9, 10, 11, 12, 13] [0, 1, 7, 8, 10, 12] [7] hAt
                        ⟨ok_move rfl opd0,
                        ok_move rfl opd0,
                        ok_index ty84 un82 hv20 rfl opd0 opd1,
                        ok_field GBearing.l2 fo84_2 rfl opd0,
                        ok_load ty3 rfl opd0,
                        ok_move rfl opd0,
                        ok_move rfl opd0,
                        ok_index ty84 un82 hv21 rfl opd0 opd1,
                        ok_field GBearing.l3 fo84_3 rfl opd0,
                        ok_load ty3 rfl opd0,
                        ok_max rfl opd0 opd1,
                        ok_move rfl opd0,
                        ok_sub rfl opd0 opd1,
                        ok_assign rfl opd0, trivial⟩ (by kernel_rfl) ?_
                    clear hAt
                    intro a w hAt
                    replace hAt : At B h0 (mkG [(0, fV (Rep.slice GTolerance.rep) x0), (1, fV (Rep.slice GBearing.rep) x1), (7, fV (Rep.slice r_i64) s2.1), (8, fV r_i64 s2.2), (10, fV r_i64 v19.1), (12, fV r_i64 (IntKind.i64.wrap ((max v20.Up v21.Across) - v19.1)))]) (mkO [(7, tipE 3 r_i64.sz)]) F 110 a w := hAt
                    refine then_n ?_
                    refine wp_block ?_
                    refine wp_seq ?_
                    refine reg [⟨fV r_i64 (IntKind.i64.wrap ((max v20.Up v21.Across) - v19.1)), [], [(12, none)], []⟩,
                        ⟨fV Rep.bool (cmpI .leq (IntKind.i64.wrap ((max v20.Up v21.Across) - v19.1)) 0), [], [(96, some 0)], []⟩,
                        ⟨fV Rep.bool (cmpI .leq (IntKind.i64.wrap ((max v20.Up v21.Across) - v19.1)) 0), [], [(97, some 1)], []⟩] [0, 1, 7, 8, 10, 12, 95] [7] hAt
                        ⟨ok_move rfl opd0,
                        ok_cmp (op := .leq) (by simp) rfl rfl opd0 opdI,
                        ok_assign rfl opd0, trivial⟩ (by kernel_rfl) ?_
                    clear hAt
                    intro a w hAt
                    replace hAt : At B h0 (mkG [(0, fV (Rep.slice GTolerance.rep) x0), (1, fV (Rep.slice GBearing.rep) x1), (7, fV (Rep.slice r_i64) s2.1), (8, fV r_i64 s2.2), (10, fV r_i64 v19.1), (12, fV r_i64 (IntKind.i64.wrap ((max v20.Up v21.Across) - v19.1))), (95, fV Rep.bool (cmpI .leq (IntKind.i64.wrap ((max v20.Up v21.Across) - v19.1)) 0))]) (mkO [(7, tipE 3 r_i64.sz)]) F 110 a w := hAt
                    refine then_n ?_
                    refine wp_if hAt (by rfl) ?_ ?_
                    · intro hb26
                      have H := iteT hb26 H
                      obtain ⟨v22, hv22, H⟩ := bindE H
                      refine reg [⟨fV (Rep.slice r_i64) s2.1, [(7, none), (98, some (tipE 3 r_i64.sz))], [(7, none)], [(7, none)]⟩,
                          ⟨fV (Rep.slice r_i64) [0], [], [], []⟩,
                          ⟨fV (Rep.slice r_i64) v22, [(98, none), (100, some (tipE 3 r_i64.sz))], [(98, some 0), (99, some 1)], [(98, some 0)]⟩,
                          ⟨fV (Rep.slice r_i64) v22, [(100, none), (7, some (tipE 3 r_i64.sz))], [(100, some 2)], [(100, some 2)]⟩] [0, 1, 7, 8] [7] hAt
                          ⟨ok_moveOwn rfl rfl (.inl rfl) opd0,
                          ok_buildSlice ty3 un22 rfl rfl (fillC (Lens.arr _ _ 0 (by decide)) rfl opdI fillN),
                          ok_append hv22 el3 un22 rfl rfl rfl opd0 opd1,
                          ok_moveOwn rfl rfl (.inr rfl) opd0, trivial⟩ (by kernel_rfl) ?_
                      clear hAt
                      intro a w hAt
                      replace hAt : At B h0 (mkG [(0, fV (Rep.slice GTolerance.rep) x0), (1, fV (Rep.slice GBearing.rep) x1), (7, fV (Rep.slice r_i64) v22), (8, fV r_i64 s2.2)]) (mkO [(7, tipE 3 r_i64.sz)]) F 110 a w := hAt
                      refine blk_n ?_
                      refine blk_n ?_
                      refine then_n ?_
                      refine reg [⟨fV r_i64 s2.2, [], [(8, none)], []⟩,
                          ⟨fV r_i64 (IntKind.i64.wrap (s2.2 + 1)), [], [(25, some 0)], []⟩,
                          ⟨fV r_i64 (IntKind.i64.wrap (s2.2 + 1)), [], [(26, some 1)], []⟩] [0, 1, 7, 8] [7] hAt
                          ⟨ok_move rfl opd0,
                          ok_add rfl opd0 opdI,
                          ok_assign rfl opd0, trivial⟩ (by kernel_rfl) ?_
                      clear hAt
                      intro a w hAt
                      replace hAt : At B h0 (mkG [(0, fV (Rep.slice GTolerance.rep) x0), (1, fV (Rep.slice GBearing.rep) x1), (7, fV (Rep.slice r_i64) v22), (8, fV r_i64 (IntKind.i64.wrap (s2.2 + 1)))]) (mkO [(7, tipE 3 r_i64.sz)]) F 110 a w := hAt
                      cases H
                      exact ⟨rfl, hAt.pick [0, 1, 7, 8] [7]⟩
                    · intro hb26
                      have H := iteF hb26 H
                      refine wp_seq ?_
                      refine reg [⟨fV r_i64 (IntKind.i64.wrap ((max v20.Up v21.Across) - v19.1)), [], [(12, none)], []⟩,
                          ⟨fV r_i64 (IntKind.i64.wrap (4 * (IntKind.i64.wrap ((max v20.Up v21.Across) - v19.1)))), [], [(102, some 0)], []⟩,
                          ⟨fV r_i64 v19.1, [], [(10, none)], []⟩,
                          ⟨fV Rep.bool (cmpI .lss (IntKind.i64.wrap (4 * (IntKind.i64.wrap ((max v20.Up v21.Across) - v19.1)))) v19.1), [], [(103, some 1), (104, some 2)], []⟩,
                          ⟨fV Rep.bool (cmpI .lss (IntKind.i64.wrap (4 * (IntKind.i64.wrap ((max v20.Up v21.Across) - v19.1)))) v19.1), [], [(105, some 3)], []⟩] [0, 1, 7, 8, 101] [7] hAt
                          ⟨ok_move rfl opd0,
                          ok_mul rfl opdI opd0,
                          ok_move rfl opd0,
                          ok_cmp (op := .lss) (by simp) rfl rfl opd0 opd1,
                          ok_assign rfl opd0, trivial⟩ (by kernel_rfl) ?_
                      clear hAt
                      intro a w hAt
                      replace hAt : At B h0 (mkG [(0, fV (Rep.slice GTolerance.rep) x0), (1, fV (Rep.slice GBearing.rep) x1), (7, fV (Rep.slice r_i64) s2.1), (8, fV r_i64 s2.2), (101, fV Rep.bool (cmpI .lss (IntKind.i64.wrap (4 * (IntKind.i64.wrap ((max v20.Up v21.Across) - v19.1)))) v19.1))]) (mkO [(7, tipE 3 r_i64.sz)]) F 110 a w := hAt
                      refine then_n ?_
                      refine wp_if hAt (by rfl) ?_ ?_
                      · intro hb25
                        have H := iteT hb25 H
                        obtain ⟨v23, hv23, H⟩ := bindE H
                        refine reg [⟨fV (Rep.slice r_i64) s2.1, [(7, none), (106, some (tipE 3 r_i64.sz))], [(7, none)], [(7, none)]⟩,
                            ⟨fV (Rep.slice r_i64) [1], [], [], []⟩,
                            ⟨fV (Rep.slice r_i64) v23, [(106, none), (108, some (tipE 3 r_i64.sz))], [(106, some 0), (107, some 1)], [(106, some 0)]⟩,
                            ⟨fV (Rep.slice r_i64) v23, [(108, none), (7, some (tipE 3 r_i64.sz))], [(108, some 2)], [(108, some 2)]⟩] [0, 1, 7, 8] [7] hAt
                            ⟨ok_moveOwn rfl rfl (.inl rfl) opd0,
                            ok_buildSlice ty3 un22 rfl rfl (fillC (Lens.arr _ _ 0 (by decide)) rfl opdI fillN),
                            ok_append hv23 el3 un22 rfl rfl rfl opd0 opd1,
                            ok_moveOwn rfl rfl (.inr rfl) opd0, trivial⟩ (by kernel_rfl) ?_
                        clear hAt
                        intro a w hAt
                        replace hAt : At B h0 (mkG [(0, fV (Rep.slice GTolerance.rep) x0), (1, fV (Rep.slice GBearing.rep) x1), (7, fV (Rep.slice r_i64) v23), (8, fV r_i64 s2.2)]) (mkO [(7, tipE 3 r_i64.sz)]) F 110 a w := hAt
                        refine blk_n ?_
                        refine blk_n ?_
                        refine then_n ?_
                        refine reg [⟨fV r_i64 s2.2, [], [(8, none)], []⟩,
                            ⟨fV r_i64 (IntKind.i64.wrap (s2.2 + 1)), [], [(25, some 0)], []⟩,
                            ⟨fV r_i64 (IntKind.i64.wrap (s2.2 + 1)), [], [(26, some 1)], []⟩] [0, 1, 7, 8] [7] hAt
                            ⟨ok_move rfl opd0,
                            ok_add rfl opd0 opdI,
                            ok_assign rfl opd0, trivial⟩ (by kernel_rfl) ?_
                        clear hAt
                        intro a w hAt
                        replace hAt : At B h0 (mkG [(0, fV (Rep.slice GTolerance.rep) x0), (1, fV (Rep.slice GBearing.rep) x1), (7, fV (Rep.slice r_i64) v23), (8, fV r_i64 (IntKind.i64.wrap (s2.2 + 1)))]) (mkO [(7, tipE 3 r_i64.sz)]) F 110 a w := hAt
                        cases H
                        exact ⟨rfl, hAt.pick [0, 1, 7, 8] [7]⟩
                      · intro hb25
                        have H := iteF hb25 H
                        obtain ⟨v24, hv24, H⟩ := bindE H
                        refine reg [⟨fV (Rep.slice r_i64) s2.1, [(7, none), (92, some (tipE 3 r_i64.sz))], [(7, none)], [(7, none)]⟩,
                            ⟨fV (Rep.slice r_i64) [2], [], [], []⟩,
                            ⟨fV (Rep.slice r_i64) v24, [(92, none), (94, some (tipE 3 r_i64.sz))], [(92, some 0), (93, some 1)], [(92, some 0)]⟩,
                            ⟨fV (Rep.slice r_i64) v24, [(94, none), (7, some (tipE 3 r_i64.sz))], [(94, some 2)], [(94, some 2)]⟩] [0, 1, 7, 8] [7] hAt
                            ⟨ok_moveOwn rfl rfl (.inl rfl) opd0,
                            ok_buildSlice ty3 un22 rfl rfl (fillC (Lens.arr _ _ 0 (by decide)) rfl opdI fillN),
                            ok_append hv24 el3 un22 rfl rfl rfl opd0 opd1,
                            ok_moveOwn rfl rfl (.inr rfl) opd0, trivial⟩ (by kernel_rfl) ?_
                        clear hAt
                        intro a w hAt
                        replace hAt : At B h0 (mkG [(0, fV (Rep.slice GTolerance.rep) x0), (1, fV (Rep.slice GBearing.rep) x1), (7, fV (Rep.slice r_i64) v24), (8, fV r_i64 s2.2)]) (mkO [(7, tipE 3 r_i64.sz)]) F 110 a w := hAt
                        refine blk_n ?_
                        refine blk_n ?_
                        refine then_n ?_
                        refine reg [⟨fV r_i64 s2.2, [], [(8, none)], []⟩,
                            ⟨fV r_i64 (IntKind.i64.wrap (s2.2 + 1)), [], [(25, some 0)], []⟩,
                            ⟨fV r_i64 (IntKind.i64.wrap (s2.2 + 1)), [], [(26, some 1)], []⟩] [0, 1, 7, 8] [7] hAt
                            ⟨ok_move rfl opd0,
                            ok_add rfl opd0 opdI,
                            ok_assign rfl opd0, trivial⟩ (by kernel_rfl) ?_
                        clear hAt
                        intro a w hAt
                        replace hAt : At B h0 (mkG [(0, fV (Rep.slice GTolerance.rep) x0), (1, fV (Rep.slice GBearing.rep) x1), (7, fV (Rep.slice r_i64) v24), (8, fV r_i64 (IntKind.i64.wrap (s2.2 + 1)))]) (mkO [(7, tipE 3 r_i64.sz)]) F 110 a w := hAt
                        cases H
                        exact ⟨rfl, hAt.pick [0, 1, 7, 8] [7]⟩
              | inr r13 =>
                rw [Sum.elim_inr] at H
                replace hp := hp
                obtain ⟨rfl, hAt⟩ := hp
                refine blk_r ?_
                refine then_r ?_
                refine blk_r ?_
                refine then_r ?_
                cases H
                exact ⟨ret_ne, rfl, hAt.pick [4, 5] [4]⟩
        · intro hb31
          have H := iteF hb31 H
          refine wp_exit ?_
          refine then_x ?_
          cases H
          exact ⟨ex_ne, rfl, hAt.pick [7] [7]⟩
      · exact hAt.pick [0, 1, 7, 8] [7]
      · clear hAt
        intro e a w hp
        cases o32 with
        | inl l34 =>
          rw [Sum.elim_inl] at H
          obtain ⟨rfl, hAt⟩ := hp
          refine blk_eq ?_
          refine then_n ?_
          refine wp_seq ?_
          refine reg [⟨fV (Rep.slice r_i64) l34, [], [(7, none)], []⟩,
              ⟨fV (Rep.slice r_i64) l34, [], [(109, some 0)], []⟩,
              ⟨fV r_i64 0, [], [], []⟩] [4, 5] [] hAt
              ⟨ok_move rfl opd0,
              ok_assign rfl opd0,
              ok_assign rfl opdI, trivial⟩ (by kernel_rfl) ?_
          clear hAt
          intro a w hAt
          replace hAt : At B h0 (mkG [(4, fV (Rep.slice r_i64) l34), (5, fV r_i64 0)]) (mkO []) F 110 a w := hAt
          refine then_n ?_
          refine wp_ret ?_
          cases H
          exact ret2 rfl (rv_tmp rfl rfl) (rv_tmp rfl rfl) hAt
        | inr r35 =>
          rw [Sum.elim_inr] at H
          replace hp := hp
          obtain ⟨rfl, hAt⟩ := hp
          refine blk_r ?_
          refine then_r ?_
          cases H
          exact ret2 rfl (rv_tmp rfl rfl) (rv_tmp rfl rfl) hAt
theorem ok_f_law09_SurveyClearances (N : Nat) (x0 : (List GTolerance)) (x1 : (List GBearing)) (x2 : Int) (r : Bool) (H : f_law09_SurveyClearances N x0 x1 x2 = some r) : FnOk Try.prog 8 [fV (Rep.slice GTolerance.rep) x0, fV (Rep.slice GBearing.rep) x1, fV r_i64 x2] (fV Rep.bool r) := by
  unfold f_law09_SurveyClearances at H
  refine fn_enter Try.func8 rfl rfl (by kernel_rfl) ?_
  intro κ B h0 F a w hAt
  refine wp_seq ?_
  refine reg [⟨fV Rep.bool false, [], [], []⟩] [0, 1, 2] [] hAt
      ⟨ok_assign rfl opdB, trivial⟩ (by kernel_rfl) ?_
  clear hAt
  intro a w hAt
  replace hAt : At B h0 (mkG [(0, fV (Rep.slice GTolerance.rep) x0), (1, fV (Rep.slice GBearing.rep) x1), (2, fV r_i64 x2)]) (mkO []) F 81 a w := hAt
  refine then_n ?_
  refine wp_seq ?_
  refine wp_seq ?_
  obtain ⟨v1, hv1, H⟩ := bindE H
  refine reg [⟨fV Rep.bool v1, [], [], []⟩,
      ⟨fV Rep.bool (!v1), [], [(16, some 0)], []⟩] [0, 1, 2, 17] [] hAt
      ⟨ok_call (ok_f_law09_awake N _ hv1) Try.func14 (by kernel_rfl) (by kernel_rfl) rfl trivial,
      ok_not rfl opd0, trivial⟩ (by kernel_rfl) ?_
  clear hAt
  intro a w hAt
  replace hAt : At B h0 (mkG [(0, fV (Rep.slice GTolerance.rep) x0), (1, fV (Rep.slice GBearing.rep) x1), (2, fV r_i64 x2), (17, fV Rep.bool (!v1))]) (mkO []) F 81 a w := hAt
  refine then_n ?_
  refine wp_if hAt (by rfl) ?_ ?_
  · intro hb17
    have H := iteT hb17 H
    refine wp_seq ?_
    refine reg [⟨fV Rep.bool false, [], [], []⟩] [6] [] hAt
        ⟨ok_assign rfl opdB, trivial⟩ (by kernel_rfl) ?_
    clear hAt
    intro a w hAt
    replace hAt : At B h0 (mkG [(6, fV Rep.bool false)]) (mkO []) F 81 a w := hAt
    refine then_n ?_
    refine wp_ret ?_
    refine then_r ?_
    cases H
    exact ret1 rfl (rv_tmp rfl rfl) hAt
  · intro hb17
    have H := iteF hb17 H
    refine wp_skip ?_
    refine then_n ?_
    refine wp_seq ?_
    refine wp_seq ?_
    refine reg [⟨fV (Rep.slice GTolerance.rep) x0, [], [(0, none)], []⟩,
        ⟨fV r_i64 (List.length x0 : Int), [], [(18, some 0)], []⟩,
        ⟨fV Rep.bool (cmpI .gtr (List.length x0 : Int) 45), [], [(19, some 1)], []⟩,
        ⟨fV Rep.bool (cmpI .gtr (List.length x0 : Int) 45), [], [(20, some 2)], []⟩,
        ⟨Fact.when ((!(cmpI .gtr (List.length x0 : Int) 45)) = true) (fV (Rep.slice GBearing.rep) x1), [], [(21, some 3), (1, none)], []⟩,
        ⟨Fact.when ((!(cmpI .gtr (List.length x0 : Int) 45)) = true) (fV r_i64 (List.length x1 : Int)), [], [(21, some 3), (22, some 4)], []⟩,
        ⟨Fact.when ((!(cmpI .gtr (List.length x0 : Int) 45)) = true) (fV Rep.bool (cmpI .gtr (List.length x1 : Int) 45)), [], [(21, some 3), (23, some 5)], []⟩,
        ⟨fV Rep.bool ((cmpI .gtr (List.length x0 : Int) 45) || (cmpI .gtr (List.length x1 : Int) 45)), [], [(21, some 3), (24, some 6)], []⟩] [0, 1, 2, 25] [] hAt
        ⟨ok_move rfl opd0,
        ok_len un81 rfl opd0,
        ok_cmp (op := .gtr) (by simp) rfl rfl opd0 opdI,
        ok_move rfl opd0,
        obl_tf rfl rfl rfl rfl rfl rfl rfl (fun hg => ok_move rfl opd1),
        obl_tf rfl rfl rfl rfl rfl rfl rfl (fun hg => ok_len un82 rfl (opd1.on hg)),
        obl_tf rfl rfl rfl rfl rfl rfl rfl (fun hg => ok_cmp (op := .gtr) (by simp) rfl rfl (opd1.on hg) opdI),
        ok_or rfl opd0 (fun e => (opd1.on (notT e))), trivial⟩ (by kernel_rfl) ?_
    clear hAt
    intro a w hAt
    replace hAt : At B h0 (mkG [(0, fV (Rep.slice GTolerance.rep) x0), (1, fV (Rep.slice GBearing.rep) x1), (2, fV r_i64 x2), (25, fV Rep.bool ((cmpI .gtr (List.length x0 : Int) 45) || (cmpI .gtr (List.length x1 : Int) 45)))]) (mkO []) F 81 a w := hAt
    refine then_n ?_
    refine wp_if hAt (by rfl) ?_ ?_
    · intro hb16
      have H := iteT hb16 H
      refine wp_seq ?_
      refine reg [⟨fV Rep.bool true, [], [], []⟩] [6] [] hAt
          ⟨ok_assign rfl opdB, trivial⟩ (by kernel_rfl) ?_
      clear hAt
      intro a w hAt
      replace hAt : At B h0 (mkG [(6, fV Rep.bool true)]) (mkO []) F 81 a w := hAt
      refine then_n ?_
      refine wp_ret ?_
      refine then_r ?_
      cases H
      exact ret1 rfl (rv_tmp rfl rfl) hAt
    · intro hb16
      have H := iteF hb16 H
      refine wp_skip ?_
      refine then_n ?_
      refine wp_seq ?_
      refine wp_seq ?_
      refine reg [⟨fV r_i64 0, [], [], []⟩] [0, 1, 2, 7] [] hAt
          ⟨ok_assign rfl opdI, trivial⟩ (by kernel_rfl) ?_
      clear hAt
      intro a w hAt
      replace hAt : At B h0 (mkG [(0, fV (Rep.slice GTolerance.rep) x0), (1, fV (Rep.slice GBearing.rep) x1), (2, fV r_i64 x2), (7, fV r_i64 0)]) (mkO []) F 81 a w := hAt
      refine then_n ?_
      refine wp_block ?_
      obtain ⟨o6, hl7, H⟩ := bindE H
      refine wp_mono (wp_loopN (f := f_law09_SurveyClearances_L1 N x1) (fun (s2 : Int) a w => At B h0 (mkG [(0, fV (Rep.slice GTolerance.rep) x0), (1, fV (Rep.slice GBearing.rep) x1), (2, fV r_i64 x2), (7, fV r_i64 s2)]) (mkO []) F 81 a w) (fun o e a w => (Sum.elim (fun v => e = .exit 0 ∧ At B h0 (mkG [(0, fV (Rep.slice GTolerance.rep) x0), (1, fV (Rep.slice GBearing.rep) x1), (2, fV r_i64 x2)]) (mkO []) F 81 a w) (fun v => e = .ret ∧ At B h0 (mkG [(6, fV Rep.bool v)]) (mkO []) F 81 a w)) o) ?_ N 0 o6 _ _ hl7 ?_) ?_
      · clear H hAt hl7
        intro s2 r15 a w H hAt
        unfold f_law09_SurveyClearances_L1 at H
        refine wp_seq ?_
        refine wp_seq ?_
        refine reg [⟨fV r_i64 s2, [], [(7, none)], []⟩,
            ⟨fV (Rep.slice GBearing.rep) x1, [], [(1, none)], []⟩,
            ⟨fV r_i64 (List.length x1 : Int), [], [(27, some 1)], []⟩,
            ⟨fV Rep.bool (cmpI .lss s2 (List.length x1 : Int)), [], [(26, some 0), (28, some 2)], []⟩] [0, 1, 2, 7, 29] [] hAt
            ⟨ok_move rfl opd0,
            ok_move rfl opd0,
            ok_len un82 rfl opd0,
            ok_cmp (op := .lss) (by simp) rfl rfl opd0 opd1, trivial⟩ (by kernel_rfl) ?_
        clear hAt
        intro a w hAt
        replace hAt : At B h0 (mkG [(0, fV (Rep.slice GTolerance.rep) x0), (1, fV (Rep.slice GBearing.rep) x1), (2, fV r_i64 x2), (7, fV r_i64 s2), (29, fV Rep.bool (cmpI .lss s2 (List.length x1 : Int)))]) (mkO []) F 81 a w := hAt
        refine then_n ?_
        refine wp_if hAt (by rfl) ?_ ?_
        · intro hb5
          have H := iteT hb5 H
          refine wp_skip ?_
          refine then_n ?_
          refine wp_seq ?_
          refine wp_block ?_
          refine wp_seq ?_
          obtain ⟨v3, hv3, H⟩ := bindE H
          refine reg [⟨fV (Rep.slice GBearing.rep) x1, [], [(1, none)], []⟩,
              ⟨fV r_i64 s2, [], [(7, none)], []⟩,
              ⟨fRef GBearing.rep v3, [], [(32, some 0), (33, some 1)], []⟩,
              ⟨fRef Rep.str v3.Name, [], [(34, some 2)], []⟩,
              ⟨fV Rep.str v3.Name, [], [(35, some 3)], []⟩,
              ⟨fV r_i64 (List.length v3.Name : Int), [], [(36, some 4)], []⟩,
              ⟨fV Rep.bool (cmpI .gtr (List.length v3.Name : Int) 50), [], [(37, some 5)], []⟩] [0, 1, 2, 7, 38] [] hAt
              ⟨ok_move rfl opd0,
              ok_move rfl opd0,
              ok_index ty84 un82 hv3 rfl opd0 opd1,
              ok_field GBearing.l0 fo84_0 rfl opd0,
              ok_load ty9 rfl opd0,
              ok_lenS un9 rfl opd0,
              ok_cmp (op := .gtr) (by simp) rfl rfl opd0 opdI, trivial⟩ (by kernel_rfl) ?_
          clear hAt
          intro a w hAt
          replace hAt : At B h0 (mkG [(0, fV (Rep.slice GTolerance.rep) x0), (1, fV (Rep.slice GBearing.rep) x1), (2, fV r_i64 x2), (7, fV r_i64 s2), (38, fV Rep.bool (cmpI .gtr (List.length v3.Name : Int) 50))]) (mkO []) F 81 a w := hAt
          refine then_n ?_
          refine wp_if hAt (by rfl) ?_ ?_
          · intro hb4
            have H := iteT hb4 H
            refine wp_seq ?_
            refine reg [⟨fV Rep.bool true, [], [], []⟩] [6] [] hAt
                ⟨ok_assign rfl opdB, trivial⟩ (by kernel_rfl) ?_
            clear hAt
            intro a w hAt
            replace hAt : At B h0 (mkG [(6, fV Rep.bool true)]) (mkO []) F 81 a w := hAt
            refine then_n ?_
            refine wp_ret ?_
            refine blk_r ?_
            refine then_r ?_
            cases H
            exact ⟨ret_ne, rfl, hAt.pick [6] []⟩
          · intro hb4
            have H := iteF hb4 H
            refine wp_skip ?_
            refine blk_n ?_
            refine then_n ?_
            refine reg [⟨fV r_i64 s2, [], [(7, none)], []⟩,
                ⟨fV r_i64 (IntKind.i64.wrap (s2 + 1)), [], [(30, some 0)], []⟩,
                ⟨fV r_i64 (IntKind.i64.wrap (s2 + 1)), [], [(31, some 1)], []⟩] [0, 1, 2, 7] [] hAt
                ⟨ok_move rfl opd0,
                ok_add rfl opd0 opdI,
                ok_assign rfl opd0, trivial⟩ (by kernel_rfl) ?_
            clear hAt
            intro a w hAt
            replace hAt : At B h0 (mkG [(0, fV (Rep.slice GTolerance.rep) x0), (1, fV (Rep.slice GBearing.rep) x1), (2, fV r_i64 x2), (7, fV r_i64 (IntKind.i64.wrap (s2 + 1)))]) (mkO []) F 81 a w := hAt
            cases H
            exact ⟨rfl, hAt.pick [0, 1, 2, 7] []⟩
        · intro hb5
          have H := iteF hb5 H
          refine wp_exit ?_
          refine then_x ?_
          cases H
          exact ⟨ex_ne, rfl, hAt.pick [0, 1, 2] []⟩
      · exact hAt.pick [0, 1, 2, 7] []
      · clear hAt
        intro e a w hp
        cases o6 with
        | inl l8 =>
          rw [Sum.elim_inl] at H
          obtain ⟨rfl, hAt⟩ := hp
          refine blk_eq ?_
          refine then_n ?_
          refine wp_seq ?_
          obtain ⟨v10, hv10, H⟩ := bindE H
          refine reg [⟨fV (Rep.slice GTolerance.rep) x0, [], [(0, none)], []⟩,
              ⟨fV r_i64 x2, [], [(2, none)], []⟩,
              ⟨fT2 (fV r_i64 v10.1) (fV r_i64 v10.2), [], [(40, some 0), (41, some 1)], []⟩,
              ⟨fT2 (fV r_i64 v10.1) (fV r_i64 v10.2), [], [(42, some 2)], []⟩,
              ⟨fV r_i64 v10.1, [], [(39, some 3)], []⟩,
              ⟨fV r_i64 v10.2, [], [(39, some 3)], []⟩,
              ⟨fV r_i64 v10.1, [], [(43, some 4)], []⟩,
              ⟨fV r_i64 v10.2, [], [(44, some 5)], []⟩] [0, 1, 2, 8, 9] [] hAt
              ⟨ok_move rfl opd0,
              ok_move rfl opd0,
              ok_call (ok_f_survey_Allowed N x0 x2 _ hv10) Try.func45 (by kernel_rfl) (by kernel_rfl) rfl ⟨opd0, ⟨opd1, trivial⟩⟩,
              ok_move rfl opd0,
              ok_ext20 rfl rfl opd0,
              ok_ext21 rfl rfl opd0,
              ok_assign rfl opd0,
              ok_assign rfl opd0, trivial⟩ (by kernel_rfl) ?_
          clear hAt
          intro a w hAt
          replace hAt : At B h0 (mkG [(0, fV (Rep.slice GTolerance.rep) x0), (1, fV (Rep.slice GBearing.rep) x1), (2, fV r_i64 x2), (8, fV r_i64 v10.1), (9, fV r_i64 v10.2)]) (mkO []) F 81 a w := hAt
          refine then_n ?_
          refine wp_seq ?_
          obtain ⟨v11, hv11, H⟩ := bindE H
          refine reg [⟨fV (Rep.slice GTolerance.rep) x0, [], [(0, none)], []⟩,
              ⟨fV r_i64 x2, [], [(2, none)], []⟩,
              ⟨fT2 (fV r_i64 v11.1) (fV r_i64 v11.2), [], [(46, some 0), (47, some 1)], []⟩,
              ⟨fT2 (fV r_i64 v11.1) (fV r_i64 v11.2), [], [(48, some 2)], []⟩,
              ⟨fV r_i64 v11.1, [], [(45, some 3)], []⟩,
              ⟨fV r_i64 v11.2, [], [(45, some 3)], []⟩,
              ⟨fV r_i64 v11.1, [], [(49, some 4)], []⟩,
              ⟨fV r_i64 v11.2, [], [(50, some 5)], []⟩] [0, 1, 8, 9, 10, 11] [] hAt
              ⟨ok_move rfl opd0,
              ok_move rfl opd0,
              ok_call (ok_f_ref09_Allowed N x0 x2 _ hv11) Try.func46 (by kernel_rfl) (by kernel_rfl) rfl ⟨opd0, ⟨opd1, trivial⟩⟩,
              ok_move rfl opd0,
              ok_ext20 rfl rfl opd0,
              ok_ext21 rfl rfl opd0,
              ok_assign rfl opd0,
              ok_assign rfl opd0, trivial⟩ (by kernel_rfl) ?_
          clear hAt
          intro a w hAt
          replace hAt : At B h0 (mkG [(0, fV (Rep.slice GTolerance.rep) x0), (1, fV (Rep.slice GBearing.rep) x1), (8, fV r_i64 v10.1), (9, fV r_i64 v10.2), (10, fV r_i64 v11.1), (11, fV r_i64 v11.2)]) (mkO []) F 81 a w := hAt
          refine then_n ?_
          refine wp_seq ?_
          obtain ⟨v12, hv12, H⟩ := bindE H
          refine reg [⟨fV (Rep.slice GTolerance.rep) x0, [], [(0, none)], []⟩,
              ⟨fV (Rep.slice GBearing.rep) x1, [], [(1, none)], []⟩,
              ⟨fT2 (fV (Rep.slice r_i64) v12.1) (fV r_i64 v12.2), [], [(52, some 0), (53, some 1)], []⟩,
              ⟨fT2 (fV (Rep.slice r_i64) v12.1) (fV r_i64 v12.2), [], [(54, some 2)], []⟩,
              ⟨fV (Rep.slice r_i64) v12.1, [], [(51, some 3)], []⟩,
              ⟨fV r_i64 v12.2, [], [(51, some 3)], []⟩,
              ⟨fV (Rep.slice r_i64) v12.1, [], [(55, some 4)], []⟩,
              ⟨fV r_i64 v12.2, [], [(56, some 5)], []⟩] [0, 1, 8, 9, 10, 11, 12, 13] [] hAt
              ⟨ok_move rfl opd0,
              ok_move rfl opd0,
              ok_call (ok_f_survey_Clearances N x0 x1 _ hv12) Try.func47 (by kernel_rfl) (by kernel_rfl) rfl ⟨opd0, ⟨opd1, trivial⟩⟩,
              ok_move rfl opd0,
              ok_ext20 rfl rfl opd0,
              ok_ext21 rfl rfl opd0,
              ok_assign rfl opd0,
              ok_assign rfl opd0, trivial⟩ (by kernel_rfl) ?_
          clear hAt
          intro a w hAt
          replace hAt : At B h0 (mkG [(0, fV (Rep.slice GTolerance.rep) x0), (1, fV (Rep.slice GBearing.rep) x1), (8, fV r_i64 v10.1), (9, fV r_i64 v10.2), (10, fV r_i64 v11.1), (11, fV r_i64 v11.2), (12, fV (Rep.slice r_i64) v12.1), (13, fV r_i64 v12.2)]) (mkO []) F 81 a w := hAt
          refine then_n ?_
          refine wp_seq ?_
          obtain ⟨v13, hv13, H⟩ := bindE H
          refine reg [⟨fV (Rep.slice GTolerance.rep) x0, [], [(0, none)], []⟩,
              ⟨fV (Rep.slice GBearing.rep) x1, [], [(1, none)], []⟩,
              ⟨fT2 (fV (Rep.slice r_i64) v13.1) (fV r_i64 v13.2), [], [(58, some 0), (59, some 1)], []⟩,
              ⟨fT2 (fV (Rep.slice r_i64) v13.1) (fV r_i64 v13.2), [], [(60, some 2)], []⟩,
              ⟨fV (Rep.slice r_i64) v13.1, [], [(57, some 3)], []⟩,
              ⟨fV r_i64 v13.2, [], [(57, some 3)], []⟩,
              ⟨fV (Rep.slice r_i64) v13.1, [], [(61, some 4)], []⟩,
              ⟨fV r_i64 v13.2, [], [(62, some 5)], []⟩] [8, 9, 10, 11, 12, 13, 14, 15] [] hAt
              ⟨ok_move rfl opd0,
              ok_move rfl opd0,
              ok_call (ok_f_ref09_Clearances N x0 x1 _ hv13) Try.func48 (by kernel_rfl) (by kernel_rfl) rfl ⟨opd0, ⟨opd1, trivial⟩⟩,
              ok_move rfl opd0,
              ok_ext20 rfl rfl opd0,
              ok_ext21 rfl rfl opd0,
              ok_assign rfl opd0,
              ok_assign rfl opd0, trivial⟩ (by kernel_rfl) ?_
          clear hAt
          intro a w hAt
          replace hAt : At B h0 (mkG [(8, fV r_i64 v10.1), (9, fV r_i64 v10.2), (10, fV r_i64 v11.1), (11, fV r_i64 v11.2), (12, fV (Rep.slice r_i64) v12.1), (13, fV r_i64 v12.2), (14, fV (Rep.slice r_i64) v13.1), (15, fV r_i64 v13.2)]) (mkO []) F 81 a w := hAt
          refine then_n ?_
          refine wp_seq ?_
          obtain ⟨v14, hv14, H⟩ := bindE H
          refine reg [⟨fV r_i64 v10.1, [], [(8, none)], []⟩,
              ⟨fV r_i64 v11.1, [], [(10, none)], []⟩,
              ⟨fV Rep.bool (cmpI .eql v10.1 v11.1), [], [(63, some 0), (64, some 1)], []⟩,
              ⟨fV Rep.bool (cmpI .eql v10.1 v11.1), [], [(65, some 2)], []⟩,
              ⟨Fact.when ((cmpI .eql v10.1 v11.1) = true) (fV r_i64 v10.2), [], [(66, some 3), (9, none)], []⟩,
              ⟨Fact.when ((cmpI .eql v10.1 v11.1) = true) (fV r_i64 v11.2), [], [(66, some 3), (11, none)], []⟩,
              ⟨Fact.when ((cmpI .eql v10.1 v11.1) = true) (fV Rep.bool (cmpI .eql v10.2 v11.2)), [], [(66, some 3), (67, some 4), (68, some 5)], []⟩,
              ⟨fV Rep.bool ((cmpI .eql v10.1 v11.1) && (cmpI .eql v10.2 v11.2)), [], [(66, some 3), (69, some 6)], []⟩,
              ⟨fV Rep.bool ((cmpI .eql v10.1 v11.1) && (cmpI .eql v10.2 v11.2)), [], [(70, some 7)], []⟩,
              ⟨Fact.when (((cmpI .eql v10.1 v11.1) && (cmpI .eql v10.2 v11.2)) = true) (fV (Rep.slice r_i64) v12.1), [], [(71, some 8), (12, none)], []⟩,
              ⟨Fact.when (((cmpI .eql v10.1 v11.1) && (cmpI .eql v10.2 v11.2)) = true) (fV (Rep.slice r_i64) v13.1), [], [(71, some 8), (14, none)], []⟩,
              ⟨Fact.when (((cmpI .eql v10.1 v11.1) && (cmpI .eql v10.2 v11.2)) = true) (fV Rep.bool v14), [], [(71, some 8), (72, some 9), (73, some 10)], []⟩,
              ⟨fV Rep.bool (((cmpI .eql v10.1 v11.1) && (cmpI .eql v10.2 v11.2)) && v14), [], [(71, some 8), (74, some 11)], []⟩,
              ⟨fV Rep.bool (((cmpI .eql v10.1 v11.1) && (cmpI .eql v10.2 v11.2)) && v14), [], [(75, some 12)], []⟩,
              ⟨Fact.when ((((cmpI .eql v10.1 v11.1) && (cmpI .eql v10.2 v11.2)) && v14) = true) (fV r_i64 v12.2), [], [(76, some 13), (13, none)], []⟩,
              ⟨Fact.when ((((cmpI .eql v10.1 v11.1) && (cmpI .eql v10.2 v11.2)) && v14) = true) (fV r_i64 v13.2), [], [(76, some 13), (15, none)], []⟩,
              ⟨Fact.when ((((cmpI .eql v10.1 v11.1) && (cmpI .eql v10.2 v11.2)) && v14) = true) (fV Rep.bool (cmpI .eql v12.2 v13.2)), [], [(76, some 13), (77, some 14), (78, some 15)], []⟩,
              ⟨fV Rep.bool ((((cmpI .eql v10.1 v11.1) && (cmpI .eql v10.2 v11.2)) && v14) && (cmpI .eql v12.2 v13.2)), [], [(76, some 13), (79, some 16)], []⟩,
              ⟨fV Rep.bool ((((cmpI .eql v10.1 v11.1) && (cmpI .eql v10.2 v11.2)) && v14) && (cmpI .eql v12.2 v13.2)), [], [(80, some 17)], []⟩] [6] [] hAt
              ⟨ok_move rfl opd0,
              ok_move rfl opd0,
              ok_cmp (op := .eql) (by simp) rfl rfl opd0 opd1,
              ok_move rfl opd0,
              obl_tt rfl rfl rfl rfl rfl rfl rfl (fun hg => ok_move rfl opd1),
              obl_tt rfl rfl rfl rfl rfl rfl rfl (fun hg => ok_move rfl opd1),
              obl_tt rfl rfl rfl rfl rfl rfl rfl (fun hg => ok_cmp (op := .eql) (by simp) rfl rfl (opd1.on hg) (opd2.on hg)),
              ok_and rfl opd0 (fun e => (opd1.on e)),
              ok_move rfl opd0,
              obl_tt rfl rfl rfl rfl rfl rfl rfl (fun hg => ok_move rfl opd1),
              obl_tt rfl rfl rfl rfl rfl rfl rfl (fun hg => ok_move rfl opd1),
              obl_tt rfl rfl rfl rfl rfl rfl rfl (fun hg => ok_call (ok_f_base_Ints N v12.1 v13.1 _ (iteT hg hv14)) Try.func23 (by kernel_rfl) (by kernel_rfl) rfl ⟨(opd1.on hg), ⟨(opd2.on hg), trivial⟩⟩),
              ok_and rfl opd0 (fun e => (opd1.on e)),
              ok_move rfl opd0,
              obl_tt rfl rfl rfl rfl rfl rfl rfl (fun hg => ok_move rfl opd1),
              obl_tt rfl rfl rfl rfl rfl rfl rfl (fun hg => ok_move rfl opd1),
              obl_tt rfl rfl rfl rfl rfl rfl rfl (fun hg => ok_cmp (op := .eql) (by simp) rfl rfl (opd1.on hg) (opd2.on hg)),
              ok_and rfl opd0 (fun e => (opd1.on e)),
              ok_assign rfl opd0, trivial⟩ (by kernel_rfl) ?_
          clear hAt
          intro a w hAt
          replace hAt : At B h0 (mkG [(6, fV Rep.bool ((((cmpI .eql v10.1 v11.1) && (cmpI .eql v10.2 v11.2)) && v14) && (cmpI .eql v12.2 v13.2)))]) (mkO []) F 81 a w := hAt
          refine then_n ?_
          refine wp_ret ?_
          cases H
          exact ret1 rfl (rv_tmp rfl rfl) hAt
        | inr r9 =>
          rw [Sum.elim_inr] at H
          replace hp := hp
          obtain ⟨rfl, hAt⟩ := hp
          refine blk_r ?_
          refine then_r ?_
          cases H
          exact ret1 rfl (rv_tmp rfl rfl) hAt
end Go.KB
