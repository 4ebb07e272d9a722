/- The Go functions compute what the plain functions compute. Printed by a program. No condition. -/
import Derived.Test.YtcpcedbnpieebaaGProof2
namespace Go.KB
open Go.Proofs
set_option maxRecDepth 100000
set_option linter.unusedVariables false
theorem ok_f_ref01_gcd (N : Nat) (x0 : (List Int)) (x1 : (List Int)) (r : (List Int)) (H : f_ref01_gcd N x0 x1 = some r) : FnOk Try.prog 156 [fV (Rep.slice r_i64) x0, fV (Rep.slice r_i64) x1] (fV (Rep.slice r_i64) r) := by
  unfold f_ref01_gcd at H
  refine fn_enter Try.func156 rfl rfl (by kernel_rfl) ?_
  intro κ B h0 F a w hAt
  refine wp_seq ?_
  refine reg [⟨fV (Rep.slice r_i64) [], [(4, some (tipE 3 r_i64.sz))], [], []⟩] [0, 1] [] hAt
      ⟨ok_nilTip rfl (.inl rfl), trivial⟩ (by kernel_rfl) ?_
  clear hAt
  intro a w hAt
  replace hAt : At B h0 (mkG [(0, fV (Rep.slice r_i64) x0), (1, fV (Rep.slice r_i64) x1)]) (mkO []) F 19 a w := hAt
  refine then_n ?_
  refine wp_seq ?_
  refine wp_block ?_
  obtain ⟨o4, hl5, H⟩ := bindE H
  refine wp_mono (wp_loopN (f := f_ref01_gcd_L1 N) (fun (s1 : ((List Int) × (List Int))) a w => At B h0 (mkG [(0, fV (Rep.slice r_i64) s1.1), (1, fV (Rep.slice r_i64) s1.2)]) (mkO []) F 19 a w) (fun o e a w => (fun v => e = .exit 0 ∧ At B h0 (mkG [(0, fV (Rep.slice r_i64) v)]) (mkO []) F 19 a w) o) ?_ N (x0, x1) o4 _ _ hl5 ?_) ?_
  · clear H hAt hl5
    intro s1 r6 a w H hAt
    unfold f_ref01_gcd_L1 at H
    refine wp_seq ?_
    refine wp_seq ?_
    refine reg [⟨fV (Rep.slice r_i64) s1.2, [], [(1, none)], []⟩,
        ⟨fV r_i64 (List.length s1.2 : Int), [], [(7, some 0)], []⟩,
        ⟨fV Rep.bool (cmpI .gtr (List.length s1.2 : Int) 0), [], [(8, some 1)], []⟩] [0, 1, 9] [] hAt
        ⟨ok_move rfl opd0,
        ok_len un209 rfl opd0,
        ok_cmp (op := .gtr) (by simp) rfl rfl opd0 opdI, trivial⟩ (by kernel_rfl) ?_
    clear hAt
    intro a w hAt
    replace hAt : At B h0 (mkG [(0, fV (Rep.slice r_i64) s1.1), (1, fV (Rep.slice r_i64) s1.2), (9, fV Rep.bool (cmpI .gtr (List.length s1.2 : Int) 0))]) (mkO []) F 19 a w := hAt
    refine then_n ?_
    refine wp_if hAt (by rfl) ?_ ?_
    · intro hb3
      have H := iteT hb3 H
      refine wp_skip ?_
      refine then_n ?_
      refine wp_block ?_
      refine wp_seq ?_
      obtain ⟨v2, hv2, H⟩ := bindE H
      refine reg [⟨fV (Rep.slice r_i64) s1.1, [], [(0, none)], []⟩,
          ⟨fV (Rep.slice r_i64) s1.2, [], [(1, none)], []⟩,
          ⟨fT2 (fV (Rep.slice r_i64) v2.1) (fV (Rep.slice r_i64) v2.2), [], [(11, some 0), (12, some 1)], []⟩,
          ⟨fT2 (fV (Rep.slice r_i64) v2.1) (fV (Rep.slice r_i64) v2.2), [], [(13, some 2)], []⟩,
          ⟨fV (Rep.slice r_i64) v2.1, [], [(10, some 3)], []⟩,
          ⟨fV (Rep.slice r_i64) v2.2, [], [(10, some 3)], []⟩,
          ⟨fV (Rep.slice r_i64) v2.1, [], [(14, some 4)], []⟩,
          ⟨fV (Rep.slice r_i64) v2.2, [], [(15, some 5)], []⟩] [1, 6] [] hAt
          ⟨ok_move rfl opd0,
          ok_move rfl opd0,
          ok_call (ok_f_ref01_over N s1.1 s1.2 _ hv2) Try.func157 (by kernel_rfl) (by kernel_rfl) rfl ⟨opd0, ⟨opd1, trivial⟩⟩,
          ok_move rfl opd0,
          ok_ext20 rfl rfl opd0,
          ok_ext21 rfl rfl opd0,
          ok_assign rfl opd0,
          ok_assign rfl opd0, trivial⟩ (by kernel_rfl) ?_
      clear hAt
      intro a w hAt
      replace hAt : At B h0 (mkG [(1, fV (Rep.slice r_i64) s1.2), (6, fV (Rep.slice r_i64) v2.2)]) (mkO []) F 19 a w := hAt
      refine then_n ?_
      refine reg [⟨fV (Rep.slice r_i64) s1.2, [], [(1, none)], []⟩,
          ⟨fV (Rep.slice r_i64) v2.2, [], [(6, none)], []⟩,
          ⟨fV (Rep.slice r_i64) s1.2, [], [(16, some 0)], []⟩,
          ⟨fV (Rep.slice r_i64) v2.2, [], [(17, some 1)], []⟩] [0, 1] [] hAt
          ⟨ok_move rfl opd0,
          ok_move rfl opd0,
          ok_assign rfl opd0,
          ok_assign rfl opd0, trivial⟩ (by kernel_rfl) ?_
      clear hAt
      intro a w hAt
      replace hAt : At B h0 (mkG [(0, fV (Rep.slice r_i64) s1.2), (1, fV (Rep.slice r_i64) v2.2)]) (mkO []) F 19 a w := hAt
      refine blk_n ?_
      cases H
      exact ⟨rfl, hAt.pick [0, 1] []⟩
    · intro hb3
      have H := iteF hb3 H
      refine wp_exit ?_
      refine then_x ?_
      cases H
      exact ⟨ex_ne, rfl, hAt.pick [0] []⟩
  · exact hAt.pick [0, 1] []
  · clear hAt
    intro e a w hp
    obtain ⟨rfl, hAt⟩ := hp
    refine blk_eq ?_
    refine then_n ?_
    refine wp_seq ?_
    refine reg [⟨fV (Rep.slice r_i64) o4, [], [(0, none)], []⟩,
        ⟨fV (Rep.slice r_i64) o4, [], [(18, some 0)], []⟩] [4] [] hAt
        ⟨ok_move rfl opd0,
        ok_assign rfl opd0, trivial⟩ (by kernel_rfl) ?_
    clear hAt
    intro a w hAt
    replace hAt : At B h0 (mkG [(4, fV (Rep.slice r_i64) o4)]) (mkO []) F 19 a w := hAt
    refine then_n ?_
    refine wp_ret ?_
    cases H
    exact ret1 rfl (rv_tmp rfl rfl) hAt
theorem ok_f_ref01_Over (N : Nat) (x0 : GInt) (x1 : GInt) (r : GRat) (H : f_ref01_Over N x0 x1 = some r) : FnOk Try.prog 120 [fV GInt.rep x0, fV GInt.rep x1] (fV GRat.rep r) := by
  unfold f_ref01_Over at H
  refine fn_enter Try.func120 rfl rfl (by kernel_rfl) ?_
  intro κ B h0 F a w hAt
  refine wp_seq ?_
  refine reg [⟨fRef GInt.rep x0, [], [(0, none)], []⟩,
      ⟨fRef GInt.rep x1, [], [(1, none)], []⟩,
      ⟨Fact.triv, [(4, some (boxE 49 GRat.rep (⟨(⟨false, []⟩ : GInt), (⟨false, []⟩ : GInt)⟩ : GRat)))], [], []⟩] [2, 3] [4] hAt
      ⟨ok_box rfl opd0,
      ok_box rfl opd0,
      ok_alloc ty49 rfl rfl, trivial⟩ (by kernel_rfl) ?_
  clear hAt
  intro a w hAt
  replace hAt : At B h0 (mkG [(2, fRef GInt.rep x0), (3, fRef GInt.rep x1)]) (mkO [(4, boxE 49 GRat.rep (⟨(⟨false, []⟩ : GInt), (⟨false, []⟩ : GInt)⟩ : GRat))]) F 52 a w := hAt
  refine then_n ?_
  refine wp_seq ?_
  obtain ⟨v1, hv1, H⟩ := bindE H
  obtain ⟨v2, hv2, H⟩ := bindE H
  refine regd [⟨fRef (Rep.slice r_u16) x0.Limbs, [], [(2, none)], []⟩,
      ⟨fV (Rep.slice r_u16) x0.Limbs, [], [(12, some 0)], []⟩,
      ⟨fV (Rep.slice r_i64) v1, [], [(13, some 1)], []⟩,
      ⟨fRef (Rep.slice r_u16) x1.Limbs, [], [(3, none)], []⟩,
      ⟨fV (Rep.slice r_u16) x1.Limbs, [], [(15, some 3)], []⟩,
      ⟨fV (Rep.slice r_i64) v2, [], [(16, some 4)], []⟩,
      ⟨fV (Rep.slice r_i64) v1, [], [(14, some 2)], []⟩,
      ⟨fV (Rep.slice r_i64) v2, [], [(17, some 5)], []⟩] [0, 1, 2, 3, 4, 5, 6, 7] [0, 1, 2, 3, 4, 5, 6, 7] [2, 3, 5, 6] [4] hAt
      ⟨ok_field GInt.l1 fo47_1 rfl opd0,
      ok_load ty45 rfl opd0,
      ok_call (ok_f_ref01_read N x0.Limbs _ hv1) Try.func153 (by kernel_rfl) (by kernel_rfl) rfl ⟨opd0, trivial⟩,
      ok_field GInt.l1 fo47_1 rfl opd0,
      ok_load ty45 rfl opd0,
      ok_call (ok_f_ref01_read N x1.Limbs _ hv2) Try.func153 (by kernel_rfl) (by kernel_rfl) rfl ⟨opd0, trivial⟩,
      ok_assign rfl opd0,
      ok_assign rfl opd0, trivial⟩ (by kernel_rfl) ?_
  clear hAt
  intro a w hAt
  replace hAt : At B h0 (mkG [(2, fRef GInt.rep x0), (3, fRef GInt.rep x1), (5, fV (Rep.slice r_i64) v1), (6, fV (Rep.slice r_i64) v2)]) (mkO [(4, boxE 49 GRat.rep (⟨(⟨false, []⟩ : GInt), (⟨false, []⟩ : GInt)⟩ : GRat))]) F 52 a w := hAt
  refine then_n ?_
  refine wp_seq ?_
  refine wp_seq ?_
  refine reg [⟨fV (Rep.slice r_i64) v2, [], [(6, none)], []⟩,
      ⟨fV r_i64 (List.length v2 : Int), [], [(18, some 0)], []⟩,
      ⟨fV Rep.bool (cmpI .eql (List.length v2 : Int) 0), [], [(19, some 1)], []⟩] [2, 3, 5, 6, 20] [4] hAt
      ⟨ok_move rfl opd0,
      ok_len un209 rfl opd0,
      ok_cmp (op := .eql) (by simp) rfl rfl opd0 opdI, trivial⟩ (by kernel_rfl) ?_
  clear hAt
  intro a w hAt
  replace hAt : At B h0 (mkG [(2, fRef GInt.rep x0), (3, fRef GInt.rep x1), (5, fV (Rep.slice r_i64) v1), (6, fV (Rep.slice r_i64) v2), (20, fV Rep.bool (cmpI .eql (List.length v2 : Int) 0))]) (mkO [(4, boxE 49 GRat.rep (⟨(⟨false, []⟩ : GInt), (⟨false, []⟩ : GInt)⟩ : GRat))]) F 52 a w := hAt
  refine then_n ?_
  refine wp_if hAt (by rfl) ?_ ?_
  · intro hb10
    have H := iteT hb10 H
    refine wp_seq ?_
    obtain ⟨v3, hv3, H⟩ := bindE H
    obtain ⟨v4, hv4, H⟩ := bindE H
    refine reg [⟨fRef Rep.bool x0.Neg, [], [(2, none)], []⟩,
        ⟨fV Rep.bool x0.Neg, [], [(21, some 0)], []⟩,
        ⟨fV (Rep.slice r_i64) v1, [], [(5, none)], []⟩,
        ⟨fV GInt.rep v3, [], [(22, some 1), (23, some 2)], []⟩,
        ⟨fV GInt.rep v4, [], [], []⟩,
        ⟨fV GRat.rep (⟨v3, v4⟩ : GRat), [], [(24, some 3), (25, some 4)], []⟩,
        ⟨Fact.triv, [(4, some (boxE 49 GRat.rep (⟨v3, v4⟩ : GRat)))], [(26, some 5)], [(4, none)]⟩] [] [4] hAt
        ⟨ok_field GInt.l0 fo47_0 rfl opd0,
        ok_load ty4 rfl opd0,
        ok_move rfl opd0,
        ok_call (ok_f_ref01_made N x0.Neg v1 _ hv3) Try.func154 (by kernel_rfl) (by kernel_rfl) rfl ⟨opd0, ⟨opd1, trivial⟩⟩,
        ok_call (ok_f_ref01_Of N 1 _ hv4) Try.func155 (by kernel_rfl) (by kernel_rfl) rfl ⟨opdI, trivial⟩,
        ok_build ty49 rfl pl49 rfl (fillC GRat.l0 rfl opd0 (fillC GRat.l1 rfl opd1 fillN)),
        ok_storeBox ty49 rfl rfl opd0, trivial⟩ (by kernel_rfl) ?_
    clear hAt
    intro a w hAt
    replace hAt : At B h0 (mkG []) (mkO [(4, boxE 49 GRat.rep (⟨v3, v4⟩ : GRat))]) F 52 a w := hAt
    refine then_n ?_
    refine wp_ret ?_
    refine then_r ?_
    cases H
    exact ret1 rfl (rv_cell ty49 rfl) hAt
  · intro hb10
    have H := iteF hb10 H
    refine wp_skip ?_
    refine then_n ?_
    refine wp_seq ?_
    obtain ⟨v5, hv5, H⟩ := bindE H
    refine reg [⟨fV (Rep.slice r_i64) v1, [], [(5, none)], []⟩,
        ⟨fV (Rep.slice r_i64) v2, [], [(6, none)], []⟩,
        ⟨fV (Rep.slice r_i64) v5, [], [(27, some 0), (28, some 1)], []⟩,
        ⟨fV (Rep.slice r_i64) v5, [], [(29, some 2)], []⟩] [2, 3, 5, 6, 7] [4] hAt
        ⟨ok_move rfl opd0,
        ok_move rfl opd0,
        ok_call (ok_f_ref01_gcd N v1 v2 _ hv5) Try.func156 (by kernel_rfl) (by kernel_rfl) rfl ⟨opd0, ⟨opd1, trivial⟩⟩,
        ok_assign rfl opd0, trivial⟩ (by kernel_rfl) ?_
    clear hAt
    intro a w hAt
    replace hAt : At B h0 (mkG [(2, fRef GInt.rep x0), (3, fRef GInt.rep x1), (5, fV (Rep.slice r_i64) v1), (6, fV (Rep.slice r_i64) v2), (7, fV (Rep.slice r_i64) v5)]) (mkO [(4, boxE 49 GRat.rep (⟨(⟨false, []⟩ : GInt), (⟨false, []⟩ : GInt)⟩ : GRat))]) F 52 a w := hAt
    refine then_n ?_
    refine wp_seq ?_
    obtain ⟨v6, hv6, H⟩ := bindE H
    refine reg [⟨fV (Rep.slice r_i64) v1, [], [(5, none)], []⟩,
        ⟨fV (Rep.slice r_i64) v5, [], [(7, none)], []⟩,
        ⟨fT2 (fV (Rep.slice r_i64) v6.1) (fV (Rep.slice r_i64) v6.2), [], [(31, some 0), (32, some 1)], []⟩,
        ⟨fT2 (fV (Rep.slice r_i64) v6.1) (fV (Rep.slice r_i64) v6.2), [], [(33, some 2)], []⟩,
        ⟨fV (Rep.slice r_i64) v6.1, [], [(30, some 3)], []⟩,
        ⟨fV (Rep.slice r_i64) v6.2, [], [(30, some 3)], []⟩,
        ⟨fV (Rep.slice r_i64) v6.1, [], [(34, some 4)], []⟩,
        ⟨fV (Rep.slice r_i64) v6.2, [], [(35, some 5)], []⟩] [2, 3, 6, 7, 8] [4] hAt
        ⟨ok_move rfl opd0,
        ok_move rfl opd0,
        ok_call (ok_f_ref01_over N v1 v5 _ hv6) Try.func157 (by kernel_rfl) (by kernel_rfl) rfl ⟨opd0, ⟨opd1, trivial⟩⟩,
        ok_move rfl opd0,
        ok_ext20 rfl rfl opd0,
        ok_ext21 rfl rfl opd0,
        ok_assign rfl opd0,
        ok_assign rfl opd0, trivial⟩ (by kernel_rfl) ?_
    clear hAt
    intro a w hAt
    replace hAt : At B h0 (mkG [(2, fRef GInt.rep x0), (3, fRef GInt.rep x1), (6, fV (Rep.slice r_i64) v2), (7, fV (Rep.slice r_i64) v5), (8, fV (Rep.slice r_i64) v6.1)]) (mkO [(4, boxE 49 GRat.rep (⟨(⟨false, []⟩ : GInt), (⟨false, []⟩ : GInt)⟩ : GRat))]) F 52 a w := hAt
    refine then_n ?_
    refine wp_seq ?_
    obtain ⟨v7, hv7, H⟩ := bindE H
    refine reg [⟨fV (Rep.slice r_i64) v2, [], [(6, none)], []⟩,
        ⟨fV (Rep.slice r_i64) v5, [], [(7, none)], []⟩,
        ⟨fT2 (fV (Rep.slice r_i64) v7.1) (fV (Rep.slice r_i64) v7.2), [], [(37, some 0), (38, some 1)], []⟩,
        ⟨fT2 (fV (Rep.slice r_i64) v7.1) (fV (Rep.slice r_i64) v7.2), [], [(39, some 2)], []⟩,
        ⟨fV (Rep.slice r_i64) v7.1, [], [(36, some 3)], []⟩,
        ⟨fV (Rep.slice r_i64) v7.2, [], [(36, some 3)], []⟩,
        ⟨fV (Rep.slice r_i64) v7.1, [], [(40, some 4)], []⟩,
        ⟨fV (Rep.slice r_i64) v7.2, [], [(41, some 5)], []⟩] [2, 3, 8, 10] [4] hAt
        ⟨ok_move rfl opd0,
        ok_move rfl opd0,
        ok_call (ok_f_ref01_over N v2 v5 _ hv7) Try.func157 (by kernel_rfl) (by kernel_rfl) rfl ⟨opd0, ⟨opd1, trivial⟩⟩,
        ok_move rfl opd0,
        ok_ext20 rfl rfl opd0,
        ok_ext21 rfl rfl opd0,
        ok_assign rfl opd0,
        ok_assign rfl opd0, trivial⟩ (by kernel_rfl) ?_
    clear hAt
    intro a w hAt
    replace hAt : At B h0 (mkG [(2, fRef GInt.rep x0), (3, fRef GInt.rep x1), (8, fV (Rep.slice r_i64) v6.1), (10, fV (Rep.slice r_i64) v7.1)]) (mkO [(4, boxE 49 GRat.rep (⟨(⟨false, []⟩ : GInt), (⟨false, []⟩ : GInt)⟩ : GRat))]) F 52 a w := hAt
    refine then_n ?_
    refine wp_seq ?_
    obtain ⟨v8, hv8, H⟩ := bindE H
    obtain ⟨v9, hv9, H⟩ := bindE H
    refine reg [⟨fRef Rep.bool x0.Neg, [], [(2, none)], []⟩,
        ⟨fV Rep.bool x0.Neg, [], [(42, some 0)], []⟩,
        ⟨fRef Rep.bool x1.Neg, [], [(3, none)], []⟩,
        ⟨fV Rep.bool x1.Neg, [], [(44, some 2)], []⟩,
        ⟨fV Rep.bool (!(x0.Neg == x1.Neg)), [], [(43, some 1), (45, some 3)], []⟩,
        ⟨fV (Rep.slice r_i64) v6.1, [], [(8, none)], []⟩,
        ⟨fV GInt.rep v8, [], [(46, some 4), (47, some 5)], []⟩,
        ⟨fV (Rep.slice r_i64) v7.1, [], [(10, none)], []⟩,
        ⟨fV GInt.rep v9, [], [(49, some 7)], []⟩,
        ⟨fV GRat.rep (⟨v8, v9⟩ : GRat), [], [(48, some 6), (50, some 8)], []⟩,
        ⟨Fact.triv, [(4, some (boxE 49 GRat.rep (⟨v8, v9⟩ : GRat)))], [(51, some 9)], [(4, none)]⟩] [] [4] hAt
        ⟨ok_field GInt.l0 fo47_0 rfl opd0,
        ok_load ty4 rfl opd0,
        ok_field GInt.l0 fo47_0 rfl opd0,
        ok_load ty4 rfl opd0,
        ok_neB un4 rfl opd0 opd1,
        ok_move rfl opd0,
        ok_call (ok_f_ref01_made N (!(x0.Neg == x1.Neg)) v6.1 _ hv8) Try.func154 (by kernel_rfl) (by kernel_rfl) rfl ⟨opd0, ⟨opd1, trivial⟩⟩,
        ok_move rfl opd0,
        ok_call (ok_f_ref01_made N false v7.1 _ hv9) Try.func154 (by kernel_rfl) (by kernel_rfl) rfl ⟨opdB, ⟨opd0, trivial⟩⟩,
        ok_build ty49 rfl pl49 rfl (fillC GRat.l0 rfl opd0 (fillC GRat.l1 rfl opd1 fillN)),
        ok_storeBox ty49 rfl rfl opd0, trivial⟩ (by kernel_rfl) ?_
    clear hAt
    intro a w hAt
    replace hAt : At B h0 (mkG []) (mkO [(4, boxE 49 GRat.rep (⟨v8, v9⟩ : GRat))]) F 52 a w := hAt
    refine then_n ?_
    refine wp_ret ?_
    cases H
    exact ret1 rfl (rv_cell ty49 rfl) hAt
theorem ok_f_ref01_NormRat (N : Nat) (x0 : GRat) (r : GRat) (H : f_ref01_NormRat N x0 = some r) : FnOk Try.prog 119 [fV GRat.rep x0] (fV GRat.rep r) := by
  unfold f_ref01_NormRat at H
  refine fn_enter Try.func119 rfl rfl (by kernel_rfl) ?_
  intro κ B h0 F a w hAt
  refine wp_seq ?_
  refine reg [⟨fRef GRat.rep x0, [], [(0, none)], []⟩,
      ⟨Fact.triv, [(2, some (boxE 49 GRat.rep (⟨(⟨false, []⟩ : GInt), (⟨false, []⟩ : GInt)⟩ : GRat)))], [], []⟩] [1] [2] hAt
      ⟨ok_box rfl opd0,
      ok_alloc ty49 rfl rfl, trivial⟩ (by kernel_rfl) ?_
  clear hAt
  intro a w hAt
  replace hAt : At B h0 (mkG [(1, fRef GRat.rep x0)]) (mkO [(2, boxE 49 GRat.rep (⟨(⟨false, []⟩ : GInt), (⟨false, []⟩ : GInt)⟩ : GRat))]) F 8 a w := hAt
  refine then_n ?_
  refine wp_seq ?_
  obtain ⟨v1, hv1, H⟩ := bindE H
  refine reg [⟨fRef GInt.rep x0.Num, [], [(1, none)], []⟩,
      ⟨fV GInt.rep x0.Num, [], [(3, some 0)], []⟩,
      ⟨fRef GInt.rep x0.Den, [], [(1, none)], []⟩,
      ⟨fV GInt.rep x0.Den, [], [(5, some 2)], []⟩,
      ⟨fV GRat.rep v1, [], [(4, some 1), (6, some 3)], []⟩,
      ⟨Fact.triv, [(2, some (boxE 49 GRat.rep v1))], [(7, some 4)], [(2, none)]⟩] [] [2] hAt
      ⟨ok_field GRat.l0 fo49_0 rfl opd0,
      ok_load ty47 rfl opd0,
      ok_field GRat.l1 fo49_1 rfl opd0,
      ok_load ty47 rfl opd0,
      ok_call (ok_f_ref01_Over N x0.Num x0.Den _ hv1) Try.func120 (by kernel_rfl) (by kernel_rfl) rfl ⟨opd0, ⟨opd1, trivial⟩⟩,
      ok_storeBox ty49 rfl rfl opd0, trivial⟩ (by kernel_rfl) ?_
  clear hAt
  intro a w hAt
  replace hAt : At B h0 (mkG []) (mkO [(2, boxE 49 GRat.rep v1)]) F 8 a w := hAt
  refine then_n ?_
  refine wp_ret ?_
  cases H
  exact ret1 rfl (rv_cell ty49 rfl) hAt
theorem ok_f_ref01_Neg (N : Nat) (x0 : GInt) (r : GInt) (H : f_ref01_Neg N x0 = some r) : FnOk Try.prog 162 [fV GInt.rep x0] (fV GInt.rep r) := by
  unfold f_ref01_Neg at H
  refine fn_enter Try.func162 rfl rfl (by kernel_rfl) ?_
  intro κ B h0 F a w hAt
  refine wp_seq ?_
  refine reg [⟨fRef GInt.rep x0, [], [(0, none)], []⟩,
      ⟨Fact.triv, [(2, some (boxE 47 GInt.rep (⟨false, []⟩ : GInt)))], [], []⟩] [1] [2] hAt
      ⟨ok_box rfl opd0,
      ok_alloc ty47 rfl rfl, trivial⟩ (by kernel_rfl) ?_
  clear hAt
  intro a w hAt
  replace hAt : At B h0 (mkG [(1, fRef GInt.rep x0)]) (mkO [(2, boxE 47 GInt.rep (⟨false, []⟩ : GInt))]) F 10 a w := hAt
  refine then_n ?_
  refine wp_seq ?_
  obtain ⟨v1, hv1, H⟩ := bindE H
  obtain ⟨v2, hv2, H⟩ := bindE H
  refine regd [⟨fRef Rep.bool x0.Neg, [], [(1, none)], []⟩,
      ⟨fV Rep.bool x0.Neg, [], [(3, some 0)], []⟩,
      ⟨fV Rep.bool (!x0.Neg), [], [(4, some 1)], []⟩,
      ⟨fRef (Rep.slice r_u16) x0.Limbs, [], [(1, none)], []⟩,
      ⟨fV (Rep.slice r_u16) x0.Limbs, [], [(6, some 3)], []⟩,
      ⟨fV (Rep.slice r_i64) v1, [], [(7, some 4)], []⟩,
      ⟨fV GInt.rep v2, [], [(5, some 2), (8, some 5)], []⟩,
      ⟨Fact.triv, [(2, some (boxE 47 GInt.rep v2))], [(9, some 6)], [(2, none)]⟩] [0, 1, 2, 3, 4, 5, 6, 7] [0, 1, 2, 3, 4, 5, 6, 7] [] [2] hAt
      ⟨ok_field GInt.l0 fo47_0 rfl opd0,
      ok_load ty4 rfl opd0,
      ok_not rfl opd0,
      ok_field GInt.l1 fo47_1 rfl opd0,
      ok_load ty45 rfl opd0,
      ok_call (ok_f_ref01_read N x0.Limbs _ hv1) Try.func153 (by kernel_rfl) (by kernel_rfl) rfl ⟨opd0, trivial⟩,
      ok_call (ok_f_ref01_made N (!x0.Neg) v1 _ hv2) Try.func154 (by kernel_rfl) (by kernel_rfl) rfl ⟨opd0, ⟨opd1, trivial⟩⟩,
      ok_storeBox ty47 rfl rfl opd0, trivial⟩ (by kernel_rfl) ?_
  clear hAt
  intro a w hAt
  replace hAt : At B h0 (mkG []) (mkO [(2, boxE 47 GInt.rep v2)]) F 10 a w := hAt
  refine then_n ?_
  refine wp_ret ?_
  cases H
  exact ret1 rfl (rv_cell ty47 rfl) hAt
theorem ok_f_ref01_NegRat (N : Nat) (x0 : GRat) (r : GRat) (H : f_ref01_NegRat N x0 = some r) : FnOk Try.prog 123 [fV GRat.rep x0] (fV GRat.rep r) := by
  unfold f_ref01_NegRat at H
  refine fn_enter Try.func123 rfl rfl (by kernel_rfl) ?_
  intro κ B h0 F a w hAt
  refine wp_seq ?_
  refine reg [⟨fRef GRat.rep x0, [], [(0, none)], []⟩,
      ⟨Fact.triv, [(2, some (boxE 49 GRat.rep (⟨(⟨false, []⟩ : GInt), (⟨false, []⟩ : GInt)⟩ : GRat)))], [], []⟩] [1] [2] hAt
      ⟨ok_box rfl opd0,
      ok_alloc ty49 rfl rfl, trivial⟩ (by kernel_rfl) ?_
  clear hAt
  intro a w hAt
  replace hAt : At B h0 (mkG [(1, fRef GRat.rep x0)]) (mkO [(2, boxE 49 GRat.rep (⟨(⟨false, []⟩ : GInt), (⟨false, []⟩ : GInt)⟩ : GRat))]) F 12 a w := hAt
  refine then_n ?_
  refine wp_seq ?_
  obtain ⟨v1, hv1, H⟩ := bindE H
  refine reg [⟨fV GRat.rep x0, [], [(1, none)], []⟩,
      ⟨fV GRat.rep v1, [], [(4, some 0)], []⟩,
      ⟨Fact.triv, [(3, some (boxE 49 GRat.rep (⟨(⟨false, []⟩ : GInt), (⟨false, []⟩ : GInt)⟩ : GRat)))], [], []⟩,
      ⟨Fact.triv, [(3, some (boxE 49 GRat.rep v1))], [(5, some 1)], [(3, some 2)]⟩] [] [2, 3] hAt
      ⟨ok_load ty49 rfl opd0,
      ok_call (ok_f_ref01_NormRat N x0 _ hv1) Try.func119 (by kernel_rfl) (by kernel_rfl) rfl ⟨opd0, trivial⟩,
      ok_alloc ty49 rfl rfl,
      ok_storeBox ty49 rfl rfl opd0, trivial⟩ (by kernel_rfl) ?_
  clear hAt
  intro a w hAt
  replace hAt : At B h0 (mkG []) (mkO [(2, boxE 49 GRat.rep (⟨(⟨false, []⟩ : GInt), (⟨false, []⟩ : GInt)⟩ : GRat)), (3, boxE 49 GRat.rep v1)]) F 12 a w := hAt
  refine then_n ?_
  refine wp_seq ?_
  obtain ⟨v2, hv2, H⟩ := bindE H
  refine regd [⟨fOff 3 0, [], [], [(3, none)]⟩,
      ⟨fV GInt.rep v1.Num, [], [(6, some 0)], [(3, none)]⟩,
      ⟨fV GInt.rep v2, [], [(7, some 1)], []⟩,
      ⟨fOff 3 2, [], [], [(3, none)]⟩,
      ⟨fV GInt.rep v1.Den, [], [(9, some 3)], [(3, none)]⟩,
      ⟨fV GRat.rep (⟨v2, v1.Den⟩ : GRat), [], [(8, some 2), (10, some 4)], []⟩,
      ⟨Fact.triv, [(2, some (boxE 49 GRat.rep (⟨v2, v1.Den⟩ : GRat)))], [(11, some 5)], [(2, none)]⟩] [0, 1, 2, 3, 4, 5, 6] [0, 1, 2, 3, 4, 5, 6] [] [2] hAt
      ⟨ok_fieldOwn fo49_0 rfl,
      ok_loadOwn GRat.l0 ty47 rfl opd0,
      ok_call (ok_f_ref01_Neg N v1.Num _ hv2) Try.func162 (by kernel_rfl) (by kernel_rfl) rfl ⟨opd0, trivial⟩,
      ok_fieldOwn fo49_1 rfl,
      ok_loadOwn GRat.l1 ty47 rfl opd0,
      ok_build ty49 rfl pl49 rfl (fillC GRat.l0 rfl opd0 (fillC GRat.l1 rfl opd1 fillN)),
      ok_storeBox ty49 rfl rfl opd0, trivial⟩ (by kernel_rfl) ?_
  clear hAt
  intro a w hAt
  replace hAt : At B h0 (mkG []) (mkO [(2, boxE 49 GRat.rep (⟨v2, v1.Den⟩ : GRat))]) F 12 a w := hAt
  refine then_n ?_
  refine wp_ret ?_
  cases H
  exact ret1 rfl (rv_cell ty49 rfl) hAt
theorem ok_f_ref01_Mul (N : Nat) (x0 : GInt) (x1 : GInt) (r : GInt) (H : f_ref01_Mul N x0 x1 = some r) : FnOk Try.prog 121 [fV GInt.rep x0, fV GInt.rep x1] (fV GInt.rep r) := by
  unfold f_ref01_Mul at H
  refine fn_enter Try.func121 rfl rfl (by kernel_rfl) ?_
  intro κ B h0 F a w hAt
  refine wp_seq ?_
  refine reg [⟨fRef GInt.rep x0, [], [(0, none)], []⟩,
      ⟨fRef GInt.rep x1, [], [(1, none)], []⟩,
      ⟨Fact.triv, [(4, some (boxE 47 GInt.rep (⟨false, []⟩ : GInt)))], [], []⟩] [2, 3] [4] hAt
      ⟨ok_box rfl opd0,
      ok_box rfl opd0,
      ok_alloc ty47 rfl rfl, trivial⟩ (by kernel_rfl) ?_
  clear hAt
  intro a w hAt
  replace hAt : At B h0 (mkG [(2, fRef GInt.rep x0), (3, fRef GInt.rep x1)]) (mkO [(4, boxE 47 GInt.rep (⟨false, []⟩ : GInt))]) F 18 a w := hAt
  refine then_n ?_
  refine wp_seq ?_
  obtain ⟨v1, hv1, H⟩ := bindE H
  obtain ⟨v2, hv2, H⟩ := bindE H
  obtain ⟨v3, hv3, H⟩ := bindE H
  obtain ⟨v4, hv4, H⟩ := bindE H
  refine regd [⟨fRef Rep.bool x0.Neg, [], [(2, none)], []⟩,
      ⟨fV Rep.bool x0.Neg, [], [(5, some 0)], []⟩,
      ⟨fRef Rep.bool x1.Neg, [], [(3, none)], []⟩,
      ⟨fV Rep.bool x1.Neg, [], [(7, some 2)], []⟩,
      ⟨fV Rep.bool (!(x0.Neg == x1.Neg)), [], [(6, some 1), (8, some 3)], []⟩,
      ⟨fRef (Rep.slice r_u16) x0.Limbs, [], [(2, none)], []⟩,
      ⟨fV (Rep.slice r_u16) x0.Limbs, [], [(10, some 5)], []⟩,
      ⟨fV (Rep.slice r_i64) v1, [], [(11, some 6)], []⟩,
      ⟨fRef (Rep.slice r_u16) x1.Limbs, [], [(3, none)], []⟩,
      ⟨fV (Rep.slice r_u16) x1.Limbs, [], [(13, some 8)], []⟩,
      ⟨fV (Rep.slice r_i64) v2, [], [(14, some 9)], []⟩,
      ⟨fV (Rep.slice r_i64) v3, [], [(12, some 7), (15, some 10)], []⟩,
      ⟨fV GInt.rep v4, [], [(9, some 4), (16, some 11)], []⟩,
      ⟨Fact.triv, [(4, some (boxE 47 GInt.rep v4))], [(17, some 12)], [(4, none)]⟩] [0, 1, 2, 3, 4, 5, 6, 7, 8, 9, 10, 11, 12, 13] [0, 1, 2, 3, 4, 5, 6, 7, 8, 9, 10, 11, 12, 13] [] [4] hAt
      ⟨ok_field GInt.l0 fo47_0 rfl opd0,
      ok_load ty4 rfl opd0,
      ok_field GInt.l0 fo47_0 rfl opd0,
      ok_load ty4 rfl opd0,
      ok_neB un4 rfl opd0 opd1,
      ok_field GInt.l1 fo47_1 rfl opd0,
      ok_load ty45 rfl opd0,
      ok_call (ok_f_ref01_read N x0.Limbs _ hv1) Try.func153 (by kernel_rfl) (by kernel_rfl) rfl ⟨opd0, trivial⟩,
      ok_field GInt.l1 fo47_1 rfl opd0,
      ok_load ty45 rfl opd0,
      ok_call (ok_f_ref01_read N x1.Limbs _ hv2) Try.func153 (by kernel_rfl) (by kernel_rfl) rfl ⟨opd0, trivial⟩,
      ok_call (ok_f_ref01_times N v1 v2 _ hv3) Try.func158 (by kernel_rfl) (by kernel_rfl) rfl ⟨opd0, ⟨opd1, trivial⟩⟩,
      ok_call (ok_f_ref01_made N (!(x0.Neg == x1.Neg)) v3 _ hv4) Try.func154 (by kernel_rfl) (by kernel_rfl) rfl ⟨opd0, ⟨opd1, trivial⟩⟩,
      ok_storeBox ty47 rfl rfl opd0, trivial⟩ (by kernel_rfl) ?_
  clear hAt
  intro a w hAt
  replace hAt : At B h0 (mkG []) (mkO [(4, boxE 47 GInt.rep v4)]) F 18 a w := hAt
  refine then_n ?_
  refine wp_ret ?_
  cases H
  exact ret1 rfl (rv_cell ty47 rfl) hAt
theorem ok_f_ref01_plus (N : Nat) (x0 : (List Int)) (x1 : (List Int)) (r : (List Int)) (H : f_ref01_plus N x0 x1 = some r) : FnOk Try.prog 159 [fV (Rep.slice r_i64) x0, fV (Rep.slice r_i64) x1] (fV (Rep.slice r_i64) r) := by
  unfold f_ref01_plus at H
  refine fn_enter Try.func159 rfl rfl (by kernel_rfl) ?_
  intro κ B h0 F a w hAt
  refine wp_seq ?_
  refine reg [⟨fV (Rep.slice r_i64) [], [(4, some (tipE 3 r_i64.sz))], [], []⟩] [0, 1] [] hAt
      ⟨ok_nilTip rfl (.inl rfl), trivial⟩ (by kernel_rfl) ?_
  clear hAt
  intro a w hAt
  replace hAt : At B h0 (mkG [(0, fV (Rep.slice r_i64) x0), (1, fV (Rep.slice r_i64) x1)]) (mkO []) F 43 a w := hAt
  refine then_n ?_
  refine wp_seq ?_
  refine reg [⟨fV (Rep.slice r_i64) [], [(5, some (tipE 3 r_i64.sz))], [], []⟩] [0, 1, 5] [5] hAt
      ⟨ok_nilTip rfl (.inl rfl), trivial⟩ (by kernel_rfl) ?_
  clear hAt
  intro a w hAt
  replace hAt : At B h0 (mkG [(0, fV (Rep.slice r_i64) x0), (1, fV (Rep.slice r_i64) x1), (5, fV (Rep.slice r_i64) [])]) (mkO [(5, tipE 3 r_i64.sz)]) F 43 a w := hAt
  refine then_n ?_
  refine wp_seq ?_
  refine reg [⟨fV r_i64 0, [], [], []⟩] [0, 1, 5, 6] [5] hAt
      ⟨ok_assign rfl opdI, trivial⟩ (by kernel_rfl) ?_
  clear hAt
  intro a w hAt
  replace hAt : At B h0 (mkG [(0, fV (Rep.slice r_i64) x0), (1, fV (Rep.slice r_i64) x1), (5, fV (Rep.slice r_i64) []), (6, fV r_i64 0)]) (mkO [(5, tipE 3 r_i64.sz)]) F 43 a w := hAt
  refine then_n ?_
  refine wp_seq ?_
  refine wp_seq ?_
  refine reg [⟨fV r_i64 0, [], [], []⟩] [0, 1, 5, 6, 7] [5] hAt
      ⟨ok_assign rfl opdI, trivial⟩ (by kernel_rfl) ?_
  clear hAt
  intro a w hAt
  replace hAt : At B h0 (mkG [(0, fV (Rep.slice r_i64) x0), (1, fV (Rep.slice r_i64) x1), (5, fV (Rep.slice r_i64) []), (6, fV r_i64 0), (7, fV r_i64 0)]) (mkO [(5, tipE 3 r_i64.sz)]) F 43 a w := hAt
  refine then_n ?_
  refine wp_block ?_
  obtain ⟨o8, hl9, H⟩ := bindE H
  refine wp_mono (wp_loopN (f := f_ref01_plus_L1 N x0 x1) (fun (s1 : ((List Int) × Int × Int)) a w => At B h0 (mkG [(0, fV (Rep.slice r_i64) x0), (1, fV (Rep.slice r_i64) x1), (5, fV (Rep.slice r_i64) s1.1), (6, fV r_i64 s1.2.1), (7, fV r_i64 s1.2.2)]) (mkO [(5, tipE 3 r_i64.sz)]) F 43 a w) (fun o e a w => (fun v => e = .exit 0 ∧ At B h0 (mkG [(5, fV (Rep.slice r_i64) v)]) (mkO [(5, tipE 3 r_i64.sz)]) F 43 a w) o) ?_ N ([], 0, 0) o8 _ _ hl9 ?_) ?_
  · clear H hAt hl9
    intro s1 r11 a w H hAt
    unfold f_ref01_plus_L1 at H
    refine wp_seq ?_
    refine wp_seq ?_
    refine reg [⟨fV r_i64 s1.2.2, [], [(7, none)], []⟩,
        ⟨fV (Rep.slice r_i64) x0, [], [(0, none)], []⟩,
        ⟨fV r_i64 (List.length x0 : Int), [], [(10, some 1)], []⟩,
        ⟨fV Rep.bool (cmpI .lss s1.2.2 (List.length x0 : Int)), [], [(9, some 0), (11, some 2)], []⟩,
        ⟨fV Rep.bool (cmpI .lss s1.2.2 (List.length x0 : Int)), [], [(12, some 3)], []⟩,
        ⟨Fact.when ((!(cmpI .lss s1.2.2 (List.length x0 : Int))) = true) (fV r_i64 s1.2.2), [], [(13, some 4), (7, none)], []⟩,
        ⟨Fact.when ((!(cmpI .lss s1.2.2 (List.length x0 : Int))) = true) (fV (Rep.slice r_i64) x1), [], [(13, some 4), (1, none)], []⟩,
        ⟨Fact.when ((!(cmpI .lss s1.2.2 (List.length x0 : Int))) = true) (fV r_i64 (List.length x1 : Int)), [], [(13, some 4), (15, some 6)], []⟩,
        ⟨Fact.when ((!(cmpI .lss s1.2.2 (List.length x0 : Int))) = true) (fV Rep.bool (cmpI .lss s1.2.2 (List.length x1 : Int))), [], [(13, some 4), (14, some 5), (16, some 7)], []⟩,
        ⟨fV Rep.bool ((cmpI .lss s1.2.2 (List.length x0 : Int)) || (cmpI .lss s1.2.2 (List.length x1 : Int))), [], [(13, some 4), (17, some 8)], []⟩,
        ⟨fV Rep.bool ((cmpI .lss s1.2.2 (List.length x0 : Int)) || (cmpI .lss s1.2.2 (List.length x1 : Int))), [], [(18, some 9)], []⟩,
        ⟨Fact.when ((!((cmpI .lss s1.2.2 (List.length x0 : Int)) || (cmpI .lss s1.2.2 (List.length x1 : Int)))) = true) (fV r_i64 s1.2.1), [], [(19, some 10), (6, none)], []⟩,
        ⟨Fact.when ((!((cmpI .lss s1.2.2 (List.length x0 : Int)) || (cmpI .lss s1.2.2 (List.length x1 : Int)))) = true) (fV Rep.bool (cmpI .gtr s1.2.1 0)), [], [(19, some 10), (20, some 11)], []⟩,
        ⟨fV Rep.bool (((cmpI .lss s1.2.2 (List.length x0 : Int)) || (cmpI .lss s1.2.2 (List.length x1 : Int))) || (cmpI .gtr s1.2.1 0)), [], [(19, some 10), (21, some 12)], []⟩] [0, 1, 5, 6, 7, 22] [5] hAt
        ⟨ok_move rfl opd0,
        ok_move rfl opd0,
        ok_len un209 rfl opd0,
        ok_cmp (op := .lss) (by simp) rfl rfl opd0 opd1,
        ok_move rfl opd0,
        obl_tf rfl rfl rfl rfl rfl rfl rfl (fun hg => ok_move rfl opd1),
        obl_tf rfl rfl rfl rfl rfl rfl rfl (fun hg => ok_move rfl opd1),
        obl_tf rfl rfl rfl rfl rfl rfl rfl (fun hg => ok_len un209 rfl (opd1.on hg)),
        obl_tf rfl rfl rfl rfl rfl rfl rfl (fun hg => ok_cmp (op := .lss) (by simp) rfl rfl (opd1.on hg) (opd2.on hg)),
        ok_or rfl opd0 (fun e => (opd1.on (notT e))),
        ok_move rfl opd0,
        obl_tf rfl rfl rfl rfl rfl rfl rfl (fun hg => ok_move rfl opd1),
        obl_tf rfl rfl rfl rfl rfl rfl rfl (fun hg => ok_cmp (op := .gtr) (by simp) rfl rfl (opd1.on hg) opdI),
        ok_or rfl opd0 (fun e => (opd1.on (notT e))), trivial⟩ (by kernel_rfl) ?_
    clear hAt
    intro a w hAt
    replace hAt : At B h0 (mkG [(0, fV (Rep.slice r_i64) x0), (1, fV (Rep.slice r_i64) x1), (5, fV (Rep.slice r_i64) s1.1), (6, fV r_i64 s1.2.1), (7, fV r_i64 s1.2.2), (22, fV Rep.bool (((cmpI .lss s1.2.2 (List.length x0 : Int)) || (cmpI .lss s1.2.2 (List.length x1 : Int))) || (cmpI .gtr s1.2.1 0)))]) (mkO [(5, tipE 3 r_i64.sz)]) F 43 a w := hAt
    refine then_n ?_
    refine wp_if hAt (by rfl) ?_ ?_
    · intro hb7
      have H := iteT hb7 H
      refine wp_skip ?_
      refine then_n ?_
      refine wp_seq ?_
      refine wp_block ?_
      refine wp_seq ?_
      obtain ⟨v2, hv2, H⟩ := bindE H
      obtain ⟨v3, hv3, H⟩ := bindE H
      refine reg [⟨fV (Rep.slice r_i64) x0, [], [(0, none)], []⟩,
          ⟨fV r_i64 s1.2.2, [], [(7, none)], []⟩,
          ⟨fV r_i64 v2, [], [(25, some 0), (26, some 1)], []⟩,
          ⟨fV (Rep.slice r_i64) x1, [], [(1, none)], []⟩,
          ⟨fV r_i64 s1.2.2, [], [(7, none)], []⟩,
          ⟨fV r_i64 v3, [], [(28, some 3), (29, some 4)], []⟩,
          ⟨fV r_i64 (IntKind.i64.wrap (v2 + v3)), [], [(27, some 2), (30, some 5)], []⟩,
          ⟨fV r_i64 s1.2.1, [], [(6, none)], []⟩,
          ⟨fV r_i64 (IntKind.i64.wrap ((IntKind.i64.wrap (v2 + v3)) + s1.2.1)), [], [(31, some 6), (32, some 7)], []⟩,
          ⟨fV r_i64 (IntKind.i64.wrap ((IntKind.i64.wrap (v2 + v3)) + s1.2.1)), [], [(33, some 8)], []⟩] [0, 1, 5, 7, 8] [5] hAt
          ⟨ok_move rfl opd0,
          ok_move rfl opd0,
          ok_call (ok_f_ref01_digit N x0 s1.2.2 _ hv2) Try.func176 (by kernel_rfl) (by kernel_rfl) rfl ⟨opd0, ⟨opd1, trivial⟩⟩,
          ok_move rfl opd0,
          ok_move rfl opd0,
          ok_call (ok_f_ref01_digit N x1 s1.2.2 _ hv3) Try.func176 (by kernel_rfl) (by kernel_rfl) rfl ⟨opd0, ⟨opd1, trivial⟩⟩,
          ok_add rfl opd0 opd1,
          ok_move rfl opd0,
          ok_add rfl opd0 opd1,
          ok_assign rfl opd0, trivial⟩ (by kernel_rfl) ?_
      clear hAt
      intro a w hAt
      replace hAt : At B h0 (mkG [(0, fV (Rep.slice r_i64) x0), (1, fV (Rep.slice r_i64) x1), (5, fV (Rep.slice r_i64) s1.1), (7, fV r_i64 s1.2.2), (8, fV r_i64 (IntKind.i64.wrap ((IntKind.i64.wrap (v2 + v3)) + s1.2.1)))]) (mkO [(5, tipE 3 r_i64.sz)]) F 43 a w := hAt
      refine then_n ?_
      refine wp_seq ?_
      obtain ⟨v4, hv4, H⟩ := bindE H
      obtain ⟨v5, hv5, H⟩ := bindE H
      refine reg [⟨fV (Rep.slice r_i64) s1.1, [(5, none), (34, some (tipE 3 r_i64.sz))], [(5, none)], [(5, none)]⟩,
          ⟨fV r_i64 (IntKind.i64.wrap ((IntKind.i64.wrap (v2 + v3)) + s1.2.1)), [], [(8, none)], []⟩,
          ⟨fV r_i64 v4, [], [(35, some 1)], []⟩,
          ⟨fV (Rep.slice r_i64) [v4], [], [(36, some 2)], []⟩,
          ⟨fV (Rep.slice r_i64) v5, [(34, none), (38, some (tipE 3 r_i64.sz))], [(34, some 0), (37, some 3)], [(34, some 0)]⟩,
          ⟨fV (Rep.slice r_i64) v5, [(38, none), (5, some (tipE 3 r_i64.sz))], [(38, some 4)], [(38, some 4)]⟩] [0, 1, 5, 7, 8] [5] hAt
          ⟨ok_moveOwn rfl rfl (.inl rfl) opd0,
          ok_move rfl opd0,
          ok_rem hv4 rfl opd0 opdI,
          ok_buildSlice ty3 un209 rfl rfl (fillC (Lens.arr _ _ 0 (by decide)) rfl opd0 fillN),
          ok_append hv5 el3 un209 rfl rfl rfl opd0 opd1,
          ok_moveOwn rfl rfl (.inr rfl) opd0, trivial⟩ (by kernel_rfl) ?_
      clear hAt
      intro a w hAt
      replace hAt : At B h0 (mkG [(0, fV (Rep.slice r_i64) x0), (1, fV (Rep.slice r_i64) x1), (5, fV (Rep.slice r_i64) v5), (7, fV r_i64 s1.2.2), (8, fV r_i64 (IntKind.i64.wrap ((IntKind.i64.wrap (v2 + v3)) + s1.2.1)))]) (mkO [(5, tipE 3 r_i64.sz)]) F 43 a w := hAt
      refine then_n ?_
      obtain ⟨v6, hv6, H⟩ := bindE H
      refine reg [⟨fV r_i64 (IntKind.i64.wrap ((IntKind.i64.wrap (v2 + v3)) + s1.2.1)), [], [(8, none)], []⟩,
          ⟨fV r_i64 v6, [], [(39, some 0)], []⟩,
          ⟨fV r_i64 v6, [], [(40, some 1)], []⟩] [0, 1, 5, 6, 7] [5] hAt
          ⟨ok_move rfl opd0,
          ok_quo hv6 rfl opd0 opdI,
          ok_assign rfl opd0, trivial⟩ (by kernel_rfl) ?_
      clear hAt
      intro a w hAt
      replace hAt : At B h0 (mkG [(0, fV (Rep.slice r_i64) x0), (1, fV (Rep.slice r_i64) x1), (5, fV (Rep.slice r_i64) v5), (6, fV r_i64 v6), (7, fV r_i64 s1.2.2)]) (mkO [(5, tipE 3 r_i64.sz)]) F 43 a w := hAt
      refine blk_n ?_
      refine then_n ?_
      refine reg [⟨fV r_i64 s1.2.2, [], [(7, none)], []⟩,
          ⟨fV r_i64 (IntKind.i64.wrap (s1.2.2 + 1)), [], [(23, some 0)], []⟩,
          ⟨fV r_i64 (IntKind.i64.wrap (s1.2.2 + 1)), [], [(24, some 1)], []⟩] [0, 1, 5, 6, 7] [5] hAt
          ⟨ok_move rfl opd0,
          ok_add rfl opd0 opdI,
          ok_assign rfl opd0, trivial⟩ (by kernel_rfl) ?_
      clear hAt
      intro a w hAt
      replace hAt : At B h0 (mkG [(0, fV (Rep.slice r_i64) x0), (1, fV (Rep.slice r_i64) x1), (5, fV (Rep.slice r_i64) v5), (6, fV r_i64 v6), (7, fV r_i64 (IntKind.i64.wrap (s1.2.2 + 1)))]) (mkO [(5, tipE 3 r_i64.sz)]) F 43 a w := hAt
      cases H
      exact ⟨rfl, hAt.pick [0, 1, 5, 6, 7] [5]⟩
    · intro hb7
      have H := iteF hb7 H
      refine wp_exit ?_
      refine then_x ?_
      cases H
      exact ⟨ex_ne, rfl, hAt.pick [5] [5]⟩
  · exact hAt.pick [0, 1, 5, 6, 7] [5]
  · clear hAt
    intro e a w hp
    obtain ⟨rfl, hAt⟩ := hp
    refine blk_eq ?_
    refine then_n ?_
    refine wp_seq ?_
    obtain ⟨v10, hv10, H⟩ := bindE H
    refine reg [⟨fV (Rep.slice r_i64) o8, [], [(5, none)], []⟩,
        ⟨fV (Rep.slice r_i64) v10, [], [(41, some 0)], []⟩,
        ⟨fV (Rep.slice r_i64) v10, [], [(42, some 1)], []⟩] [4] [] hAt
        ⟨ok_move rfl opd0,
        ok_call (ok_f_ref01_trim N o8 _ hv10) Try.func175 (by kernel_rfl) (by kernel_rfl) rfl ⟨opd0, trivial⟩,
        ok_assign rfl opd0, trivial⟩ (by kernel_rfl) ?_
    clear hAt
    intro a w hAt
    replace hAt : At B h0 (mkG [(4, fV (Rep.slice r_i64) v10)]) (mkO []) F 43 a w := hAt
    refine then_n ?_
    refine wp_ret ?_
    cases H
    exact ret1 rfl (rv_tmp rfl rfl) hAt
theorem ok_f_ref01_Add (N : Nat) (x0 : GInt) (x1 : GInt) (r : GInt) (H : f_ref01_Add N x0 x1 = some r) : FnOk Try.prog 122 [fV GInt.rep x0, fV GInt.rep x1] (fV GInt.rep r) := by
  unfold f_ref01_Add at H
  refine fn_enter Try.func122 rfl rfl (by kernel_rfl) ?_
  intro κ B h0 F a w hAt
  refine wp_seq ?_
  refine reg [⟨fRef GInt.rep x0, [], [(0, none)], []⟩,
      ⟨fRef GInt.rep x1, [], [(1, none)], []⟩,
      ⟨Fact.triv, [(4, some (boxE 47 GInt.rep (⟨false, []⟩ : GInt)))], [], []⟩] [2, 3] [4] hAt
      ⟨ok_box rfl opd0,
      ok_box rfl opd0,
      ok_alloc ty47 rfl rfl, trivial⟩ (by kernel_rfl) ?_
  clear hAt
  intro a w hAt
  replace hAt : At B h0 (mkG [(2, fRef GInt.rep x0), (3, fRef GInt.rep x1)]) (mkO [(4, boxE 47 GInt.rep (⟨false, []⟩ : GInt))]) F 40 a w := hAt
  refine then_n ?_
  refine wp_seq ?_
  obtain ⟨v1, hv1, H⟩ := bindE H
  obtain ⟨v2, hv2, H⟩ := bindE H
  refine regd [⟨fRef (Rep.slice r_u16) x0.Limbs, [], [(2, none)], []⟩,
      ⟨fV (Rep.slice r_u16) x0.Limbs, [], [(7, some 0)], []⟩,
      ⟨fV (Rep.slice r_i64) v1, [], [(8, some 1)], []⟩,
      ⟨fRef (Rep.slice r_u16) x1.Limbs, [], [(3, none)], []⟩,
      ⟨fV (Rep.slice r_u16) x1.Limbs, [], [(10, some 3)], []⟩,
      ⟨fV (Rep.slice r_i64) v2, [], [(11, some 4)], []⟩,
      ⟨fV (Rep.slice r_i64) v1, [], [(9, some 2)], []⟩,
      ⟨fV (Rep.slice r_i64) v2, [], [(12, some 5)], []⟩] [0, 1, 2, 3, 4, 5, 6, 7] [0, 1, 2, 3, 4, 5, 6, 7] [2, 3, 5, 6] [4] hAt
      ⟨ok_field GInt.l1 fo47_1 rfl opd0,
      ok_load ty45 rfl opd0,
      ok_call (ok_f_ref01_read N x0.Limbs _ hv1) Try.func153 (by kernel_rfl) (by kernel_rfl) rfl ⟨opd0, trivial⟩,
      ok_field GInt.l1 fo47_1 rfl opd0,
      ok_load ty45 rfl opd0,
      ok_call (ok_f_ref01_read N x1.Limbs _ hv2) Try.func153 (by kernel_rfl) (by kernel_rfl) rfl ⟨opd0, trivial⟩,
      ok_assign rfl opd0,
      ok_assign rfl opd0, trivial⟩ (by kernel_rfl) ?_
  clear hAt
  intro a w hAt
  replace hAt : At B h0 (mkG [(2, fRef GInt.rep x0), (3, fRef GInt.rep x1), (5, fV (Rep.slice r_i64) v1), (6, fV (Rep.slice r_i64) v2)]) (mkO [(4, boxE 47 GInt.rep (⟨false, []⟩ : GInt))]) F 40 a w := hAt
  refine then_n ?_
  refine wp_seq ?_
  refine wp_seq ?_
  refine reg [⟨fRef Rep.bool x0.Neg, [], [(2, none)], []⟩,
      ⟨fV Rep.bool x0.Neg, [], [(13, some 0)], []⟩,
      ⟨fRef Rep.bool x1.Neg, [], [(3, none)], []⟩,
      ⟨fV Rep.bool x1.Neg, [], [(15, some 2)], []⟩,
      ⟨fV Rep.bool (x0.Neg == x1.Neg), [], [(14, some 1), (16, some 3)], []⟩] [2, 3, 5, 6, 17] [4] hAt
      ⟨ok_field GInt.l0 fo47_0 rfl opd0,
      ok_load ty4 rfl opd0,
      ok_field GInt.l0 fo47_0 rfl opd0,
      ok_load ty4 rfl opd0,
      ok_eqB un4 rfl opd0 opd1, trivial⟩ (by kernel_rfl) ?_
  clear hAt
  intro a w hAt
  replace hAt : At B h0 (mkG [(2, fRef GInt.rep x0), (3, fRef GInt.rep x1), (5, fV (Rep.slice r_i64) v1), (6, fV (Rep.slice r_i64) v2), (17, fV Rep.bool (x0.Neg == x1.Neg))]) (mkO [(4, boxE 47 GInt.rep (⟨false, []⟩ : GInt))]) F 40 a w := hAt
  refine then_n ?_
  refine wp_if hAt (by rfl) ?_ ?_
  · intro hb11
    have H := iteT hb11 H
    refine wp_seq ?_
    obtain ⟨v3, hv3, H⟩ := bindE H
    obtain ⟨v4, hv4, H⟩ := bindE H
    refine regd [⟨fRef Rep.bool x0.Neg, [], [(2, none)], []⟩,
        ⟨fV Rep.bool x0.Neg, [], [(18, some 0)], []⟩,
        ⟨fV (Rep.slice r_i64) v1, [], [(5, none)], []⟩,
        ⟨fV (Rep.slice r_i64) v2, [], [(6, none)], []⟩,
        ⟨fV (Rep.slice r_i64) v3, [], [(20, some 2), (21, some 3)], []⟩,
        ⟨fV GInt.rep v4, [], [(19, some 1), (22, some 4)], []⟩,
        ⟨Fact.triv, [(4, some (boxE 47 GInt.rep v4))], [(23, some 5)], [(4, none)]⟩] [0, 1, 2, 3, 4, 5, 6] [0, 1, 2, 3, 4, 5, 6] [] [4] hAt
        ⟨ok_field GInt.l0 fo47_0 rfl opd0,
        ok_load ty4 rfl opd0,
        ok_move rfl opd0,
        ok_move rfl opd0,
        ok_call (ok_f_ref01_plus N v1 v2 _ hv3) Try.func159 (by kernel_rfl) (by kernel_rfl) rfl ⟨opd0, ⟨opd1, trivial⟩⟩,
        ok_call (ok_f_ref01_made N x0.Neg v3 _ hv4) Try.func154 (by kernel_rfl) (by kernel_rfl) rfl ⟨opd0, ⟨opd1, trivial⟩⟩,
        ok_storeBox ty47 rfl rfl opd0, trivial⟩ (by kernel_rfl) ?_
    clear hAt
    intro a w hAt
    replace hAt : At B h0 (mkG []) (mkO [(4, boxE 47 GInt.rep v4)]) F 40 a w := hAt
    refine then_n ?_
    refine wp_ret ?_
    refine then_r ?_
    cases H
    exact ret1 rfl (rv_cell ty47 rfl) hAt
  · intro hb11
    have H := iteF hb11 H
    refine wp_skip ?_
    refine then_n ?_
    refine wp_seq ?_
    refine wp_seq ?_
    obtain ⟨v5, hv5, H⟩ := bindE H
    refine reg [⟨fV (Rep.slice r_i64) v1, [], [(5, none)], []⟩,
        ⟨fV (Rep.slice r_i64) v2, [], [(6, none)], []⟩,
        ⟨fV r_i64 v5, [], [(24, some 0), (25, some 1)], []⟩,
        ⟨fV Rep.bool (cmpI .geq v5 0), [], [(26, some 2)], []⟩] [2, 3, 5, 6, 27] [4] hAt
        ⟨ok_move rfl opd0,
        ok_move rfl opd0,
        ok_call (ok_f_ref01_compare N v1 v2 _ hv5) Try.func160 (by kernel_rfl) (by kernel_rfl) rfl ⟨opd0, ⟨opd1, trivial⟩⟩,
        ok_cmp (op := .geq) (by simp) rfl rfl opd0 opdI, trivial⟩ (by kernel_rfl) ?_
    clear hAt
    intro a w hAt
    replace hAt : At B h0 (mkG [(2, fRef GInt.rep x0), (3, fRef GInt.rep x1), (5, fV (Rep.slice r_i64) v1), (6, fV (Rep.slice r_i64) v2), (27, fV Rep.bool (cmpI .geq v5 0))]) (mkO [(4, boxE 47 GInt.rep (⟨false, []⟩ : GInt))]) F 40 a w := hAt
    refine then_n ?_
    refine wp_if hAt (by rfl) ?_ ?_
    · intro hb10
      have H := iteT hb10 H
      refine wp_seq ?_
      obtain ⟨v6, hv6, H⟩ := bindE H
      obtain ⟨v7, hv7, H⟩ := bindE H
      refine regd [⟨fRef Rep.bool x0.Neg, [], [(2, none)], []⟩,
          ⟨fV Rep.bool x0.Neg, [], [(28, some 0)], []⟩,
          ⟨fV (Rep.slice r_i64) v1, [], [(5, none)], []⟩,
          ⟨fV (Rep.slice r_i64) v2, [], [(6, none)], []⟩,
          ⟨fV (Rep.slice r_i64) v6, [], [(30, some 2), (31, some 3)], []⟩,
          ⟨fV GInt.rep v7, [], [(29, some 1), (32, some 4)], []⟩,
          ⟨Fact.triv, [(4, some (boxE 47 GInt.rep v7))], [(33, some 5)], [(4, none)]⟩] [0, 1, 2, 3, 4, 5, 6] [0, 1, 2, 3, 4, 5, 6] [] [4] hAt
          ⟨ok_field GInt.l0 fo47_0 rfl opd0,
          ok_load ty4 rfl opd0,
          ok_move rfl opd0,
          ok_move rfl opd0,
          ok_call (ok_f_ref01_minus N v1 v2 _ hv6) Try.func161 (by kernel_rfl) (by kernel_rfl) rfl ⟨opd0, ⟨opd1, trivial⟩⟩,
          ok_call (ok_f_ref01_made N x0.Neg v6 _ hv7) Try.func154 (by kernel_rfl) (by kernel_rfl) rfl ⟨opd0, ⟨opd1, trivial⟩⟩,
          ok_storeBox ty47 rfl rfl opd0, trivial⟩ (by kernel_rfl) ?_
      clear hAt
      intro a w hAt
      replace hAt : At B h0 (mkG []) (mkO [(4, boxE 47 GInt.rep v7)]) F 40 a w := hAt
      refine then_n ?_
      refine wp_ret ?_
      refine then_r ?_
      cases H
      exact ret1 rfl (rv_cell ty47 rfl) hAt
    · intro hb10
      have H := iteF hb10 H
      refine wp_skip ?_
      refine then_n ?_
      refine wp_seq ?_
      obtain ⟨v8, hv8, H⟩ := bindE H
      obtain ⟨v9, hv9, H⟩ := bindE H
      refine regd [⟨fRef Rep.bool x1.Neg, [], [(3, none)], []⟩,
          ⟨fV Rep.bool x1.Neg, [], [(34, some 0)], []⟩,
          ⟨fV (Rep.slice r_i64) v2, [], [(6, none)], []⟩,
          ⟨fV (Rep.slice r_i64) v1, [], [(5, none)], []⟩,
          ⟨fV (Rep.slice r_i64) v8, [], [(36, some 2), (37, some 3)], []⟩,
          ⟨fV GInt.rep v9, [], [(35, some 1), (38, some 4)], []⟩,
          ⟨Fact.triv, [(4, some (boxE 47 GInt.rep v9))], [(39, some 5)], [(4, none)]⟩] [0, 1, 2, 3, 4, 5, 6] [0, 1, 2, 3, 4, 5, 6] [] [4] hAt
          ⟨ok_field GInt.l0 fo47_0 rfl opd0,
          ok_load ty4 rfl opd0,
          ok_move rfl opd0,
          ok_move rfl opd0,
          ok_call (ok_f_ref01_minus N v2 v1 _ hv8) Try.func161 (by kernel_rfl) (by kernel_rfl) rfl ⟨opd0, ⟨opd1, trivial⟩⟩,
          ok_call (ok_f_ref01_made N x1.Neg v8 _ hv9) Try.func154 (by kernel_rfl) (by kernel_rfl) rfl ⟨opd0, ⟨opd1, trivial⟩⟩,
          ok_storeBox ty47 rfl rfl opd0, trivial⟩ (by kernel_rfl) ?_
      clear hAt
      intro a w hAt
      replace hAt : At B h0 (mkG []) (mkO [(4, boxE 47 GInt.rep v9)]) F 40 a w := hAt
      refine then_n ?_
      refine wp_ret ?_
      cases H
      exact ret1 rfl (rv_cell ty47 rfl) hAt
theorem ok_f_ref01_AddRat (N : Nat) (x0 : GRat) (x1 : GRat) (r : GRat) (H : f_ref01_AddRat N x0 x1 = some r) : FnOk Try.prog 78 [fV GRat.rep x0, fV GRat.rep x1] (fV GRat.rep r) := by
  unfold f_ref01_AddRat at H
  refine fn_enter Try.func78 rfl rfl (by kernel_rfl) ?_
  intro κ B h0 F a w hAt
  refine wp_seq ?_
  refine reg [⟨fRef GRat.rep x0, [], [(0, none)], []⟩,
      ⟨fRef GRat.rep x1, [], [(1, none)], []⟩,
      ⟨Fact.triv, [(4, some (boxE 49 GRat.rep (⟨(⟨false, []⟩ : GInt), (⟨false, []⟩ : GInt)⟩ : GRat)))], [], []⟩] [2, 3] [4] hAt
      ⟨ok_box rfl opd0,
      ok_box rfl opd0,
      ok_alloc ty49 rfl rfl, trivial⟩ (by kernel_rfl) ?_
  clear hAt
  intro a w hAt
  replace hAt : At B h0 (mkG [(2, fRef GRat.rep x0), (3, fRef GRat.rep x1)]) (mkO [(4, boxE 49 GRat.rep (⟨(⟨false, []⟩ : GInt), (⟨false, []⟩ : GInt)⟩ : GRat))]) F 28 a w := hAt
  refine then_n ?_
  refine wp_seq ?_
  obtain ⟨v1, hv1, H⟩ := bindE H
  obtain ⟨v2, hv2, H⟩ := bindE H
  refine regd [⟨fV GRat.rep x0, [], [(2, none)], []⟩,
      ⟨fV GRat.rep v1, [], [(7, some 0)], []⟩,
      ⟨fV GRat.rep x1, [], [(3, none)], []⟩,
      ⟨fV GRat.rep v2, [], [(9, some 2)], []⟩,
      ⟨Fact.triv, [(5, some (boxE 49 GRat.rep (⟨(⟨false, []⟩ : GInt), (⟨false, []⟩ : GInt)⟩ : GRat)))], [], []⟩,
      ⟨Fact.triv, [(6, some (boxE 49 GRat.rep (⟨(⟨false, []⟩ : GInt), (⟨false, []⟩ : GInt)⟩ : GRat)))], [], []⟩,
      ⟨Fact.triv, [(5, some (boxE 49 GRat.rep v1))], [(8, some 1)], [(5, some 4)]⟩,
      ⟨Fact.triv, [(6, some (boxE 49 GRat.rep v2))], [(10, some 3)], [(6, some 5)]⟩] [0, 1, 2, 3, 4, 5, 6, 7] [0, 1, 2, 3, 4, 5, 6, 7] [] [4, 5, 6] hAt
      ⟨ok_load ty49 rfl opd0,
      ok_call (ok_f_ref01_NormRat N x0 _ hv1) Try.func119 (by kernel_rfl) (by kernel_rfl) rfl ⟨opd0, trivial⟩,
      ok_load ty49 rfl opd0,
      ok_call (ok_f_ref01_NormRat N x1 _ hv2) Try.func119 (by kernel_rfl) (by kernel_rfl) rfl ⟨opd0, trivial⟩,
      ok_alloc ty49 rfl rfl,
      ok_alloc ty49 rfl rfl,
      ok_storeBox ty49 rfl rfl opd0,
      ok_storeBox ty49 rfl rfl opd0, trivial⟩ (by kernel_rfl) ?_
  clear hAt
  intro a w hAt
  replace hAt : At B h0 (mkG []) (mkO [(4, boxE 49 GRat.rep (⟨(⟨false, []⟩ : GInt), (⟨false, []⟩ : GInt)⟩ : GRat)), (5, boxE 49 GRat.rep v1), (6, boxE 49 GRat.rep v2)]) F 28 a w := hAt
  refine then_n ?_
  refine wp_seq ?_
  obtain ⟨v3, hv3, H⟩ := bindE H
  obtain ⟨v4, hv4, H⟩ := bindE H
  obtain ⟨v5, hv5, H⟩ := bindE H
  obtain ⟨v6, hv6, H⟩ := bindE H
  obtain ⟨v7, hv7, H⟩ := bindE H
  refine regd [⟨fOff 5 0, [], [], [(5, none)]⟩,
      ⟨fV GInt.rep v1.Num, [], [(11, some 0)], [(5, none)]⟩,
      ⟨fOff 6 2, [], [], [(6, none)]⟩,
      ⟨fV GInt.rep v2.Den, [], [(13, some 2)], [(6, none)]⟩,
      ⟨fV GInt.rep v3, [], [(12, some 1), (14, some 3)], []⟩,
      ⟨fOff 6 0, [], [], [(6, none)]⟩,
      ⟨fV GInt.rep v2.Num, [], [(16, some 5)], [(6, none)]⟩,
      ⟨fOff 5 2, [], [], [(5, none)]⟩,
      ⟨fV GInt.rep v1.Den, [], [(18, some 7)], [(5, none)]⟩,
      ⟨fV GInt.rep v4, [], [(17, some 6), (19, some 8)], []⟩,
      ⟨fV GInt.rep v5, [], [(15, some 4), (20, some 9)], []⟩,
      ⟨fOff 5 2, [], [], [(5, none)]⟩,
      ⟨fV GInt.rep v1.Den, [], [(22, some 11)], [(5, none)]⟩,
      ⟨fOff 6 2, [], [], [(6, none)]⟩,
      ⟨fV GInt.rep v2.Den, [], [(24, some 13)], [(6, none)]⟩,
      ⟨fV GInt.rep v6, [], [(23, some 12), (25, some 14)], []⟩,
      ⟨fV GRat.rep v7, [], [(21, some 10), (26, some 15)], []⟩,
      ⟨Fact.triv, [(4, some (boxE 49 GRat.rep v7))], [(27, some 16)], [(4, none)]⟩] [0, 1, 2, 3, 4, 5, 6, 7, 8, 9, 10, 11, 12, 13, 14, 15, 16, 17] [0, 1, 2, 3, 4, 5, 6, 7, 8, 9, 10, 11, 12, 13, 14, 15, 16, 17] [] [4] hAt
      ⟨ok_fieldOwn fo49_0 rfl,
      ok_loadOwn GRat.l0 ty47 rfl opd0,
      ok_fieldOwn fo49_1 rfl,
      ok_loadOwn GRat.l1 ty47 rfl opd0,
      ok_call (ok_f_ref01_Mul N v1.Num v2.Den _ hv3) Try.func121 (by kernel_rfl) (by kernel_rfl) rfl ⟨opd0, ⟨opd1, trivial⟩⟩,
      ok_fieldOwn fo49_0 rfl,
      ok_loadOwn GRat.l0 ty47 rfl opd0,
      ok_fieldOwn fo49_1 rfl,
      ok_loadOwn GRat.l1 ty47 rfl opd0,
      ok_call (ok_f_ref01_Mul N v2.Num v1.Den _ hv4) Try.func121 (by kernel_rfl) (by kernel_rfl) rfl ⟨opd0, ⟨opd1, trivial⟩⟩,
      ok_call (ok_f_ref01_Add N v3 v4 _ hv5) Try.func122 (by kernel_rfl) (by kernel_rfl) rfl ⟨opd0, ⟨opd1, trivial⟩⟩,
      ok_fieldOwn fo49_1 rfl,
      ok_loadOwn GRat.l1 ty47 rfl opd0,
      ok_fieldOwn fo49_1 rfl,
      ok_loadOwn GRat.l1 ty47 rfl opd0,
      ok_call (ok_f_ref01_Mul N v1.Den v2.Den _ hv6) Try.func121 (by kernel_rfl) (by kernel_rfl) rfl ⟨opd0, ⟨opd1, trivial⟩⟩,
      ok_call (ok_f_ref01_Over N v5 v6 _ hv7) Try.func120 (by kernel_rfl) (by kernel_rfl) rfl ⟨opd0, ⟨opd1, trivial⟩⟩,
      ok_storeBox ty49 rfl rfl opd0, trivial⟩ (by kernel_rfl) ?_
  clear hAt
  intro a w hAt
  replace hAt : At B h0 (mkG []) (mkO [(4, boxE 49 GRat.rep v7)]) F 28 a w := hAt
  refine then_n ?_
  refine wp_ret ?_
  cases H
  exact ret1 rfl (rv_cell ty49 rfl) hAt
theorem ok_f_ref01_SubRat (N : Nat) (x0 : GRat) (x1 : GRat) (r : GRat) (H : f_ref01_SubRat N x0 x1 = some r) : FnOk Try.prog 79 [fV GRat.rep x0, fV GRat.rep x1] (fV GRat.rep r) := by
  unfold f_ref01_SubRat at H
  refine fn_enter Try.func79 rfl rfl (by kernel_rfl) ?_
  intro κ B h0 F a w hAt
  refine wp_seq ?_
  refine reg [⟨fRef GRat.rep x0, [], [(0, none)], []⟩,
      ⟨fRef GRat.rep x1, [], [(1, none)], []⟩,
      ⟨Fact.triv, [(4, some (boxE 49 GRat.rep (⟨(⟨false, []⟩ : GInt), (⟨false, []⟩ : GInt)⟩ : GRat)))], [], []⟩] [2, 3] [4] hAt
      ⟨ok_box rfl opd0,
      ok_box rfl opd0,
      ok_alloc ty49 rfl rfl, trivial⟩ (by kernel_rfl) ?_
  clear hAt
  intro a w hAt
  replace hAt : At B h0 (mkG [(2, fRef GRat.rep x0), (3, fRef GRat.rep x1)]) (mkO [(4, boxE 49 GRat.rep (⟨(⟨false, []⟩ : GInt), (⟨false, []⟩ : GInt)⟩ : GRat))]) F 9 a w := hAt
  refine then_n ?_
  refine wp_seq ?_
  obtain ⟨v1, hv1, H⟩ := bindE H
  obtain ⟨v2, hv2, H⟩ := bindE H
  refine regd [⟨fV GRat.rep x0, [], [(2, none)], []⟩,
      ⟨fV GRat.rep x1, [], [(3, none)], []⟩,
      ⟨fV GRat.rep v1, [], [(6, some 1)], []⟩,
      ⟨fV GRat.rep v2, [], [(5, some 0), (7, some 2)], []⟩,
      ⟨Fact.triv, [(4, some (boxE 49 GRat.rep v2))], [(8, some 3)], [(4, none)]⟩] [0, 1, 2, 3, 4] [0, 1, 2, 3, 4] [] [4] hAt
      ⟨ok_load ty49 rfl opd0,
      ok_load ty49 rfl opd0,
      ok_call (ok_f_ref01_NegRat N x1 _ hv1) Try.func123 (by kernel_rfl) (by kernel_rfl) rfl ⟨opd0, trivial⟩,
      ok_call (ok_f_ref01_AddRat N x0 v1 _ hv2) Try.func78 (by kernel_rfl) (by kernel_rfl) rfl ⟨opd0, ⟨opd1, trivial⟩⟩,
      ok_storeBox ty49 rfl rfl opd0, trivial⟩ (by kernel_rfl) ?_
  clear hAt
  intro a w hAt
  replace hAt : At B h0 (mkG []) (mkO [(4, boxE 49 GRat.rep v2)]) F 9 a w := hAt
  refine then_n ?_
  refine wp_ret ?_
  cases H
  exact ret1 rfl (rv_cell ty49 rfl) hAt
theorem ok_f_ref01_Sign (N : Nat) (x0 : GInt) (r : Int) (H : f_ref01_Sign N x0 = some r) : FnOk Try.prog 126 [fV GInt.rep x0] (fV r_i64 r) := by
  unfold f_ref01_Sign at H
  refine fn_enter Try.func126 rfl rfl (by kernel_rfl) ?_
  intro κ B h0 F a w hAt
  refine wp_seq ?_
  refine reg [⟨fRef GInt.rep x0, [], [(0, none)], []⟩,
      ⟨fV r_i64 0, [], [], []⟩] [1] [] hAt
      ⟨ok_box rfl opd0,
      ok_assign rfl opdI, trivial⟩ (by kernel_rfl) ?_
  clear hAt
  intro a w hAt
  replace hAt : At B h0 (mkG [(1, fRef GInt.rep x0)]) (mkO []) F 10 a w := hAt
  refine then_n ?_
  refine wp_seq ?_
  refine wp_seq ?_
  obtain ⟨v1, hv1, H⟩ := bindE H
  refine reg [⟨fRef (Rep.slice r_u16) x0.Limbs, [], [(1, none)], []⟩,
      ⟨fV (Rep.slice r_u16) x0.Limbs, [], [(3, some 0)], []⟩,
      ⟨fV (Rep.slice r_i64) v1, [], [(4, some 1)], []⟩,
      ⟨fV r_i64 (List.length v1 : Int), [], [(5, some 2)], []⟩,
      ⟨fV Rep.bool (cmpI .eql (List.length v1 : Int) 0), [], [(6, some 3)], []⟩] [1, 7] [] hAt
      ⟨ok_field GInt.l1 fo47_1 rfl opd0,
      ok_load ty45 rfl opd0,
      ok_call (ok_f_ref01_read N x0.Limbs _ hv1) Try.func153 (by kernel_rfl) (by kernel_rfl) rfl ⟨opd0, trivial⟩,
      ok_len un209 rfl opd0,
      ok_cmp (op := .eql) (by simp) rfl rfl opd0 opdI, trivial⟩ (by kernel_rfl) ?_
  clear hAt
  intro a w hAt
  replace hAt : At B h0 (mkG [(1, fRef GInt.rep x0), (7, fV Rep.bool (cmpI .eql (List.length v1 : Int) 0))]) (mkO []) F 10 a w := hAt
  refine then_n ?_
  refine wp_if hAt (by rfl) ?_ ?_
  · intro hb3
    have H := iteT hb3 H
    refine wp_seq ?_
    refine reg [⟨fV r_i64 0, [], [], []⟩] [2] [] hAt
        ⟨ok_assign rfl opdI, trivial⟩ (by kernel_rfl) ?_
    clear hAt
    intro a w hAt
    replace hAt : At B h0 (mkG [(2, fV r_i64 0)]) (mkO []) F 10 a w := hAt
    refine then_n ?_
    refine wp_ret ?_
    refine then_r ?_
    cases H
    exact ret1 rfl (rv_tmp rfl rfl) hAt
  · intro hb3
    have H := iteF hb3 H
    refine wp_skip ?_
    refine then_n ?_
    refine wp_seq ?_
    refine wp_seq ?_
    refine reg [⟨fRef Rep.bool x0.Neg, [], [(1, none)], []⟩,
        ⟨fV Rep.bool x0.Neg, [], [(8, some 0)], []⟩] [9] [] hAt
        ⟨ok_field GInt.l0 fo47_0 rfl opd0,
        ok_load ty4 rfl opd0, trivial⟩ (by kernel_rfl) ?_
    clear hAt
    intro a w hAt
    replace hAt : At B h0 (mkG [(9, fV Rep.bool x0.Neg)]) (mkO []) F 10 a w := hAt
    refine then_n ?_
    refine wp_if hAt (by rfl) ?_ ?_
    · intro hb2
      have H := iteT hb2 H
      refine wp_seq ?_
      refine reg [⟨fV r_i64 (-1), [], [], []⟩] [2] [] hAt
          ⟨ok_assign rfl opdI, trivial⟩ (by kernel_rfl) ?_
      clear hAt
      intro a w hAt
      replace hAt : At B h0 (mkG [(2, fV r_i64 (-1))]) (mkO []) F 10 a w := hAt
      refine then_n ?_
      refine wp_ret ?_
      refine then_r ?_
      cases H
      exact ret1 rfl (rv_tmp rfl rfl) hAt
    · intro hb2
      have H := iteF hb2 H
      refine wp_skip ?_
      refine then_n ?_
      refine wp_seq ?_
      refine reg [⟨fV r_i64 1, [], [], []⟩] [2] [] hAt
          ⟨ok_assign rfl opdI, trivial⟩ (by kernel_rfl) ?_
      clear hAt
      intro a w hAt
      replace hAt : At B h0 (mkG [(2, fV r_i64 1)]) (mkO []) F 10 a w := hAt
      refine then_n ?_
      refine wp_ret ?_
      cases H
      exact ret1 rfl (rv_tmp rfl rfl) hAt
theorem ok_f_ref01_SignRat (N : Nat) (x0 : GRat) (r : Int) (H : f_ref01_SignRat N x0 = some r) : FnOk Try.prog 84 [fV GRat.rep x0] (fV r_i64 r) := by
  unfold f_ref01_SignRat at H
  refine fn_enter Try.func84 rfl rfl (by kernel_rfl) ?_
  intro κ B h0 F a w hAt
  refine wp_seq ?_
  refine reg [⟨fRef GRat.rep x0, [], [(0, none)], []⟩,
      ⟨fV r_i64 0, [], [], []⟩] [1] [] hAt
      ⟨ok_box rfl opd0,
      ok_assign rfl opdI, trivial⟩ (by kernel_rfl) ?_
  clear hAt
  intro a w hAt
  replace hAt : At B h0 (mkG [(1, fRef GRat.rep x0)]) (mkO []) F 7 a w := hAt
  refine then_n ?_
  refine wp_seq ?_
  obtain ⟨v1, hv1, H⟩ := bindE H
  obtain ⟨v2, hv2, H⟩ := bindE H
  refine reg [⟨fV GRat.rep x0, [], [(1, none)], []⟩,
      ⟨fV GRat.rep v1, [], [(3, some 0)], []⟩,
      ⟨fV GInt.rep v1.Num, [], [(4, some 1)], []⟩,
      ⟨fV r_i64 v2, [], [(5, some 2)], []⟩,
      ⟨fV r_i64 v2, [], [(6, some 3)], []⟩] [2] [] hAt
      ⟨ok_load ty49 rfl opd0,
      ok_call (ok_f_ref01_NormRat N x0 _ hv1) Try.func119 (by kernel_rfl) (by kernel_rfl) rfl ⟨opd0, trivial⟩,
      ok_fieldV GRat.l0 rfl fv49_0 ty47 rfl opd0,
      ok_call (ok_f_ref01_Sign N v1.Num _ hv2) Try.func126 (by kernel_rfl) (by kernel_rfl) rfl ⟨opd0, trivial⟩,
      ok_assign rfl opd0, trivial⟩ (by kernel_rfl) ?_
  clear hAt
  intro a w hAt
  replace hAt : At B h0 (mkG [(2, fV r_i64 v2)]) (mkO []) F 7 a w := hAt
  refine then_n ?_
  refine wp_ret ?_
  cases H
  exact ret1 rfl (rv_tmp rfl rfl) hAt
theorem ok_f_ref01_CmpRat (N : Nat) (x0 : GRat) (x1 : GRat) (r : Int) (H : f_ref01_CmpRat N x0 x1 = some r) : FnOk Try.prog 44 [fV GRat.rep x0, fV GRat.rep x1] (fV r_i64 r) := by
  unfold f_ref01_CmpRat at H
  refine fn_enter Try.func44 rfl rfl (by kernel_rfl) ?_
  intro κ B h0 F a w hAt
  refine wp_seq ?_
  refine reg [⟨fRef GRat.rep x0, [], [(0, none)], []⟩,
      ⟨fRef GRat.rep x1, [], [(1, none)], []⟩,
      ⟨fV r_i64 0, [], [], []⟩] [2, 3] [] hAt
      ⟨ok_box rfl opd0,
      ok_box rfl opd0,
      ok_assign rfl opdI, trivial⟩ (by kernel_rfl) ?_
  clear hAt
  intro a w hAt
  replace hAt : At B h0 (mkG [(2, fRef GRat.rep x0), (3, fRef GRat.rep x1)]) (mkO []) F 9 a w := hAt
  refine then_n ?_
  refine wp_seq ?_
  obtain ⟨v1, hv1, H⟩ := bindE H
  obtain ⟨v2, hv2, H⟩ := bindE H
  refine reg [⟨fV GRat.rep x0, [], [(2, none)], []⟩,
      ⟨fV GRat.rep x1, [], [(3, none)], []⟩,
      ⟨fV GRat.rep v1, [], [(5, some 0), (6, some 1)], []⟩,
      ⟨fV r_i64 v2, [], [(7, some 2)], []⟩,
      ⟨fV r_i64 v2, [], [(8, some 3)], []⟩] [4] [] hAt
      ⟨ok_load ty49 rfl opd0,
      ok_load ty49 rfl opd0,
      ok_call (ok_f_ref01_SubRat N x0 x1 _ hv1) Try.func79 (by kernel_rfl) (by kernel_rfl) rfl ⟨opd0, ⟨opd1, trivial⟩⟩,
      ok_call (ok_f_ref01_SignRat N v1 _ hv2) Try.func84 (by kernel_rfl) (by kernel_rfl) rfl ⟨opd0, trivial⟩,
      ok_assign rfl opd0, trivial⟩ (by kernel_rfl) ?_
  clear hAt
  intro a w hAt
  replace hAt : At B h0 (mkG [(4, fV r_i64 v2)]) (mkO []) F 9 a w := hAt
  refine then_n ?_
  refine wp_ret ?_
  cases H
  exact ret1 rfl (rv_tmp rfl rfl) hAt
theorem ok_f_ref01_QuoRat (N : Nat) (x0 : GRat) (x1 : GRat) (r : GRat) (H : f_ref01_QuoRat N x0 x1 = some r) : FnOk Try.prog 77 [fV GRat.rep x0, fV GRat.rep x1] (fV GRat.rep r) := by
  unfold f_ref01_QuoRat at H
  refine fn_enter Try.func77 rfl rfl (by kernel_rfl) ?_
  intro κ B h0 F a w hAt
  refine wp_seq ?_
  refine reg [⟨fRef GRat.rep x0, [], [(0, none)], []⟩,
      ⟨fRef GRat.rep x1, [], [(1, none)], []⟩,
      ⟨Fact.triv, [(4, some (boxE 49 GRat.rep (⟨(⟨false, []⟩ : GInt), (⟨false, []⟩ : GInt)⟩ : GRat)))], [], []⟩] [2, 3] [4] hAt
      ⟨ok_box rfl opd0,
      ok_box rfl opd0,
      ok_alloc ty49 rfl rfl, trivial⟩ (by kernel_rfl) ?_
  clear hAt
  intro a w hAt
  replace hAt : At B h0 (mkG [(2, fRef GRat.rep x0), (3, fRef GRat.rep x1)]) (mkO [(4, boxE 49 GRat.rep (⟨(⟨false, []⟩ : GInt), (⟨false, []⟩ : GInt)⟩ : GRat))]) F 22 a w := hAt
  refine then_n ?_
  refine wp_seq ?_
  obtain ⟨v1, hv1, H⟩ := bindE H
  obtain ⟨v2, hv2, H⟩ := bindE H
  refine regd [⟨fV GRat.rep x0, [], [(2, none)], []⟩,
      ⟨fV GRat.rep v1, [], [(7, some 0)], []⟩,
      ⟨fV GRat.rep x1, [], [(3, none)], []⟩,
      ⟨fV GRat.rep v2, [], [(9, some 2)], []⟩,
      ⟨Fact.triv, [(5, some (boxE 49 GRat.rep (⟨(⟨false, []⟩ : GInt), (⟨false, []⟩ : GInt)⟩ : GRat)))], [], []⟩,
      ⟨Fact.triv, [(6, some (boxE 49 GRat.rep (⟨(⟨false, []⟩ : GInt), (⟨false, []⟩ : GInt)⟩ : GRat)))], [], []⟩,
      ⟨Fact.triv, [(5, some (boxE 49 GRat.rep v1))], [(8, some 1)], [(5, some 4)]⟩,
      ⟨Fact.triv, [(6, some (boxE 49 GRat.rep v2))], [(10, some 3)], [(6, some 5)]⟩] [0, 1, 2, 3, 4, 5, 6, 7] [0, 1, 2, 3, 4, 5, 6, 7] [] [4, 5, 6] hAt
      ⟨ok_load ty49 rfl opd0,
      ok_call (ok_f_ref01_NormRat N x0 _ hv1) Try.func119 (by kernel_rfl) (by kernel_rfl) rfl ⟨opd0, trivial⟩,
      ok_load ty49 rfl opd0,
      ok_call (ok_f_ref01_NormRat N x1 _ hv2) Try.func119 (by kernel_rfl) (by kernel_rfl) rfl ⟨opd0, trivial⟩,
      ok_alloc ty49 rfl rfl,
      ok_alloc ty49 rfl rfl,
      ok_storeBox ty49 rfl rfl opd0,
      ok_storeBox ty49 rfl rfl opd0, trivial⟩ (by kernel_rfl) ?_
  clear hAt
  intro a w hAt
  replace hAt : At B h0 (mkG []) (mkO [(4, boxE 49 GRat.rep (⟨(⟨false, []⟩ : GInt), (⟨false, []⟩ : GInt)⟩ : GRat)), (5, boxE 49 GRat.rep v1), (6, boxE 49 GRat.rep v2)]) F 22 a w := hAt
  refine then_n ?_
  refine wp_seq ?_
  obtain ⟨v3, hv3, H⟩ := bindE H
  obtain ⟨v4, hv4, H⟩ := bindE H
  obtain ⟨v5, hv5, H⟩ := bindE H
  refine regd [⟨fOff 5 0, [], [], [(5, none)]⟩,
      ⟨fV GInt.rep v1.Num, [], [(11, some 0)], [(5, none)]⟩,
      ⟨fOff 6 2, [], [], [(6, none)]⟩,
      ⟨fV GInt.rep v2.Den, [], [(13, some 2)], [(6, none)]⟩,
      ⟨fV GInt.rep v3, [], [(12, some 1), (14, some 3)], []⟩,
      ⟨fOff 5 2, [], [], [(5, none)]⟩,
      ⟨fV GInt.rep v1.Den, [], [(16, some 5)], [(5, none)]⟩,
      ⟨fOff 6 0, [], [], [(6, none)]⟩,
      ⟨fV GInt.rep v2.Num, [], [(18, some 7)], [(6, none)]⟩,
      ⟨fV GInt.rep v4, [], [(17, some 6), (19, some 8)], []⟩,
      ⟨fV GRat.rep v5, [], [(15, some 4), (20, some 9)], []⟩,
      ⟨Fact.triv, [(4, some (boxE 49 GRat.rep v5))], [(21, some 10)], [(4, none)]⟩] [0, 1, 2, 3, 4, 5, 6, 7, 8, 9, 10, 11] [0, 1, 2, 3, 4, 5, 6, 7, 8, 9, 10, 11] [] [4] hAt
      ⟨ok_fieldOwn fo49_0 rfl,
      ok_loadOwn GRat.l0 ty47 rfl opd0,
      ok_fieldOwn fo49_1 rfl,
      ok_loadOwn GRat.l1 ty47 rfl opd0,
      ok_call (ok_f_ref01_Mul N v1.Num v2.Den _ hv3) Try.func121 (by kernel_rfl) (by kernel_rfl) rfl ⟨opd0, ⟨opd1, trivial⟩⟩,
      ok_fieldOwn fo49_1 rfl,
      ok_loadOwn GRat.l1 ty47 rfl opd0,
      ok_fieldOwn fo49_0 rfl,
      ok_loadOwn GRat.l0 ty47 rfl opd0,
      ok_call (ok_f_ref01_Mul N v1.Den v2.Num _ hv4) Try.func121 (by kernel_rfl) (by kernel_rfl) rfl ⟨opd0, ⟨opd1, trivial⟩⟩,
      ok_call (ok_f_ref01_Over N v3 v4 _ hv5) Try.func120 (by kernel_rfl) (by kernel_rfl) rfl ⟨opd0, ⟨opd1, trivial⟩⟩,
      ok_storeBox ty49 rfl rfl opd0, trivial⟩ (by kernel_rfl) ?_
  clear hAt
  intro a w hAt
  replace hAt : At B h0 (mkG []) (mkO [(4, boxE 49 GRat.rep v5)]) F 22 a w := hAt
  refine then_n ?_
  refine wp_ret ?_
  cases H
  exact ret1 rfl (rv_cell ty49 rfl) hAt
theorem ok_f_ref01_MulRat (N : Nat) (x0 : GRat) (x1 : GRat) (r : GRat) (H : f_ref01_MulRat N x0 x1 = some r) : FnOk Try.prog 83 [fV GRat.rep x0, fV GRat.rep x1] (fV GRat.rep r) := by
  unfold f_ref01_MulRat at H
  refine fn_enter Try.func83 rfl rfl (by kernel_rfl) ?_
  intro κ B h0 F a w hAt
  refine wp_seq ?_
  refine reg [⟨fRef GRat.rep x0, [], [(0, none)], []⟩,
      ⟨fRef GRat.rep x1, [], [(1, none)], []⟩,
      ⟨Fact.triv, [(4, some (boxE 49 GRat.rep (⟨(⟨false, []⟩ : GInt), (⟨false, []⟩ : GInt)⟩ : GRat)))], [], []⟩] [2, 3] [4] hAt
      ⟨ok_box rfl opd0,
      ok_box rfl opd0,
      ok_alloc ty49 rfl rfl, trivial⟩ (by kernel_rfl) ?_
  clear hAt
  intro a w hAt
  replace hAt : At B h0 (mkG [(2, fRef GRat.rep x0), (3, fRef GRat.rep x1)]) (mkO [(4, boxE 49 GRat.rep (⟨(⟨false, []⟩ : GInt), (⟨false, []⟩ : GInt)⟩ : GRat))]) F 22 a w := hAt
  refine then_n ?_
  refine wp_seq ?_
  obtain ⟨v1, hv1, H⟩ := bindE H
  obtain ⟨v2, hv2, H⟩ := bindE H
  refine regd [⟨fV GRat.rep x0, [], [(2, none)], []⟩,
      ⟨fV GRat.rep v1, [], [(7, some 0)], []⟩,
      ⟨fV GRat.rep x1, [], [(3, none)], []⟩,
      ⟨fV GRat.rep v2, [], [(9, some 2)], []⟩,
      ⟨Fact.triv, [(5, some (boxE 49 GRat.rep (⟨(⟨false, []⟩ : GInt), (⟨false, []⟩ : GInt)⟩ : GRat)))], [], []⟩,
      ⟨Fact.triv, [(6, some (boxE 49 GRat.rep (⟨(⟨false, []⟩ : GInt), (⟨false, []⟩ : GInt)⟩ : GRat)))], [], []⟩,
      ⟨Fact.triv, [(5, some (boxE 49 GRat.rep v1))], [(8, some 1)], [(5, some 4)]⟩,
      ⟨Fact.triv, [(6, some (boxE 49 GRat.rep v2))], [(10, some 3)], [(6, some 5)]⟩] [0, 1, 2, 3, 4, 5, 6, 7] [0, 1, 2, 3, 4, 5, 6, 7] [] [4, 5, 6] hAt
      ⟨ok_load ty49 rfl opd0,
      ok_call (ok_f_ref01_NormRat N x0 _ hv1) Try.func119 (by kernel_rfl) (by kernel_rfl) rfl ⟨opd0, trivial⟩,
      ok_load ty49 rfl opd0,
      ok_call (ok_f_ref01_NormRat N x1 _ hv2) Try.func119 (by kernel_rfl) (by kernel_rfl) rfl ⟨opd0, trivial⟩,
      ok_alloc ty49 rfl rfl,
      ok_alloc ty49 rfl rfl,
      ok_storeBox ty49 rfl rfl opd0,
      ok_storeBox ty49 rfl rfl opd0, trivial⟩ (by kernel_rfl) ?_
  clear hAt
  intro a w hAt
  replace hAt : At B h0 (mkG []) (mkO [(4, boxE 49 GRat.rep (⟨(⟨false, []⟩ : GInt), (⟨false, []⟩ : GInt)⟩ : GRat)), (5, boxE 49 GRat.rep v1), (6, boxE 49 GRat.rep v2)]) F 22 a w := hAt
  refine then_n ?_
  refine wp_seq ?_
  obtain ⟨v3, hv3, H⟩ := bindE H
  obtain ⟨v4, hv4, H⟩ := bindE H
  obtain ⟨v5, hv5, H⟩ := bindE H
  refine regd [⟨fOff 5 0, [], [], [(5, none)]⟩,
      ⟨fV GInt.rep v1.Num, [], [(11, some 0)], [(5, none)]⟩,
      ⟨fOff 6 0, [], [], [(6, none)]⟩,
      ⟨fV GInt.rep v2.Num, [], [(13, some 2)], [(6, none)]⟩,
      ⟨fV GInt.rep v3, [], [(12, some 1), (14, some 3)], []⟩,
      ⟨fOff 5 2, [], [], [(5, none)]⟩,
      ⟨fV GInt.rep v1.Den, [], [(16, some 5)], [(5, none)]⟩,
      ⟨fOff 6 2, [], [], [(6, none)]⟩,
      ⟨fV GInt.rep v2.Den, [], [(18, some 7)], [(6, none)]⟩,
      ⟨fV GInt.rep v4, [], [(17, some 6), (19, some 8)], []⟩,
      ⟨fV GRat.rep v5, [], [(15, some 4), (20, some 9)], []⟩,
      ⟨Fact.triv, [(4, some (boxE 49 GRat.rep v5))], [(21, some 10)], [(4, none)]⟩] [0, 1, 2, 3, 4, 5, 6, 7, 8, 9, 10, 11] [0, 1, 2, 3, 4, 5, 6, 7, 8, 9, 10, 11] [] [4] hAt
      ⟨ok_fieldOwn fo49_0 rfl,
      ok_loadOwn GRat.l0 ty47 rfl opd0,
      ok_fieldOwn fo49_0 rfl,
      ok_loadOwn GRat.l0 ty47 rfl opd0,
      ok_call (ok_f_ref01_Mul N v1.Num v2.Num _ hv3) Try.func121 (by kernel_rfl) (by kernel_rfl) rfl ⟨opd0, ⟨opd1, trivial⟩⟩,
      ok_fieldOwn fo49_1 rfl,
      ok_loadOwn GRat.l1 ty47 rfl opd0,
      ok_fieldOwn fo49_1 rfl,
      ok_loadOwn GRat.l1 ty47 rfl opd0,
      ok_call (ok_f_ref01_Mul N v1.Den v2.Den _ hv4) Try.func121 (by kernel_rfl) (by kernel_rfl) rfl ⟨opd0, ⟨opd1, trivial⟩⟩,
      ok_call (ok_f_ref01_Over N v3 v4 _ hv5) Try.func120 (by kernel_rfl) (by kernel_rfl) rfl ⟨opd0, ⟨opd1, trivial⟩⟩,
      ok_storeBox ty49 rfl rfl opd0, trivial⟩ (by kernel_rfl) ?_
  clear hAt
  intro a w hAt
  replace hAt : At B h0 (mkG []) (mkO [(4, boxE 49 GRat.rep v5)]) F 22 a w := hAt
  refine then_n ?_
  refine wp_ret ?_
  cases H
  exact ret1 rfl (rv_cell ty49 rfl) hAt
theorem ok_f_survey_inside_1 (N : Nat) (x0 : Int) (c0 : Int) (c1 : Int) (r : Bool) (H : f_survey_inside_1 N x0 c0 c1 = some r) : FnOk Try.prog 111 [fV r_i64 x0, fRef r_i64 c0, fRef r_i64 c1] (fV Rep.bool r) := by
  unfold f_survey_inside_1 at H
  refine fn_enter Try.func111 rfl rfl (by kernel_rfl) ?_
  intro κ B h0 F a w hAt
  refine wp_seq ?_
  refine reg [⟨fV Rep.bool false, [], [], []⟩] [0, 1, 2] [] hAt
      ⟨ok_assign rfl opdB, trivial⟩ (by kernel_rfl) ?_
  clear hAt
  intro a w hAt
  replace hAt : At B h0 (mkG [(0, fV r_i64 x0), (1, fRef r_i64 c0), (2, fRef r_i64 c1)]) (mkO []) F 13 a w := hAt
  refine then_n ?_
  refine wp_seq ?_
  refine reg [⟨fV r_i64 x0, [], [(0, none)], []⟩,
      ⟨fV r_i64 c0, [], [(1, none)], []⟩,
      ⟨fV Rep.bool (cmpI .lss x0 c0), [], [(5, some 0), (6, some 1)], []⟩,
      ⟨fV Rep.bool (cmpI .lss x0 c0), [], [(7, some 2)], []⟩,
      ⟨Fact.when ((!(cmpI .lss x0 c0)) = true) (fV r_i64 x0), [], [(8, some 3), (0, none)], []⟩,
      ⟨Fact.when ((!(cmpI .lss x0 c0)) = true) (fV r_i64 c1), [], [(8, some 3), (2, none)], []⟩,
      ⟨Fact.when ((!(cmpI .lss x0 c0)) = true) (fV Rep.bool (cmpI .gtr x0 c1)), [], [(8, some 3), (9, some 4), (10, some 5)], []⟩,
      ⟨fV Rep.bool ((cmpI .lss x0 c0) || (cmpI .gtr x0 c1)), [], [(8, some 3), (11, some 6)], []⟩,
      ⟨fV Rep.bool ((cmpI .lss x0 c0) || (cmpI .gtr x0 c1)), [], [(12, some 7)], []⟩] [4] [] hAt
      ⟨ok_move rfl opd0,
      ok_load ty3 rfl opd0,
      ok_cmp (op := .lss) (by simp) rfl rfl opd0 opd1,
      ok_move rfl opd0,
      obl_tf rfl rfl rfl rfl rfl rfl rfl (fun hg => ok_move rfl opd1),
      obl_tf rfl rfl rfl rfl rfl rfl rfl (fun hg => ok_load ty3 rfl opd1),
      obl_tf rfl rfl rfl rfl rfl rfl rfl (fun hg => ok_cmp (op := .gtr) (by simp) rfl rfl (opd1.on hg) (opd2.on hg)),
      ok_or rfl opd0 (fun e => (opd1.on (notT e))),
      ok_assign rfl opd0, trivial⟩ (by kernel_rfl) ?_
  clear hAt
  intro a w hAt
  replace hAt : At B h0 (mkG [(4, fV Rep.bool ((cmpI .lss x0 c0) || (cmpI .gtr x0 c1)))]) (mkO []) F 13 a w := hAt
  refine then_n ?_
  refine wp_ret ?_
  cases H
  exact ret1 rfl (rv_tmp rfl rfl) hAt
theorem ok_f_slices_IndexFunclint_int (N : Nat) (x0 : (List Int)) (x1 : (Int → Option Bool)) (r : Int) (H : f_slices_IndexFunclint_int N x0 x1 = some r) : FnOk Try.prog 142 [fV (Rep.slice r_i64) x0, fF1 Try.prog r_i64 Rep.bool x1] (fV r_i64 r) := by
  unfold f_slices_IndexFunclint_int at H
  refine fn_enter Try.func142 rfl rfl (by kernel_rfl) ?_
  intro κ B h0 F a w hAt
  refine wp_seq ?_
  refine reg [⟨fV r_i64 0, [], [], []⟩] [0, 1] [] hAt
      ⟨ok_assign rfl opdI, trivial⟩ (by kernel_rfl) ?_
  clear hAt
  intro a w hAt
  replace hAt : At B h0 (mkG [(0, fV (Rep.slice r_i64) x0), (1, fF1 Try.prog r_i64 Rep.bool x1)]) (mkO []) F 19 a w := hAt
  refine then_n ?_
  refine wp_seq ?_
  refine wp_seq ?_
  refine reg [⟨fV (Rep.slice r_i64) x0, [], [(0, none)], []⟩,
      ⟨fV r_i64 (List.length x0 : Int), [], [(6, some 0)], []⟩,
      ⟨fV r_i64 0, [], [], []⟩] [0, 1, 7, 8] [] hAt
      ⟨ok_move rfl opd0,
      ok_len un22 rfl opd0,
      ok_move rfl opdI, trivial⟩ (by kernel_rfl) ?_
  clear hAt
  intro a w hAt
  replace hAt : At B h0 (mkG [(0, fV (Rep.slice r_i64) x0), (1, fF1 Try.prog r_i64 Rep.bool x1), (7, fV r_i64 (List.length x0 : Int)), (8, fV r_i64 0)]) (mkO []) F 19 a w := hAt
  refine then_n ?_
  refine wp_block ?_
  obtain ⟨o6, hl7, H⟩ := bindE H
  refine wp_mono (wp_loopN (f := f_slices_IndexFunclint_int_L1 N x0 x1) (fun (s1 : Int) a w => At B h0 (mkG [(0, fV (Rep.slice r_i64) x0), (1, fF1 Try.prog r_i64 Rep.bool x1), (7, fV r_i64 (List.length x0 : Int)), (8, fV r_i64 s1)]) (mkO []) F 19 a w) (fun o e a w => (Sum.elim (fun v => e = .exit 0 ∧ At B h0 (mkG []) (mkO []) F 19 a w) (fun v => e = .ret ∧ At B h0 (mkG [(4, fV r_i64 v)]) (mkO []) F 19 a w)) o) ?_ N 0 o6 _ _ hl7 ?_) ?_
  · clear H hAt hl7
    intro s1 r10 a w H hAt
    unfold f_slices_IndexFunclint_int_L1 at H
    refine wp_seq ?_
    refine reg [⟨fV Rep.bool (cmpI .lss s1 (List.length x0 : Int)), [], [(8, none), (7, none)], []⟩] [0, 1, 7, 8, 9] [] hAt
        ⟨ok_cmp (op := .lss) (by simp) rfl rfl opd0 opd1, trivial⟩ (by kernel_rfl) ?_
    clear hAt
    intro a w hAt
    replace hAt : At B h0 (mkG [(0, fV (Rep.slice r_i64) x0), (1, fF1 Try.prog r_i64 Rep.bool x1), (7, fV r_i64 (List.length x0 : Int)), (8, fV r_i64 s1), (9, fV Rep.bool (cmpI .lss s1 (List.length x0 : Int)))]) (mkO []) F 19 a w := hAt
    refine then_n ?_
    refine wp_seq ?_
    refine wp_if hAt (by rfl) ?_ ?_
    · intro hb5
      have H := iteT hb5 H
      refine wp_skip ?_
      refine then_n ?_
      refine wp_seq ?_
      refine wp_block ?_
      refine wp_seq ?_
      refine reg [⟨fV r_i64 s1, [], [(8, none)], []⟩,
          ⟨fV r_i64 s1, [], [(10, some 0)], []⟩] [0, 1, 5, 7, 8] [] hAt
          ⟨ok_move rfl opd0,
          ok_assign rfl opd0, trivial⟩ (by kernel_rfl) ?_
      clear hAt
      intro a w hAt
      replace hAt : At B h0 (mkG [(0, fV (Rep.slice r_i64) x0), (1, fF1 Try.prog r_i64 Rep.bool x1), (5, fV r_i64 s1), (7, fV r_i64 (List.length x0 : Int)), (8, fV r_i64 s1)]) (mkO []) F 19 a w := hAt
      refine then_n ?_
      refine wp_seq ?_
      obtain ⟨v2, hv2, H⟩ := bindE H
      obtain ⟨v3, hv3, H⟩ := bindE H
      refine reg [⟨fF1 Try.prog r_i64 Rep.bool x1, [], [(1, none)], []⟩,
          ⟨fV (Rep.slice r_i64) x0, [], [(0, none)], []⟩,
          ⟨fV r_i64 s1, [], [(5, none)], []⟩,
          ⟨fRef r_i64 v2, [], [(12, some 1), (13, some 2)], []⟩,
          ⟨fV r_i64 v2, [], [(14, some 3)], []⟩,
          ⟨fV Rep.bool v3, [], [(11, some 0), (15, some 4)], []⟩] [0, 1, 5, 7, 8, 16] [] hAt
          ⟨ok_move rfl opd0,
          ok_move rfl opd0,
          ok_move rfl opd0,
          ok_index ty3 un22 hv2 rfl opd0 opd1,
          ok_load ty3 rfl opd0,
          ok_callF1 (φ := x1) hv3 rfl opd0 ⟨opd1, trivial⟩, trivial⟩ (by kernel_rfl) ?_
      clear hAt
      intro a w hAt
      replace hAt : At B h0 (mkG [(0, fV (Rep.slice r_i64) x0), (1, fF1 Try.prog r_i64 Rep.bool x1), (5, fV r_i64 s1), (7, fV r_i64 (List.length x0 : Int)), (8, fV r_i64 s1), (16, fV Rep.bool v3)]) (mkO []) F 19 a w := hAt
      refine then_n ?_
      refine wp_if hAt (by rfl) ?_ ?_
      · intro hb4
        have H := iteT hb4 H
        refine wp_seq ?_
        refine reg [⟨fV r_i64 s1, [], [(5, none)], []⟩,
            ⟨fV r_i64 s1, [], [(17, some 0)], []⟩] [4] [] hAt
            ⟨ok_move rfl opd0,
            ok_assign rfl opd0, trivial⟩ (by kernel_rfl) ?_
        clear hAt
        intro a w hAt
        replace hAt : At B h0 (mkG [(4, fV r_i64 s1)]) (mkO []) F 19 a w := hAt
        refine then_n ?_
        refine wp_ret ?_
        refine blk_r ?_
        refine then_r ?_
        cases H
        exact ⟨ret_ne, rfl, hAt.pick [4] []⟩
      · intro hb4
        have H := iteF hb4 H
        refine wp_skip ?_
        refine blk_n ?_
        refine then_n ?_
        refine reg [⟨fV r_i64 (IntKind.i64.wrap (s1 + 1)), [], [(8, none)], []⟩,
            ⟨fV r_i64 (IntKind.i64.wrap (s1 + 1)), [], [(18, some 0)], []⟩] [0, 1, 7, 8] [] hAt
            ⟨ok_add rfl opd0 opdI,
            ok_move rfl opd0, trivial⟩ (by kernel_rfl) ?_
        clear hAt
        intro a w hAt
        replace hAt : At B h0 (mkG [(0, fV (Rep.slice r_i64) x0), (1, fF1 Try.prog r_i64 Rep.bool x1), (7, fV r_i64 (List.length x0 : Int)), (8, fV r_i64 (IntKind.i64.wrap (s1 + 1)))]) (mkO []) F 19 a w := hAt
        cases H
        exact ⟨rfl, hAt.pick [0, 1, 7, 8] []⟩
    · intro hb5
      have H := iteF hb5 H
      refine wp_exit ?_
      refine then_x ?_
      cases H
      exact ⟨ex_ne, rfl, hAt.pick [] []⟩
  · exact hAt.pick [0, 1, 7, 8] []
  · clear hAt
    intro e a w hp
    cases o6 with
    | inl l8 =>
      rw [Sum.elim_inl] at H
      obtain ⟨rfl, hAt⟩ := hp
      refine blk_eq ?_
      refine then_n ?_
      refine wp_seq ?_
      refine reg [⟨fV r_i64 (-1), [], [], []⟩] [4] [] hAt
          ⟨ok_assign rfl opdI, trivial⟩ (by kernel_rfl) ?_
      clear hAt
      intro a w hAt
      replace hAt : At B h0 (mkG [(4, fV r_i64 (-1))]) (mkO []) F 19 a w := hAt
      refine then_n ?_
      refine wp_ret ?_
      cases H
      exact ret1 rfl (rv_tmp rfl rfl) hAt
    | inr r9 =>
      rw [Sum.elim_inr] at H
      replace hp := hp
      obtain ⟨rfl, hAt⟩ := hp
      refine blk_r ?_
      refine then_r ?_
      cases H
      exact ret1 rfl (rv_tmp rfl rfl) hAt
theorem ok_f_slices_ContainsFunclint_int (N : Nat) (x0 : (List Int)) (x1 : (Int → Option Bool)) (r : Bool) (H : f_slices_ContainsFunclint_int N x0 x1 = some r) : FnOk Try.prog 110 [fV (Rep.slice r_i64) x0, fF1 Try.prog r_i64 Rep.bool x1] (fV Rep.bool r) := by
  unfold f_slices_ContainsFunclint_int at H
  refine fn_enter Try.func110 rfl rfl (by kernel_rfl) ?_
  intro κ B h0 F a w hAt
  refine wp_seq ?_
  refine reg [⟨fV Rep.bool false, [], [], []⟩] [0, 1] [] hAt
      ⟨ok_assign rfl opdB, trivial⟩ (by kernel_rfl) ?_
  clear hAt
  intro a w hAt
  replace hAt : At B h0 (mkG [(0, fV (Rep.slice r_i64) x0), (1, fF1 Try.prog r_i64 Rep.bool x1)]) (mkO []) F 9 a w := hAt
  refine then_n ?_
  refine wp_seq ?_
  obtain ⟨v1, hv1, H⟩ := bindE H
  refine reg [⟨fV (Rep.slice r_i64) x0, [], [(0, none)], []⟩,
      ⟨fF1 Try.prog r_i64 Rep.bool x1, [], [(1, none)], []⟩,
      ⟨fV r_i64 v1, [], [(5, some 0), (6, some 1)], []⟩,
      ⟨fV Rep.bool (cmpI .geq v1 0), [], [(7, some 2)], []⟩,
      ⟨fV Rep.bool (cmpI .geq v1 0), [], [(8, some 3)], []⟩] [4] [] hAt
      ⟨ok_move rfl opd0,
      ok_move rfl opd0,
      ok_call (ok_f_slices_IndexFunclint_int N x0 x1 _ hv1) Try.func142 (by kernel_rfl) (by kernel_rfl) rfl ⟨opd0, ⟨opd1, trivial⟩⟩,
      ok_cmp (op := .geq) (by simp) rfl rfl opd0 opdI,
      ok_assign rfl opd0, trivial⟩ (by kernel_rfl) ?_
  clear hAt
  intro a w hAt
  replace hAt : At B h0 (mkG [(4, fV Rep.bool (cmpI .geq v1 0))]) (mkO []) F 9 a w := hAt
  refine then_n ?_
  refine wp_ret ?_
  cases H
  exact ret1 rfl (rv_tmp rfl rfl) hAt
theorem ok_f_survey_inside (N : Nat) (x0 : Int) (x1 : Int) (x2 : (List Int)) (r : Bool) (H : f_survey_inside N x0 x1 x2 = some r) : FnOk Try.prog 71 [fV r_i64 x0, fV r_i64 x1, fV (Rep.slice r_i64) x2] (fV Rep.bool r) := by
  unfold f_survey_inside at H
  refine fn_enter Try.func71 rfl rfl (by kernel_rfl) ?_
  intro κ B h0 F a w hAt
  refine wp_seq ?_
  refine reg [⟨fRef r_i64 x0, [], [(0, none)], []⟩,
      ⟨fRef r_i64 x1, [], [(1, none)], []⟩,
      ⟨fV Rep.bool false, [], [], []⟩] [2, 3, 4] [] hAt
      ⟨ok_box rfl opd0,
      ok_box rfl opd0,
      ok_assign rfl opdB, trivial⟩ (by kernel_rfl) ?_
  clear hAt
  intro a w hAt
  replace hAt : At B h0 (mkG [(2, fV (Rep.slice r_i64) x2), (3, fRef r_i64 x0), (4, fRef r_i64 x1)]) (mkO []) F 11 a w := hAt
  refine then_n ?_
  refine wp_seq ?_
  obtain ⟨v1, hv1, H⟩ := bindE H
  refine reg [⟨fV (Rep.slice r_i64) x2, [], [(2, none)], []⟩,
      ⟨fF1 Try.prog r_i64 Rep.bool (fun y0 => f_survey_inside_1 N y0 x0 x1), [], [(3, none), (4, none)], []⟩,
      ⟨fV Rep.bool v1, [], [(7, some 0), (8, some 1)], []⟩,
      ⟨fV Rep.bool (!v1), [], [(9, some 2)], []⟩,
      ⟨fV Rep.bool (!v1), [], [(10, some 3)], []⟩] [6] [] hAt
      ⟨ok_move rfl opd0,
      ok_mkF1 (φ := fun y0 => f_survey_inside_1 N y0 x0 x1) (fun y0 r H => ok_f_survey_inside_1 N y0 x0 x1 r H) Try.func111 (by kernel_rfl) (by kernel_rfl) rfl ⟨opd0, ⟨opd1, trivial⟩⟩,
      ok_call (ok_f_slices_ContainsFunclint_int N x2 (fun y0 => f_survey_inside_1 N y0 x0 x1) _ hv1) Try.func110 (by kernel_rfl) (by kernel_rfl) rfl ⟨opd0, ⟨opd1, trivial⟩⟩,
      ok_not rfl opd0,
      ok_assign rfl opd0, trivial⟩ (by kernel_rfl) ?_
  clear hAt
  intro a w hAt
  replace hAt : At B h0 (mkG [(6, fV Rep.bool (!v1))]) (mkO []) F 11 a w := hAt
  refine then_n ?_
  refine wp_ret ?_
  cases H
  exact ret1 rfl (rv_tmp rfl rfl) hAt
theorem ok_f_survey_CheckTrial (N : Nat) (x0 : (List GRun)) (r : Int) (H : f_survey_CheckTrial N x0 = some r) : FnOk Try.prog 29 [fV (Rep.slice GRun.rep) x0] (fV r_i64 r) := by
  unfold f_survey_CheckTrial at H
  refine fn_enter Try.func29 rfl rfl (by kernel_rfl) ?_
  intro κ B h0 F a w hAt
  refine wp_seq ?_
  refine reg [⟨fV r_i64 0, [], [], []⟩] [0] [] hAt
      ⟨ok_assign rfl opdI, trivial⟩ (by kernel_rfl) ?_
  clear hAt
  intro a w hAt
  replace hAt : At B h0 (mkG [(0, fV (Rep.slice GRun.rep) x0)]) (mkO []) F 65 a w := hAt
  refine then_n ?_
  refine wp_seq ?_
  refine wp_block ?_
  refine wp_seq ?_
  refine reg [⟨fV (Rep.slice GRun.rep) x0, [], [(0, none)], []⟩,
      ⟨fV r_i64 (List.length x0 : Int), [], [(7, some 0)], []⟩,
      ⟨fV Rep.bool (cmpI .lss (List.length x0 : Int) 2), [], [(8, some 1)], []⟩,
      ⟨fV Rep.bool (cmpI .lss (List.length x0 : Int) 2), [], [(9, some 2)], []⟩] [0, 6] [] hAt
      ⟨ok_move rfl opd0,
      ok_len un43 rfl opd0,
      ok_cmp (op := .lss) (by simp) rfl rfl opd0 opdI,
      ok_assign rfl opd0, trivial⟩ (by kernel_rfl) ?_
  clear hAt
  intro a w hAt
  replace hAt : At B h0 (mkG [(0, fV (Rep.slice GRun.rep) x0), (6, fV Rep.bool (cmpI .lss (List.length x0 : Int) 2))]) (mkO []) F 65 a w := hAt
  refine then_n ?_
  refine wp_if hAt (by rfl) ?_ ?_
  · intro hb17
    have H := iteT hb17 H
    refine wp_seq ?_
    refine reg [⟨fV r_i64 11, [], [], []⟩] [2] [] hAt
        ⟨ok_assign rfl opdI, trivial⟩ (by kernel_rfl) ?_
    clear hAt
    intro a w hAt
    replace hAt : At B h0 (mkG [(2, fV r_i64 11)]) (mkO []) F 65 a w := hAt
    refine then_n ?_
    refine wp_ret ?_
    refine blk_r ?_
    refine then_r ?_
    cases H
    exact ret1 rfl (rv_tmp rfl rfl) hAt
  · intro hb17
    have H := iteF hb17 H
    refine wp_seq ?_
    refine reg [⟨fV (Rep.slice GRun.rep) x0, [], [(0, none)], []⟩,
        ⟨fV r_i64 (List.length x0 : Int), [], [(11, some 0)], []⟩,
        ⟨fV Rep.bool (cmpI .gtr (List.length x0 : Int) 12), [], [(12, some 1)], []⟩,
        ⟨fV Rep.bool (cmpI .gtr (List.length x0 : Int) 12), [], [(13, some 2)], []⟩] [0, 10] [] hAt
        ⟨ok_move rfl opd0,
        ok_len un43 rfl opd0,
        ok_cmp (op := .gtr) (by simp) rfl rfl opd0 opdI,
        ok_assign rfl opd0, trivial⟩ (by kernel_rfl) ?_
    clear hAt
    intro a w hAt
    replace hAt : At B h0 (mkG [(0, fV (Rep.slice GRun.rep) x0), (10, fV Rep.bool (cmpI .gtr (List.length x0 : Int) 12))]) (mkO []) F 65 a w := hAt
    refine then_n ?_
    refine wp_if hAt (by rfl) ?_ ?_
    · intro hb16
      have H := iteT hb16 H
      refine wp_seq ?_
      refine reg [⟨fV r_i64 8, [], [], []⟩] [2] [] hAt
          ⟨ok_assign rfl opdI, trivial⟩ (by kernel_rfl) ?_
      clear hAt
      intro a w hAt
      replace hAt : At B h0 (mkG [(2, fV r_i64 8)]) (mkO []) F 65 a w := hAt
      refine then_n ?_
      refine wp_ret ?_
      refine blk_r ?_
      refine then_r ?_
      cases H
      exact ret1 rfl (rv_tmp rfl rfl) hAt
    · intro hb16
      have H := iteF hb16 H
      refine wp_skip ?_
      refine blk_n ?_
      refine then_n ?_
      refine wp_seq ?_
      refine wp_seq ?_
      refine reg [⟨fV (Rep.slice GRun.rep) x0, [], [(0, none)], []⟩,
          ⟨fV r_i64 (List.length x0 : Int), [], [(14, some 0)], []⟩,
          ⟨fV r_i64 0, [], [], []⟩] [0, 14, 15, 16] [] hAt
          ⟨ok_move rfl opd0,
          ok_len un43 rfl opd0,
          ok_move rfl opdI, trivial⟩ (by kernel_rfl) ?_
      clear hAt
      intro a w hAt
      replace hAt : At B h0 (mkG [(0, fV (Rep.slice GRun.rep) x0), (14, fV (Rep.slice GRun.rep) x0), (15, fV r_i64 (List.length x0 : Int)), (16, fV r_i64 0)]) (mkO []) F 65 a w := hAt
      refine then_n ?_
      refine wp_block ?_
      obtain ⟨o11, hl12, H⟩ := bindE H
      refine wp_mono (wp_loopN (f := f_survey_CheckTrial_L1 N x0) (fun (s1 : Int) a w => At B h0 (mkG [(0, fV (Rep.slice GRun.rep) x0), (14, fV (Rep.slice GRun.rep) x0), (15, fV r_i64 (List.length x0 : Int)), (16, fV r_i64 s1)]) (mkO []) F 65 a w) (fun o e a w => (Sum.elim (fun v => e = .exit 1 ∧ At B h0 (mkG []) (mkO []) F 65 a w) (fun v => e = .ret ∧ At B h0 (mkG [(2, fV r_i64 v)]) (mkO []) F 65 a w)) o) ?_ N 0 o11 _ _ hl12 ?_) ?_
      · clear H hAt hl12
        intro s1 r15 a w H hAt
        unfold f_survey_CheckTrial_L1 at H
        refine wp_seq ?_
        refine reg [⟨fV Rep.bool (cmpI .lss s1 (List.length x0 : Int)), [], [(16, none), (15, none)], []⟩] [0, 14, 15, 16, 17] [] hAt
            ⟨ok_cmp (op := .lss) (by simp) rfl rfl opd0 opd1, trivial⟩ (by kernel_rfl) ?_
        clear hAt
        intro a w hAt
        replace hAt : At B h0 (mkG [(0, fV (Rep.slice GRun.rep) x0), (14, fV (Rep.slice GRun.rep) x0), (15, fV r_i64 (List.length x0 : Int)), (16, fV r_i64 s1), (17, fV Rep.bool (cmpI .lss s1 (List.length x0 : Int)))]) (mkO []) F 65 a w := hAt
        refine then_n ?_
        refine wp_seq ?_
        refine wp_if hAt (by rfl) ?_ ?_
        · intro hb10
          have H := iteT hb10 H
          refine wp_skip ?_
          refine then_n ?_
          refine wp_seq ?_
          refine wp_block ?_
          refine wp_seq ?_
          obtain ⟨v2, hv2, H⟩ := bindE H
          refine reg [⟨fV r_i64 s1, [], [(16, none)], []⟩,
              ⟨fRef GRun.rep v2, [], [(14, none), (16, none)], []⟩,
              ⟨fV GRun.rep v2, [], [(19, some 1)], []⟩,
              ⟨Fact.triv, [(4, some (boxE 131 GRun.rep (⟨0, 0, 0, false⟩ : GRun)))], [], []⟩,
              ⟨fV r_i64 s1, [], [(18, some 0)], []⟩,
              ⟨Fact.triv, [(4, some (boxE 131 GRun.rep v2))], [(20, some 2)], [(4, some 3)]⟩] [0, 3, 14, 15, 16] [4] hAt
              ⟨ok_move rfl opd0,
              ok_index ty131 un43 hv2 rfl opd0 opd1,
              ok_load ty131 rfl opd0,
              ok_alloc ty131 rfl rfl,
              ok_assign rfl opd0,
              ok_storeBox ty131 rfl rfl opd0, trivial⟩ (by kernel_rfl) ?_
          clear hAt
          intro a w hAt
          replace hAt : At B h0 (mkG [(0, fV (Rep.slice GRun.rep) x0), (3, fV r_i64 s1), (14, fV (Rep.slice GRun.rep) x0), (15, fV r_i64 (List.length x0 : Int)), (16, fV r_i64 s1)]) (mkO [(4, boxE 131 GRun.rep v2)]) F 65 a w := hAt
          refine then_n ?_
          refine wp_seq ?_
          refine wp_seq ?_
          obtain ⟨v3, hv3, H⟩ := bindE H
          obtain ⟨v4, hv4, H⟩ := bindE H
          refine reg [⟨fOff 4 0, [], [], [(4, none)]⟩,
              ⟨fV r_i64 v2.Start, [], [(21, some 0)], [(4, none)]⟩,
              ⟨fV (Rep.slice r_i64) [v2.Start], [], [(22, some 1)], []⟩,
              ⟨fV Rep.bool v3, [], [(23, some 2)], []⟩,
              ⟨fV Rep.bool (!v3), [], [(24, some 3)], []⟩,
              ⟨fV Rep.bool (!v3), [], [(25, some 4)], []⟩,
              ⟨Fact.when ((!(!v3)) = true) (fOff 4 1), [], [(26, some 5)], [(4, none)]⟩,
              ⟨Fact.when ((!(!v3)) = true) (fV r_i64 v2.Seconds), [], [(26, some 5), (27, some 6)], [(4, none)]⟩,
              ⟨Fact.when ((!(!v3)) = true) (fOff 4 2), [], [(26, some 5)], [(4, none)]⟩,
              ⟨Fact.when ((!(!v3)) = true) (fV r_i64 v2.Metres), [], [(26, some 5), (29, some 8)], [(4, none)]⟩,
              ⟨Fact.when ((!(!v3)) = true) (fV (Rep.slice r_i64) [v2.Seconds, v2.Metres]), [], [(26, some 5), (28, some 7), (30, some 9)], []⟩,
              ⟨Fact.when ((!(!v3)) = true) (fV Rep.bool v4), [], [(26, some 5), (31, some 10)], []⟩,
              ⟨Fact.when ((!(!v3)) = true) (fV Rep.bool (!v4)), [], [(26, some 5), (32, some 11)], []⟩,
              ⟨fV Rep.bool ((!v3) || (!v4)), [], [(26, some 5), (33, some 12)], []⟩] [0, 3, 14, 15, 16, 34] [4] hAt
              ⟨ok_fieldOwn fo131_0 rfl,
              ok_loadOwn GRun.l0 ty3 rfl opd0,
              ok_buildSlice ty3 un22 rfl rfl (fillC (Lens.arr _ _ 0 (by decide)) rfl opd0 fillN),
              ok_call (ok_f_survey_inside N 0 1000000 [v2.Start] _ hv3) Try.func71 (by kernel_rfl) (by kernel_rfl) rfl ⟨opdI, ⟨opdI, ⟨opd0, trivial⟩⟩⟩,
              ok_not rfl opd0,
              ok_move rfl opd0,
              obl_tf rfl rfl rfl rfl rfl rfl rfl (fun hg => ok_fieldOwn fo131_1 rfl),
              obl_tf rfl rfl rfl rfl rfl rfl rfl (fun hg => ok_loadOwn GRun.l1 ty3 rfl (opd1.on hg)),
              obl_tf rfl rfl rfl rfl rfl rfl rfl (fun hg => ok_fieldOwn fo131_2 rfl),
              obl_tf rfl rfl rfl rfl rfl rfl rfl (fun hg => ok_loadOwn GRun.l2 ty3 rfl (opd1.on hg)),
              obl_tf rfl rfl rfl rfl rfl rfl rfl (fun hg => ok_buildSlice ty3 un22 rfl rfl (fillC (Lens.arr _ _ 0 (by decide)) rfl (opd1.on hg) (fillC (Lens.arr _ _ 1 (by decide)) rfl (opd2.on hg) fillN))),
              obl_tf rfl rfl rfl rfl rfl rfl rfl (fun hg => ok_call (ok_f_survey_inside N 1 100000 [v2.Seconds, v2.Metres] _ (iteT hg hv4)) Try.func71 (by kernel_rfl) (by kernel_rfl) rfl ⟨opdI, ⟨opdI, ⟨(opd1.on hg), trivial⟩⟩⟩),
              obl_tf rfl rfl rfl rfl rfl rfl rfl (fun hg => ok_not rfl (opd1.on hg)),
              ok_or rfl opd0 (fun e => (opd1.on (notT e))), trivial⟩ (by kernel_rfl) ?_
          clear hAt
          intro a w hAt
          replace hAt : At B h0 (mkG [(0, fV (Rep.slice GRun.rep) x0), (3, fV r_i64 s1), (14, fV (Rep.slice GRun.rep) x0), (15, fV r_i64 (List.length x0 : Int)), (16, fV r_i64 s1), (34, fV Rep.bool ((!v3) || (!v4)))]) (mkO [(4, boxE 131 GRun.rep v2)]) F 65 a w := hAt
          refine then_n ?_
          refine wp_if hAt (by rfl) ?_ ?_
          · intro hb9
            have H := iteT hb9 H
            refine wp_seq ?_
            refine reg [⟨fV r_i64 2, [], [], []⟩] [2] [] hAt
                ⟨ok_assign rfl opdI, trivial⟩ (by kernel_rfl) ?_
            clear hAt
            intro a w hAt
            replace hAt : At B h0 (mkG [(2, fV r_i64 2)]) (mkO []) F 65 a w := hAt
            refine then_n ?_
            refine wp_ret ?_
            refine then_r ?_
            refine blk_r ?_
            refine then_r ?_
            cases H
            exact ⟨ret_ne, rfl, hAt.pick [2] []⟩
          · intro hb9
            have H := iteF hb9 H
            refine wp_skip ?_
            refine then_n ?_
            refine wp_seq ?_
            refine wp_seq ?_
            refine reg [⟨fV r_i64 s1, [], [(3, none)], []⟩,
                ⟨fV Rep.bool (cmpI .eql s1 0), [], [(35, some 0)], []⟩] [0, 3, 14, 15, 16, 36] [4] hAt
                ⟨ok_move rfl opd0,
                ok_cmp (op := .eql) (by simp) rfl rfl opd0 opdI, trivial⟩ (by kernel_rfl) ?_
            clear hAt
            intro a w hAt
            replace hAt : At B h0 (mkG [(0, fV (Rep.slice GRun.rep) x0), (3, fV r_i64 s1), (14, fV (Rep.slice GRun.rep) x0), (15, fV r_i64 (List.length x0 : Int)), (16, fV r_i64 s1), (36, fV Rep.bool (cmpI .eql s1 0))]) (mkO [(4, boxE 131 GRun.rep v2)]) F 65 a w := hAt
            refine then_n ?_
            refine wp_if hAt (by rfl) ?_ ?_
            · intro hb8
              have H := iteT hb8 H
              refine wp_exit ?_
              refine then_x ?_
              refine blk_eq ?_
              refine then_n ?_
              refine reg [⟨fV r_i64 (IntKind.i64.wrap (s1 + 1)), [], [(16, none)], []⟩,
                  ⟨fV r_i64 (IntKind.i64.wrap (s1 + 1)), [], [(64, some 0)], []⟩] [0, 14, 15, 16] [] hAt
                  ⟨ok_add rfl opd0 opdI,
                  ok_move rfl opd0, trivial⟩ (by kernel_rfl) ?_
              clear hAt
              intro a w hAt
              replace hAt : At B h0 (mkG [(0, fV (Rep.slice GRun.rep) x0), (14, fV (Rep.slice GRun.rep) x0), (15, fV r_i64 (List.length x0 : Int)), (16, fV r_i64 (IntKind.i64.wrap (s1 + 1)))]) (mkO []) F 65 a w := hAt
              cases H
              exact ⟨rfl, hAt.pick [0, 14, 15, 16] []⟩
            · intro hb8
              have H := iteF hb8 H
              refine wp_skip ?_
              refine then_n ?_
              refine wp_seq ?_
              obtain ⟨v5, hv5, H⟩ := bindE H
              refine reg [⟨fV (Rep.slice GRun.rep) x0, [], [(0, none)], []⟩,
                  ⟨fV r_i64 s1, [], [(3, none)], []⟩,
                  ⟨fV r_i64 (IntKind.i64.wrap (s1 - 1)), [], [(38, some 1)], []⟩,
                  ⟨fRef GRun.rep v5, [], [(37, some 0), (39, some 2)], []⟩,
                  ⟨fV GRun.rep v5, [], [(40, some 3)], []⟩,
                  ⟨Fact.triv, [(5, some (boxE 131 GRun.rep (⟨0, 0, 0, false⟩ : GRun)))], [], []⟩,
                  ⟨Fact.triv, [(5, some (boxE 131 GRun.rep v5))], [(41, some 4)], [(5, some 5)]⟩] [0, 14, 15, 16] [4, 5] hAt
                  ⟨ok_move rfl opd0,
                  ok_move rfl opd0,
                  ok_sub rfl opd0 opdI,
                  ok_index ty131 un43 hv5 rfl opd0 opd1,
                  ok_load ty131 rfl opd0,
                  ok_alloc ty131 rfl rfl,
                  ok_storeBox ty131 rfl rfl opd0, trivial⟩ (by kernel_rfl) ?_
              clear hAt
              intro a w hAt
              replace hAt : At B h0 (mkG [(0, fV (Rep.slice GRun.rep) x0), (14, fV (Rep.slice GRun.rep) x0), (15, fV r_i64 (List.length x0 : Int)), (16, fV r_i64 s1)]) (mkO [(4, boxE 131 GRun.rep v2), (5, boxE 131 GRun.rep v5)]) F 65 a w := hAt
              refine then_n ?_
              refine wp_block ?_
              refine wp_seq ?_
              refine reg [⟨fOff 4 0, [], [], [(4, none)]⟩,
                  ⟨fV r_i64 v2.Start, [], [(43, some 0)], [(4, none)]⟩,
                  ⟨fOff 5 0, [], [], [(5, none)]⟩,
                  ⟨fV r_i64 v5.Start, [], [(45, some 2)], [(5, none)]⟩,
                  ⟨fV Rep.bool (cmpI .leq v2.Start v5.Start), [], [(44, some 1), (46, some 3)], []⟩,
                  ⟨fV Rep.bool (cmpI .leq v2.Start v5.Start), [], [(47, some 4)], []⟩] [0, 14, 15, 16, 42] [4, 5] hAt
                  ⟨ok_fieldOwn fo131_0 rfl,
                  ok_loadOwn GRun.l0 ty3 rfl opd0,
                  ok_fieldOwn fo131_0 rfl,
                  ok_loadOwn GRun.l0 ty3 rfl opd0,
                  ok_cmp (op := .leq) (by simp) rfl rfl opd0 opd1,
                  ok_assign rfl opd0, trivial⟩ (by kernel_rfl) ?_
              clear hAt
              intro a w hAt
              replace hAt : At B h0 (mkG [(0, fV (Rep.slice GRun.rep) x0), (14, fV (Rep.slice GRun.rep) x0), (15, fV r_i64 (List.length x0 : Int)), (16, fV r_i64 s1), (42, fV Rep.bool (cmpI .leq v2.Start v5.Start))]) (mkO [(4, boxE 131 GRun.rep v2), (5, boxE 131 GRun.rep v5)]) F 65 a w := hAt
              refine then_n ?_
              refine wp_if hAt (by rfl) ?_ ?_
              · intro hb7
                have H := iteT hb7 H
                refine wp_seq ?_
                refine reg [⟨fV r_i64 10, [], [], []⟩] [2] [] hAt
                    ⟨ok_assign rfl opdI, trivial⟩ (by kernel_rfl) ?_
                clear hAt
                intro a w hAt
                replace hAt : At B h0 (mkG [(2, fV r_i64 10)]) (mkO []) F 65 a w := hAt
                refine then_n ?_
                refine wp_ret ?_
                refine blk_r ?_
                refine blk_r ?_
                refine then_r ?_
                cases H
                exact ⟨ret_ne, rfl, hAt.pick [2] []⟩
              · intro hb7
                have H := iteF hb7 H
                refine wp_seq ?_
                refine reg [⟨fOff 5 0, [], [], [(5, none)]⟩,
                    ⟨fV r_i64 v5.Start, [], [(49, some 0)], [(5, none)]⟩,
                    ⟨fOff 5 1, [], [], [(5, none)]⟩,
                    ⟨fV r_i64 v5.Seconds, [], [(51, some 2)], [(5, none)]⟩,
                    ⟨fV r_i64 (IntKind.i64.wrap (v5.Start + v5.Seconds)), [], [(50, some 1), (52, some 3)], []⟩,
                    ⟨fOff 4 0, [], [], [(4, none)]⟩,
                    ⟨fV r_i64 v2.Start, [], [(54, some 5)], [(4, none)]⟩,
                    ⟨fV Rep.bool (cmpI .gtr (IntKind.i64.wrap (v5.Start + v5.Seconds)) v2.Start), [], [(53, some 4), (55, some 6)], []⟩,
                    ⟨fV Rep.bool (cmpI .gtr (IntKind.i64.wrap (v5.Start + v5.Seconds)) v2.Start), [], [(56, some 7)], []⟩,
                    ⟨Fact.when ((!(cmpI .gtr (IntKind.i64.wrap (v5.Start + v5.Seconds)) v2.Start)) = true) (fOff 5 3), [], [(57, some 8)], [(5, none)]⟩,
                    ⟨Fact.when ((!(cmpI .gtr (IntKind.i64.wrap (v5.Start + v5.Seconds)) v2.Start)) = true) (fV Rep.bool v5.Back), [], [(57, some 8), (58, some 9)], [(5, none)]⟩,
                    ⟨Fact.when ((!(cmpI .gtr (IntKind.i64.wrap (v5.Start + v5.Seconds)) v2.Start)) = true) (fOff 4 3), [], [(57, some 8)], [(4, none)]⟩,
                    ⟨Fact.when ((!(cmpI .gtr (IntKind.i64.wrap (v5.Start + v5.Seconds)) v2.Start)) = true) (fV Rep.bool v2.Back), [], [(57, some 8), (60, some 11)], [(4, none)]⟩,
                    ⟨Fact.when ((!(cmpI .gtr (IntKind.i64.wrap (v5.Start + v5.Seconds)) v2.Start)) = true) (fV Rep.bool (v5.Back == v2.Back)), [], [(57, some 8), (59, some 10), (61, some 12)], []⟩,
                    ⟨fV Rep.bool ((cmpI .gtr (IntKind.i64.wrap (v5.Start + v5.Seconds)) v2.Start) || (v5.Back == v2.Back)), [], [(57, some 8), (62, some 13)], []⟩,
                    ⟨fV Rep.bool ((cmpI .gtr (IntKind.i64.wrap (v5.Start + v5.Seconds)) v2.Start) || (v5.Back == v2.Back)), [], [(63, some 14)], []⟩] [0, 14, 15, 16, 48] [] hAt
                    ⟨ok_fieldOwn fo131_0 rfl,
                    ok_loadOwn GRun.l0 ty3 rfl opd0,
                    ok_fieldOwn fo131_1 rfl,
                    ok_loadOwn GRun.l1 ty3 rfl opd0,
                    ok_add rfl opd0 opd1,
                    ok_fieldOwn fo131_0 rfl,
                    ok_loadOwn GRun.l0 ty3 rfl opd0,
                    ok_cmp (op := .gtr) (by simp) rfl rfl opd0 opd1,
                    ok_move rfl opd0,
                    obl_tf rfl rfl rfl rfl rfl rfl rfl (fun hg => ok_fieldOwn fo131_3 rfl),
                    obl_tf rfl rfl rfl rfl rfl rfl rfl (fun hg => ok_loadOwn GRun.l3 ty4 rfl (opd1.on hg)),
                    obl_tf rfl rfl rfl rfl rfl rfl rfl (fun hg => ok_fieldOwn fo131_3 rfl),
                    obl_tf rfl rfl rfl rfl rfl rfl rfl (fun hg => ok_loadOwn GRun.l3 ty4 rfl (opd1.on hg)),
                    obl_tf rfl rfl rfl rfl rfl rfl rfl (fun hg => ok_eqB un4 rfl (opd1.on hg) (opd2.on hg)),
                    ok_or rfl opd0 (fun e => (opd1.on (notT e))),
                    ok_assign rfl opd0, trivial⟩ (by kernel_rfl) ?_
                clear hAt
                intro a w hAt
                replace hAt : At B h0 (mkG [(0, fV (Rep.slice GRun.rep) x0), (14, fV (Rep.slice GRun.rep) x0), (15, fV r_i64 (List.length x0 : Int)), (16, fV r_i64 s1), (48, fV Rep.bool ((cmpI .gtr (IntKind.i64.wrap (v5.Start + v5.Seconds)) v2.Start) || (v5.Back == v2.Back)))]) (mkO []) F 65 a w := hAt
                refine then_n ?_
                refine wp_if hAt (by rfl) ?_ ?_
                · intro hb6
                  have H := iteT hb6 H
                  refine wp_seq ?_
                  refine reg [⟨fV r_i64 17, [], [], []⟩] [2] [] hAt
                      ⟨ok_assign rfl opdI, trivial⟩ (by kernel_rfl) ?_
                  clear hAt
                  intro a w hAt
                  replace hAt : At B h0 (mkG [(2, fV r_i64 17)]) (mkO []) F 65 a w := hAt
                  refine then_n ?_
                  refine wp_ret ?_
                  refine blk_r ?_
                  refine blk_r ?_
                  refine then_r ?_
                  cases H
                  exact ⟨ret_ne, rfl, hAt.pick [2] []⟩
                · intro hb6
                  have H := iteF hb6 H
                  refine wp_skip ?_
                  refine blk_n ?_
                  refine blk_n ?_
                  refine then_n ?_
                  refine reg [⟨fV r_i64 (IntKind.i64.wrap (s1 + 1)), [], [(16, none)], []⟩,
                      ⟨fV r_i64 (IntKind.i64.wrap (s1 + 1)), [], [(64, some 0)], []⟩] [0, 14, 15, 16] [] hAt
                      ⟨ok_add rfl opd0 opdI,
                      ok_move rfl opd0, trivial⟩ (by kernel_rfl) ?_
                  clear hAt
                  intro a w hAt
                  replace hAt : At B h0 (mkG [(0, fV (Rep.slice GRun.rep) x0), (14, fV (Rep.slice GRun.rep) x0), (15, fV r_i64 (List.length x0 : Int)), (16, fV r_i64 (IntKind.i64.wrap (s1 + 1)))]) (mkO []) F 65 a w := hAt
                  cases H
                  exact ⟨rfl, hAt.pick [0, 14, 15, 16] []⟩
        · intro hb10
          have H := iteF hb10 H
          refine wp_exit ?_
          refine then_x ?_
          cases H
          exact ⟨ex_ne, rfl, hAt.pick [] []⟩
      · exact hAt.pick [0, 14, 15, 16] []
      · clear hAt
        intro e a w hp
        cases o11 with
        | inl l13 =>
          rw [Sum.elim_inl] at H
          obtain ⟨rfl, hAt⟩ := hp
          refine blk_eq ?_
          refine then_n ?_
          refine wp_seq ?_
          refine reg [⟨fV r_i64 0, [], [], []⟩] [2] [] hAt
              ⟨ok_assign rfl opdI, trivial⟩ (by kernel_rfl) ?_
          clear hAt
          intro a w hAt
          replace hAt : At B h0 (mkG [(2, fV r_i64 0)]) (mkO []) F 65 a w := hAt
          refine then_n ?_
          refine wp_ret ?_
          cases H
          exact ret1 rfl (rv_tmp rfl rfl) hAt
        | inr r14 =>
          rw [Sum.elim_inr] at H
          replace hp := hp
          obtain ⟨rfl, hAt⟩ := hp
          refine blk_r ?_
          refine then_r ?_
          cases H
          exact ret1 rfl (rv_tmp rfl rfl) hAt
theorem ok_f_survey_ratio (N : Nat) (x0 : Int) (x1 : Int) (r : GRat) (H : f_survey_ratio N x0 x1 = some r) : FnOk Try.prog 64 [fV r_i64 x0, fV r_i64 x1] (fV GRat.rep r) := by
  unfold f_survey_ratio at H
  refine fn_enter Try.func64 rfl rfl (by kernel_rfl) ?_
  intro κ B h0 F a w hAt
  refine wp_seq ?_
  refine reg [⟨Fact.triv, [(4, some (boxE 49 GRat.rep (⟨(⟨false, []⟩ : GInt), (⟨false, []⟩ : GInt)⟩ : GRat)))], [], []⟩] [0, 1] [4] hAt
      ⟨ok_alloc ty49 rfl rfl, trivial⟩ (by kernel_rfl) ?_
  clear hAt
  intro a w hAt
  replace hAt : At B h0 (mkG [(0, fV r_i64 x0), (1, fV r_i64 x1)]) (mkO [(4, boxE 49 GRat.rep (⟨(⟨false, []⟩ : GInt), (⟨false, []⟩ : GInt)⟩ : GRat))]) F 14 a w := hAt
  refine then_n ?_
  refine wp_seq ?_
  obtain ⟨v1, hv1, H⟩ := bindE H
  refine reg [⟨fV r_i64 x0, [], [(0, none)], []⟩,
      ⟨fV r_i64 x1, [], [(1, none)], []⟩,
      ⟨fT2 (fV GRat.rep v1.1) (fV r_i64 v1.2), [], [(8, some 0), (9, some 1)], []⟩,
      ⟨fT2 (fV GRat.rep v1.1) (fV r_i64 v1.2), [], [(10, some 2)], []⟩,
      ⟨fV GRat.rep v1.1, [], [(7, some 3)], []⟩,
      ⟨fV r_i64 v1.2, [], [(7, some 3)], []⟩,
      ⟨Fact.triv, [(5, some (boxE 49 GRat.rep (⟨(⟨false, []⟩ : GInt), (⟨false, []⟩ : GInt)⟩ : GRat)))], [], []⟩,
      ⟨Fact.triv, [(5, some (boxE 49 GRat.rep v1.1))], [(11, some 4)], [(5, some 6)]⟩,
      ⟨fV r_i64 v1.2, [], [(12, some 5)], []⟩] [] [4, 5] hAt
      ⟨ok_move rfl opd0,
      ok_move rfl opd0,
      ok_call (ok_f_exact_Ratio N x0 x1 _ hv1) Try.func108 (by kernel_rfl) (by kernel_rfl) rfl ⟨opd0, ⟨opd1, trivial⟩⟩,
      ok_move rfl opd0,
      ok_ext20 rfl rfl opd0,
      ok_ext21 rfl rfl opd0,
      ok_alloc ty49 rfl rfl,
      ok_storeBox ty49 rfl rfl opd0,
      ok_assign rfl opd0, trivial⟩ (by kernel_rfl) ?_
  clear hAt
  intro a w hAt
  replace hAt : At B h0 (mkG []) (mkO [(4, boxE 49 GRat.rep (⟨(⟨false, []⟩ : GInt), (⟨false, []⟩ : GInt)⟩ : GRat)), (5, boxE 49 GRat.rep v1.1)]) F 14 a w := hAt
  refine then_n ?_
  refine wp_seq ?_
  refine reg [⟨fV GRat.rep v1.1, [], [], [(5, none)]⟩,
      ⟨Fact.triv, [(4, some (boxE 49 GRat.rep v1.1))], [(13, some 0)], [(4, none)]⟩] [] [4] hAt
      ⟨ok_loadBox ty49 rfl,
      ok_storeBox ty49 rfl rfl opd0, trivial⟩ (by kernel_rfl) ?_
  clear hAt
  intro a w hAt
  replace hAt : At B h0 (mkG []) (mkO [(4, boxE 49 GRat.rep v1.1)]) F 14 a w := hAt
  refine then_n ?_
  refine wp_ret ?_
  cases H
  exact ret1 rfl (rv_cell ty49 rfl) hAt
theorem ok_f_survey_Speeds (N : Nat) (x0 : (List GRun)) (r : (List GRat) × Int) (H : f_survey_Speeds N x0 = some r) : FnOk Try.prog 25 [fV (Rep.slice GRun.rep) x0] (fT2 (fV (Rep.slice GRat.rep) (r.1)) (fV r_i64 (r.2))) := by
  unfold f_survey_Speeds at H
  refine fn_enter Try.func25 rfl rfl (by kernel_rfl) ?_
  intro κ B h0 F a w hAt
  refine wp_seq ?_
  refine reg [⟨fV (Rep.slice GRat.rep) [], [(2, some (tipE 49 GRat.rep.sz))], [], []⟩,
      ⟨fV r_i64 0, [], [], []⟩] [0] [] hAt
      ⟨ok_nilTip rfl (.inl rfl),
      ok_assign rfl opdI, trivial⟩ (by kernel_rfl) ?_
  clear hAt
  intro a w hAt
  replace hAt : At B h0 (mkG [(0, fV (Rep.slice GRun.rep) x0)]) (mkO []) F 29 a w := hAt
  refine then_n ?_
  refine wp_seq ?_
  refine wp_seq ?_
  obtain ⟨v1, hv1, H⟩ := bindE H
  refine reg [⟨fV (Rep.slice GRun.rep) x0, [], [(0, none)], []⟩,
      ⟨fV r_i64 v1, [], [(8, some 0)], []⟩,
      ⟨fV r_i64 v1, [], [(9, some 1)], []⟩] [0, 4] [] hAt
      ⟨ok_move rfl opd0,
      ok_call (ok_f_survey_CheckTrial N x0 _ hv1) Try.func29 (by kernel_rfl) (by kernel_rfl) rfl ⟨opd0, trivial⟩,
      ok_assign rfl opd0, trivial⟩ (by kernel_rfl) ?_
  clear hAt
  intro a w hAt
  replace hAt : At B h0 (mkG [(0, fV (Rep.slice GRun.rep) x0), (4, fV r_i64 v1)]) (mkO []) F 29 a w := hAt
  refine then_n ?_
  refine wp_seq ?_
  refine reg [⟨fV r_i64 v1, [], [(4, none)], []⟩,
      ⟨fV Rep.bool (cmpI .neq v1 0), [], [(10, some 0)], []⟩] [0, 4, 11] [] hAt
      ⟨ok_move rfl opd0,
      ok_cmp (op := .neq) (by simp) rfl rfl opd0 opdI, trivial⟩ (by kernel_rfl) ?_
  clear hAt
  intro a w hAt
  replace hAt : At B h0 (mkG [(0, fV (Rep.slice GRun.rep) x0), (4, fV r_i64 v1), (11, fV Rep.bool (cmpI .neq v1 0))]) (mkO []) F 29 a w := hAt
  refine then_n ?_
  refine wp_if hAt (by rfl) ?_ ?_
  · intro hb10
    have H := iteT hb10 H
    refine wp_seq ?_
    refine reg [⟨fV r_i64 v1, [], [(4, none)], []⟩,
        ⟨fV (Rep.slice GRat.rep) [], [(2, some (tipE 49 GRat.rep.sz))], [], []⟩,
        ⟨fV r_i64 v1, [], [(12, some 0)], []⟩] [2, 3] [2] hAt
        ⟨ok_move rfl opd0,
        ok_nilTip rfl (.inl rfl),
        ok_assign rfl opd0, trivial⟩ (by kernel_rfl) ?_
    clear hAt
    intro a w hAt
    replace hAt : At B h0 (mkG [(2, fV (Rep.slice GRat.rep) []), (3, fV r_i64 v1)]) (mkO [(2, tipE 49 GRat.rep.sz)]) F 29 a w := hAt
    refine then_n ?_
    refine wp_ret ?_
    refine then_r ?_
    cases H
    exact ret2 rfl (rv_tmp rfl rfl) (rv_tmp rfl rfl) hAt
  · intro hb10
    have H := iteF hb10 H
    refine wp_skip ?_
    refine then_n ?_
    refine wp_seq ?_
    refine reg [⟨fV (Rep.slice GRat.rep) [], [(5, some (tipE 49 GRat.rep.sz))], [], []⟩] [0, 5] [5] hAt
        ⟨ok_nilTip rfl (.inl rfl), trivial⟩ (by kernel_rfl) ?_
    clear hAt
    intro a w hAt
    replace hAt : At B h0 (mkG [(0, fV (Rep.slice GRun.rep) x0), (5, fV (Rep.slice GRat.rep) [])]) (mkO [(5, tipE 49 GRat.rep.sz)]) F 29 a w := hAt
    refine then_n ?_
    refine wp_seq ?_
    refine wp_seq ?_
    refine reg [⟨fV (Rep.slice GRun.rep) x0, [], [(0, none)], []⟩,
        ⟨fV r_i64 (List.length x0 : Int), [], [(13, some 0)], []⟩,
        ⟨fV r_i64 0, [], [], []⟩] [5, 13, 14, 15] [5] hAt
        ⟨ok_move rfl opd0,
        ok_len un43 rfl opd0,
        ok_move rfl opdI, trivial⟩ (by kernel_rfl) ?_
    clear hAt
    intro a w hAt
    replace hAt : At B h0 (mkG [(5, fV (Rep.slice GRat.rep) []), (13, fV (Rep.slice GRun.rep) x0), (14, fV r_i64 (List.length x0 : Int)), (15, fV r_i64 0)]) (mkO [(5, tipE 49 GRat.rep.sz)]) F 29 a w := hAt
    refine then_n ?_
    refine wp_block ?_
    obtain ⟨o7, hl8, H⟩ := bindE H
    refine wp_mono (wp_loopN (f := f_survey_Speeds_L1 N x0) (fun (s2 : ((List GRat) × Int)) a w => At B h0 (mkG [(5, fV (Rep.slice GRat.rep) s2.1), (13, fV (Rep.slice GRun.rep) x0), (14, fV r_i64 (List.length x0 : Int)), (15, fV r_i64 s2.2)]) (mkO [(5, tipE 49 GRat.rep.sz)]) F 29 a w) (fun o e a w => (fun v => e = .exit 0 ∧ At B h0 (mkG [(5, fV (Rep.slice GRat.rep) v)]) (mkO [(5, tipE 49 GRat.rep.sz)]) F 29 a w) o) ?_ N ([], 0) o7 _ _ hl8 ?_) ?_
    · clear H hAt hl8
      intro s2 r9 a w H hAt
      unfold f_survey_Speeds_L1 at H
      refine wp_seq ?_
      refine reg [⟨fV Rep.bool (cmpI .lss s2.2 (List.length x0 : Int)), [], [(15, none), (14, none)], []⟩] [5, 13, 14, 15, 16] [5] hAt
          ⟨ok_cmp (op := .lss) (by simp) rfl rfl opd0 opd1, trivial⟩ (by kernel_rfl) ?_
      clear hAt
      intro a w hAt
      replace hAt : At B h0 (mkG [(5, fV (Rep.slice GRat.rep) s2.1), (13, fV (Rep.slice GRun.rep) x0), (14, fV r_i64 (List.length x0 : Int)), (15, fV r_i64 s2.2), (16, fV Rep.bool (cmpI .lss s2.2 (List.length x0 : Int)))]) (mkO [(5, tipE 49 GRat.rep.sz)]) F 29 a w := hAt
      refine then_n ?_
      refine wp_seq ?_
      refine wp_if hAt (by rfl) ?_ ?_
      · intro hb6
        have H := iteT hb6 H
        refine wp_skip ?_
        refine then_n ?_
        refine wp_seq ?_
        refine wp_block ?_
        refine wp_seq ?_
        obtain ⟨v3, hv3, H⟩ := bindE H
        refine reg [⟨fRef GRun.rep v3, [], [(13, none), (15, none)], []⟩,
            ⟨fV GRun.rep v3, [], [(17, some 0)], []⟩,
            ⟨Fact.triv, [(7, some (boxE 131 GRun.rep (⟨0, 0, 0, false⟩ : GRun)))], [], []⟩,
            ⟨Fact.triv, [(7, some (boxE 131 GRun.rep v3))], [(18, some 1)], [(7, some 2)]⟩] [5, 13, 14, 15] [5, 7] hAt
            ⟨ok_index ty131 un43 hv3 rfl opd0 opd1,
            ok_load ty131 rfl opd0,
            ok_alloc ty131 rfl rfl,
            ok_storeBox ty131 rfl rfl opd0, trivial⟩ (by kernel_rfl) ?_
        clear hAt
        intro a w hAt
        replace hAt : At B h0 (mkG [(5, fV (Rep.slice GRat.rep) s2.1), (13, fV (Rep.slice GRun.rep) x0), (14, fV r_i64 (List.length x0 : Int)), (15, fV r_i64 s2.2)]) (mkO [(5, tipE 49 GRat.rep.sz), (7, boxE 131 GRun.rep v3)]) F 29 a w := hAt
        refine then_n ?_
        obtain ⟨v4, hv4, H⟩ := bindE H
        obtain ⟨v5, hv5, H⟩ := bindE H
        refine reg [⟨fV (Rep.slice GRat.rep) s2.1, [(5, none), (19, some (tipE 49 GRat.rep.sz))], [(5, none)], [(5, none)]⟩,
            ⟨fOff 7 2, [], [], [(7, none)]⟩,
            ⟨fV r_i64 v3.Metres, [], [(20, some 1)], [(7, none)]⟩,
            ⟨fOff 7 1, [], [], [(7, none)]⟩,
            ⟨fV r_i64 v3.Seconds, [], [(22, some 3)], [(7, none)]⟩,
            ⟨fV GRat.rep v4, [], [(21, some 2), (23, some 4)], []⟩,
            ⟨fV (Rep.slice GRat.rep) [v4], [], [(24, some 5)], []⟩,
            ⟨fV (Rep.slice GRat.rep) v5, [(19, none), (26, some (tipE 49 GRat.rep.sz))], [(19, some 0), (25, some 6)], [(19, some 0)]⟩,
            ⟨fV (Rep.slice GRat.rep) v5, [(26, none), (5, some (tipE 49 GRat.rep.sz))], [(26, some 7)], [(26, some 7)]⟩] [5, 13, 14, 15] [5] hAt
            ⟨ok_moveOwn rfl rfl (.inl rfl) opd0,
            ok_fieldOwn fo131_2 rfl,
            ok_loadOwn GRun.l2 ty3 rfl opd0,
            ok_fieldOwn fo131_1 rfl,
            ok_loadOwn GRun.l1 ty3 rfl opd0,
            ok_call (ok_f_survey_ratio N v3.Metres v3.Seconds _ hv4) Try.func64 (by kernel_rfl) (by kernel_rfl) rfl ⟨opd0, ⟨opd1, trivial⟩⟩,
            ok_buildSlice ty49 un29 rfl rfl (fillC (Lens.arr _ _ 0 (by decide)) rfl opd0 fillN),
            ok_append hv5 el49 un29 rfl rfl rfl opd0 opd1,
            ok_moveOwn rfl rfl (.inr rfl) opd0, trivial⟩ (by kernel_rfl) ?_
        clear hAt
        intro a w hAt
        replace hAt : At B h0 (mkG [(5, fV (Rep.slice GRat.rep) v5), (13, fV (Rep.slice GRun.rep) x0), (14, fV r_i64 (List.length x0 : Int)), (15, fV r_i64 s2.2)]) (mkO [(5, tipE 49 GRat.rep.sz)]) F 29 a w := hAt
        refine blk_n ?_
        refine then_n ?_
        refine reg [⟨fV r_i64 (IntKind.i64.wrap (s2.2 + 1)), [], [(15, none)], []⟩,
            ⟨fV r_i64 (IntKind.i64.wrap (s2.2 + 1)), [], [(27, some 0)], []⟩] [5, 13, 14, 15] [5] hAt
            ⟨ok_add rfl opd0 opdI,
            ok_move rfl opd0, trivial⟩ (by kernel_rfl) ?_
        clear hAt
        intro a w hAt
        replace hAt : At B h0 (mkG [(5, fV (Rep.slice GRat.rep) v5), (13, fV (Rep.slice GRun.rep) x0), (14, fV r_i64 (List.length x0 : Int)), (15, fV r_i64 (IntKind.i64.wrap (s2.2 + 1)))]) (mkO [(5, tipE 49 GRat.rep.sz)]) F 29 a w := hAt
        cases H
        exact ⟨rfl, hAt.pick [5, 13, 14, 15] [5]⟩
      · intro hb6
        have H := iteF hb6 H
        refine wp_exit ?_
        refine then_x ?_
        cases H
        exact ⟨ex_ne, rfl, hAt.pick [5] [5]⟩
    · exact hAt.pick [5, 13, 14, 15] [5]
    · clear hAt
      intro e a w hp
      obtain ⟨rfl, hAt⟩ := hp
      refine blk_eq ?_
      refine then_n ?_
      refine wp_seq ?_
      refine reg [⟨fV (Rep.slice GRat.rep) o7, [], [(5, none)], []⟩,
          ⟨fV (Rep.slice GRat.rep) o7, [], [(28, some 0)], []⟩,
          ⟨fV r_i64 0, [], [], []⟩] [2, 3] [] hAt
          ⟨ok_move rfl opd0,
          ok_assign rfl opd0,
          ok_assign rfl opdI, trivial⟩ (by kernel_rfl) ?_
      clear hAt
      intro a w hAt
      replace hAt : At B h0 (mkG [(2, fV (Rep.slice GRat.rep) o7), (3, fV r_i64 0)]) (mkO []) F 29 a w := hAt
      refine then_n ?_
      refine wp_ret ?_
      cases H
      exact ret2 rfl (rv_tmp rfl rfl) (rv_tmp rfl rfl) hAt
theorem okO_f_survey_Speeds (N : Nat) (x0 : (List GRun)) (r : (List GRat) × Int) (H : f_survey_Speeds N x0 = some r) : FnOkO Try.prog 25 [fV (Rep.slice GRun.rep) x0] (tupE (arrE 49 GRat.rep r.1)) (fT2 Fact.triv (fV r_i64 (r.2))) := by
  unfold f_survey_Speeds at H
  refine fn_enterO Try.func25 rfl rfl (by kernel_rfl) ?_
  intro κ B h0 F a w hAt
  refine wp_seq ?_
  refine reg [⟨Fact.triv, [(2, some (arrE 49 GRat.rep []))], [], []⟩,
      ⟨fV r_i64 0, [], [], []⟩] [0] [] hAt
      ⟨ok_nilArr rfl (.inl rfl),
      ok_assign rfl opdI, trivial⟩ (by kernel_rfl) ?_
  clear hAt
  intro a w hAt
  replace hAt : At B h0 (mkG [(0, fV (Rep.slice GRun.rep) x0)]) (mkO []) F 29 a w := hAt
  refine then_n ?_
  refine wp_seq ?_
  refine wp_seq ?_
  obtain ⟨v1, hv1, H⟩ := bindE H
  refine reg [⟨fV (Rep.slice GRun.rep) x0, [], [(0, none)], []⟩,
      ⟨fV r_i64 v1, [], [(8, some 0)], []⟩,
      ⟨fV r_i64 v1, [], [(9, some 1)], []⟩] [0, 4] [] hAt
      ⟨ok_move rfl opd0,
      ok_call (ok_f_survey_CheckTrial N x0 _ hv1) Try.func29 (by kernel_rfl) (by kernel_rfl) rfl ⟨opd0, trivial⟩,
      ok_assign rfl opd0, trivial⟩ (by kernel_rfl) ?_
  clear hAt
  intro a w hAt
  replace hAt : At B h0 (mkG [(0, fV (Rep.slice GRun.rep) x0), (4, fV r_i64 v1)]) (mkO []) F 29 a w := hAt
  refine then_n ?_
  refine wp_seq ?_
  refine reg [⟨fV r_i64 v1, [], [(4, none)], []⟩,
      ⟨fV Rep.bool (cmpI .neq v1 0), [], [(10, some 0)], []⟩] [0, 4, 11] [] hAt
      ⟨ok_move rfl opd0,
      ok_cmp (op := .neq) (by simp) rfl rfl opd0 opdI, trivial⟩ (by kernel_rfl) ?_
  clear hAt
  intro a w hAt
  replace hAt : At B h0 (mkG [(0, fV (Rep.slice GRun.rep) x0), (4, fV r_i64 v1), (11, fV Rep.bool (cmpI .neq v1 0))]) (mkO []) F 29 a w := hAt
  refine then_n ?_
  refine wp_if hAt (by rfl) ?_ ?_
  · intro hb10
    have H := iteT hb10 H
    refine wp_seq ?_
    refine reg [⟨fV r_i64 v1, [], [(4, none)], []⟩,
        ⟨Fact.triv, [(2, some (arrE 49 GRat.rep []))], [], []⟩,
        ⟨fV r_i64 v1, [], [(12, some 0)], []⟩] [3] [2] hAt
        ⟨ok_move rfl opd0,
        ok_nilArr rfl (.inl rfl),
        ok_assign rfl opd0, trivial⟩ (by kernel_rfl) ?_
    clear hAt
    intro a w hAt
    replace hAt : At B h0 (mkG [(3, fV r_i64 v1)]) (mkO [(2, arrE 49 GRat.rep [])]) F 29 a w := hAt
    refine then_n ?_
    refine wp_ret ?_
    refine then_r ?_
    cases H
    exact ret2O rfl rfl (rv_tmp rfl rfl) hAt
  · intro hb10
    have H := iteF hb10 H
    refine wp_skip ?_
    refine then_n ?_
    refine wp_seq ?_
    refine reg [⟨Fact.triv, [(5, some (arrE 49 GRat.rep []))], [], []⟩] [0] [5] hAt
        ⟨ok_nilArr rfl (.inl rfl), trivial⟩ (by kernel_rfl) ?_
    clear hAt
    intro a w hAt
    replace hAt : At B h0 (mkG [(0, fV (Rep.slice GRun.rep) x0)]) (mkO [(5, arrE 49 GRat.rep [])]) F 29 a w := hAt
    refine then_n ?_
    refine wp_seq ?_
    refine wp_seq ?_
    refine reg [⟨fV (Rep.slice GRun.rep) x0, [], [(0, none)], []⟩,
        ⟨fV r_i64 (List.length x0 : Int), [], [(13, some 0)], []⟩,
        ⟨fV r_i64 0, [], [], []⟩] [13, 14, 15] [5] hAt
        ⟨ok_move rfl opd0,
        ok_len un43 rfl opd0,
        ok_move rfl opdI, trivial⟩ (by kernel_rfl) ?_
    clear hAt
    intro a w hAt
    replace hAt : At B h0 (mkG [(13, fV (Rep.slice GRun.rep) x0), (14, fV r_i64 (List.length x0 : Int)), (15, fV r_i64 0)]) (mkO [(5, arrE 49 GRat.rep [])]) F 29 a w := hAt
    refine then_n ?_
    refine wp_block ?_
    obtain ⟨o7, hl8, H⟩ := bindE H
    refine wp_mono (wp_loopN (f := f_survey_Speeds_L1 N x0) (fun (s2 : ((List GRat) × Int)) a w => At B h0 (mkG [(13, fV (Rep.slice GRun.rep) x0), (14, fV r_i64 (List.length x0 : Int)), (15, fV r_i64 s2.2)]) (mkO [(5, arrE 49 GRat.rep s2.1)]) F 29 a w) (fun o e a w => (fun v => e = .exit 0 ∧ At B h0 (mkG []) (mkO [(5, arrE 49 GRat.rep v)]) F 29 a w) o) ?_ N ([], 0) o7 _ _ hl8 ?_) ?_
    · clear H hAt hl8
      intro s2 r9 a w H hAt
      unfold f_survey_Speeds_L1 at H
      refine wp_seq ?_
      refine reg [⟨fV Rep.bool (cmpI .lss s2.2 (List.length x0 : Int)), [], [(15, none), (14, none)], []⟩] [13, 14, 15, 16] [5] hAt
          ⟨ok_cmp (op := .lss) (by simp) rfl rfl opd0 opd1, trivial⟩ (by kernel_rfl) ?_
      clear hAt
      intro a w hAt
      replace hAt : At B h0 (mkG [(13, fV (Rep.slice GRun.rep) x0), (14, fV r_i64 (List.length x0 : Int)), (15, fV r_i64 s2.2), (16, fV Rep.bool (cmpI .lss s2.2 (List.length x0 : Int)))]) (mkO [(5, arrE 49 GRat.rep s2.1)]) F 29 a w := hAt
      refine then_n ?_
      refine wp_seq ?_
      refine wp_if hAt (by rfl) ?_ ?_
      · intro hb6
        have H := iteT hb6 H
        refine wp_skip ?_
        refine then_n ?_
        refine wp_seq ?_
        refine wp_block ?_
        refine wp_seq ?_
        obtain ⟨v3, hv3, H⟩ := bindE H
        refine reg [⟨fRef GRun.rep v3, [], [(13, none), (15, none)], []⟩,
            ⟨fV GRun.rep v3, [], [(17, some 0)], []⟩,
            ⟨Fact.triv, [(7, some (boxE 131 GRun.rep (⟨0, 0, 0, false⟩ : GRun)))], [], []⟩,
            ⟨Fact.triv, [(7, some (boxE 131 GRun.rep v3))], [(18, some 1)], [(7, some 2)]⟩] [13, 14, 15] [5, 7] hAt
            ⟨ok_index ty131 un43 hv3 rfl opd0 opd1,
            ok_load ty131 rfl opd0,
            ok_alloc ty131 rfl rfl,
            ok_storeBox ty131 rfl rfl opd0, trivial⟩ (by kernel_rfl) ?_
        clear hAt
        intro a w hAt
        replace hAt : At B h0 (mkG [(13, fV (Rep.slice GRun.rep) x0), (14, fV r_i64 (List.length x0 : Int)), (15, fV r_i64 s2.2)]) (mkO [(5, arrE 49 GRat.rep s2.1), (7, boxE 131 GRun.rep v3)]) F 29 a w := hAt
        refine then_n ?_
        obtain ⟨v4, hv4, H⟩ := bindE H
        obtain ⟨v5, hv5, H⟩ := bindE H
        refine reg [⟨fCp 5, [], [], []⟩,
            ⟨fOff 7 2, [], [], [(7, none)]⟩,
            ⟨fV r_i64 v3.Metres, [], [(20, some 1)], [(7, none)]⟩,
            ⟨fOff 7 1, [], [], [(7, none)]⟩,
            ⟨fV r_i64 v3.Seconds, [], [(22, some 3)], [(7, none)]⟩,
            ⟨fV GRat.rep v4, [], [(21, some 2), (23, some 4)], []⟩,
            ⟨fV (Rep.slice GRat.rep) [v4], [], [(24, some 5)], []⟩,
            ⟨Fact.triv, [(5, none), (26, some (arrE 49 GRat.rep v5))], [(19, some 0), (25, some 6)], [(5, none)]⟩,
            ⟨Fact.triv, [(26, none), (5, some (arrE 49 GRat.rep v5))], [], [(26, some 7)]⟩] [13, 14, 15] [5] hAt
            ⟨ok_cp rfl,
            ok_fieldOwn fo131_2 rfl,
            ok_loadOwn GRun.l2 ty3 rfl opd0,
            ok_fieldOwn fo131_1 rfl,
            ok_loadOwn GRun.l1 ty3 rfl opd0,
            ok_call (ok_f_survey_ratio N v3.Metres v3.Seconds _ hv4) Try.func64 (by kernel_rfl) (by kernel_rfl) rfl ⟨opd0, ⟨opd1, trivial⟩⟩,
            ok_buildSlice ty49 un29 rfl rfl (fillC (Lens.arr _ _ 0 (by decide)) rfl opd0 fillN),
            ok_appendArr hv5 el49 un29 rfl rfl rfl opd0 opd1,
            (ok_moveOwn (f := Fact.triv) rfl rfl (.inr rfl) (fun _ _ _ => trivial)), trivial⟩ (by kernel_rfl) ?_
        clear hAt
        intro a w hAt
        replace hAt : At B h0 (mkG [(13, fV (Rep.slice GRun.rep) x0), (14, fV r_i64 (List.length x0 : Int)), (15, fV r_i64 s2.2)]) (mkO [(5, arrE 49 GRat.rep v5)]) F 29 a w := hAt
        refine blk_n ?_
        refine then_n ?_
        refine reg [⟨fV r_i64 (IntKind.i64.wrap (s2.2 + 1)), [], [(15, none)], []⟩,
            ⟨fV r_i64 (IntKind.i64.wrap (s2.2 + 1)), [], [(27, some 0)], []⟩] [13, 14, 15] [5] hAt
            ⟨ok_add rfl opd0 opdI,
            ok_move rfl opd0, trivial⟩ (by kernel_rfl) ?_
        clear hAt
        intro a w hAt
        replace hAt : At B h0 (mkG [(13, fV (Rep.slice GRun.rep) x0), (14, fV r_i64 (List.length x0 : Int)), (15, fV r_i64 (IntKind.i64.wrap (s2.2 + 1)))]) (mkO [(5, arrE 49 GRat.rep v5)]) F 29 a w := hAt
        cases H
        exact ⟨rfl, hAt.pick [13, 14, 15] [5]⟩
      · intro hb6
        have H := iteF hb6 H
        refine wp_exit ?_
        refine then_x ?_
        cases H
        exact ⟨ex_ne, rfl, hAt.pick [] [5]⟩
    · exact hAt.pick [13, 14, 15] [5]
    · clear hAt
      intro e a w hp
      obtain ⟨rfl, hAt⟩ := hp
      refine blk_eq ?_
      refine then_n ?_
      refine wp_seq ?_
      refine reg [⟨fCp 5, [], [], []⟩,
          ⟨Fact.triv, [(5, none), (2, some (arrE 49 GRat.rep o7))], [(28, some 0)], [(5, none)]⟩,
          ⟨fV r_i64 0, [], [], []⟩] [3] [2] hAt
          ⟨ok_cp rfl,
          ok_takeCp rfl rfl (.inr rfl) opd0,
          ok_assign rfl opdI, trivial⟩ (by kernel_rfl) ?_
      clear hAt
      intro a w hAt
      replace hAt : At B h0 (mkG [(3, fV r_i64 0)]) (mkO [(2, arrE 49 GRat.rep o7)]) F 29 a w := hAt
      refine then_n ?_
      refine wp_ret ?_
      cases H
      exact ret2O rfl rfl (rv_tmp rfl rfl) hAt
end Go.KB
