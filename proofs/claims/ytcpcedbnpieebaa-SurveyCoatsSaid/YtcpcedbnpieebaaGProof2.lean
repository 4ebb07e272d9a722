/- The Go functions compute what the plain functions compute. Printed by a program. No condition. -/
import Derived.Test.YtcpcedbnpieebaaGProof1
namespace Go.KB
open Go.Proofs
set_option maxRecDepth 100000
set_option linter.unusedVariables false
theorem ok_f_exact_Add (N : Nat) (x0 : GInt) (x1 : GInt) (r : GInt) (H : f_exact_Add N x0 x1 = some r) : FnOk Try.prog 117 [fV GInt.rep x0, fV GInt.rep x1] (fV GInt.rep r) := by
  unfold f_exact_Add at H
  refine fn_enter Try.func117 rfl rfl (by kernel_rfl) ?_
  intro κ B h0 F a w hAt
  refine wp_seq ?_
  refine reg [⟨fRef GInt.rep x0, [], [(0, none)], []⟩,
      ⟨fRef GInt.rep x1, [], [(1, none)], []⟩,
      ⟨Fact.triv, [(4, some (boxE 47 GInt.rep (⟨false, []⟩ : GInt)))], [], []⟩] [2, 3] [4] hAt
      ⟨ok_box rfl opd0,
      ok_box rfl opd0,
      ok_alloc ty47 rfl rfl, trivial⟩ (by kernel_rfl) ?_
  clear hAt
  intro a w hAt
  replace hAt : At B h0 (mkG [(2, fRef GInt.rep x0), (3, fRef GInt.rep x1)]) (mkO [(4, boxE 47 GInt.rep (⟨false, []⟩ : GInt))]) F 40 a w := hAt
  refine then_n ?_
  refine wp_seq ?_
  obtain ⟨v1, hv1, H⟩ := bindE H
  obtain ⟨v2, hv2, H⟩ := bindE H
  refine regd [⟨fRef (Rep.slice r_u16) x0.Limbs, [], [(2, none)], []⟩,
      ⟨fV (Rep.slice r_u16) x0.Limbs, [], [(7, some 0)], []⟩,
      ⟨fV (Rep.slice r_u16) v1, [], [(8, some 1)], []⟩,
      ⟨fRef (Rep.slice r_u16) x1.Limbs, [], [(3, none)], []⟩,
      ⟨fV (Rep.slice r_u16) x1.Limbs, [], [(10, some 3)], []⟩,
      ⟨fV (Rep.slice r_u16) v2, [], [(11, some 4)], []⟩,
      ⟨fV (Rep.slice r_u16) v1, [], [(9, some 2)], []⟩,
      ⟨fV (Rep.slice r_u16) v2, [], [(12, some 5)], []⟩] [0, 1, 2, 3, 4, 5, 6, 7] [0, 1, 2, 3, 4, 5, 6, 7] [2, 3, 5, 6] [4] hAt
      ⟨ok_field GInt.l1 fo47_1 rfl opd0,
      ok_load ty45 rfl opd0,
      ok_call (ok_f_exact_trim N x0.Limbs _ hv1) Try.func143 (by kernel_rfl) (by kernel_rfl) rfl ⟨opd0, trivial⟩,
      ok_field GInt.l1 fo47_1 rfl opd0,
      ok_load ty45 rfl opd0,
      ok_call (ok_f_exact_trim N x1.Limbs _ hv2) Try.func143 (by kernel_rfl) (by kernel_rfl) rfl ⟨opd0, trivial⟩,
      ok_assign rfl opd0,
      ok_assign rfl opd0, trivial⟩ (by kernel_rfl) ?_
  clear hAt
  intro a w hAt
  replace hAt : At B h0 (mkG [(2, fRef GInt.rep x0), (3, fRef GInt.rep x1), (5, fV (Rep.slice r_u16) v1), (6, fV (Rep.slice r_u16) v2)]) (mkO [(4, boxE 47 GInt.rep (⟨false, []⟩ : GInt))]) F 40 a w := hAt
  refine then_n ?_
  refine wp_seq ?_
  refine wp_seq ?_
  refine reg [⟨fRef Rep.bool x0.Neg, [], [(2, none)], []⟩,
      ⟨fV Rep.bool x0.Neg, [], [(13, some 0)], []⟩,
      ⟨fRef Rep.bool x1.Neg, [], [(3, none)], []⟩,
      ⟨fV Rep.bool x1.Neg, [], [(15, some 2)], []⟩,
      ⟨fV Rep.bool (x0.Neg == x1.Neg), [], [(14, some 1), (16, some 3)], []⟩] [2, 3, 5, 6, 17] [4] hAt
      ⟨ok_field GInt.l0 fo47_0 rfl opd0,
      ok_load ty4 rfl opd0,
      ok_field GInt.l0 fo47_0 rfl opd0,
      ok_load ty4 rfl opd0,
      ok_eqB un4 rfl opd0 opd1, trivial⟩ (by kernel_rfl) ?_
  clear hAt
  intro a w hAt
  replace hAt : At B h0 (mkG [(2, fRef GInt.rep x0), (3, fRef GInt.rep x1), (5, fV (Rep.slice r_u16) v1), (6, fV (Rep.slice r_u16) v2), (17, fV Rep.bool (x0.Neg == x1.Neg))]) (mkO [(4, boxE 47 GInt.rep (⟨false, []⟩ : GInt))]) F 40 a w := hAt
  refine then_n ?_
  refine wp_if hAt (by rfl) ?_ ?_
  · intro hb11
    have H := iteT hb11 H
    refine wp_seq ?_
    obtain ⟨v3, hv3, H⟩ := bindE H
    obtain ⟨v4, hv4, H⟩ := bindE H
    refine regd [⟨fRef Rep.bool x0.Neg, [], [(2, none)], []⟩,
        ⟨fV Rep.bool x0.Neg, [], [(18, some 0)], []⟩,
        ⟨fV (Rep.slice r_u16) v1, [], [(5, none)], []⟩,
        ⟨fV (Rep.slice r_u16) v2, [], [(6, none)], []⟩,
        ⟨fV (Rep.slice r_u16) v3, [], [(20, some 2), (21, some 3)], []⟩,
        ⟨fV GInt.rep v4, [], [(19, some 1), (22, some 4)], []⟩,
        ⟨Fact.triv, [(4, some (boxE 47 GInt.rep v4))], [(23, some 5)], [(4, none)]⟩] [0, 1, 2, 3, 4, 5, 6] [0, 1, 2, 3, 4, 5, 6] [] [4] hAt
        ⟨ok_field GInt.l0 fo47_0 rfl opd0,
        ok_load ty4 rfl opd0,
        ok_move rfl opd0,
        ok_move rfl opd0,
        ok_call (ok_f_exact_plus N v1 v2 _ hv3) Try.func149 (by kernel_rfl) (by kernel_rfl) rfl ⟨opd0, ⟨opd1, trivial⟩⟩,
        ok_call (ok_f_exact_signed N x0.Neg v3 _ hv4) Try.func146 (by kernel_rfl) (by kernel_rfl) rfl ⟨opd0, ⟨opd1, trivial⟩⟩,
        ok_storeBox ty47 rfl rfl opd0, trivial⟩ (by kernel_rfl) ?_
    clear hAt
    intro a w hAt
    replace hAt : At B h0 (mkG []) (mkO [(4, boxE 47 GInt.rep v4)]) F 40 a w := hAt
    refine then_n ?_
    refine wp_ret ?_
    refine then_r ?_
    cases H
    exact ret1 rfl (rv_cell ty47 rfl) hAt
  · intro hb11
    have H := iteF hb11 H
    refine wp_skip ?_
    refine then_n ?_
    refine wp_seq ?_
    refine wp_seq ?_
    obtain ⟨v5, hv5, H⟩ := bindE H
    refine reg [⟨fV (Rep.slice r_u16) v1, [], [(5, none)], []⟩,
        ⟨fV (Rep.slice r_u16) v2, [], [(6, none)], []⟩,
        ⟨fV r_i64 v5, [], [(24, some 0), (25, some 1)], []⟩,
        ⟨fV Rep.bool (cmpI .geq v5 0), [], [(26, some 2)], []⟩] [2, 3, 5, 6, 27] [4] hAt
        ⟨ok_move rfl opd0,
        ok_move rfl opd0,
        ok_call (ok_f_exact_compare N v1 v2 _ hv5) Try.func150 (by kernel_rfl) (by kernel_rfl) rfl ⟨opd0, ⟨opd1, trivial⟩⟩,
        ok_cmp (op := .geq) (by simp) rfl rfl opd0 opdI, trivial⟩ (by kernel_rfl) ?_
    clear hAt
    intro a w hAt
    replace hAt : At B h0 (mkG [(2, fRef GInt.rep x0), (3, fRef GInt.rep x1), (5, fV (Rep.slice r_u16) v1), (6, fV (Rep.slice r_u16) v2), (27, fV Rep.bool (cmpI .geq v5 0))]) (mkO [(4, boxE 47 GInt.rep (⟨false, []⟩ : GInt))]) F 40 a w := hAt
    refine then_n ?_
    refine wp_if hAt (by rfl) ?_ ?_
    · intro hb10
      have H := iteT hb10 H
      refine wp_seq ?_
      obtain ⟨v6, hv6, H⟩ := bindE H
      obtain ⟨v7, hv7, H⟩ := bindE H
      refine regd [⟨fRef Rep.bool x0.Neg, [], [(2, none)], []⟩,
          ⟨fV Rep.bool x0.Neg, [], [(28, some 0)], []⟩,
          ⟨fV (Rep.slice r_u16) v1, [], [(5, none)], []⟩,
          ⟨fV (Rep.slice r_u16) v2, [], [(6, none)], []⟩,
          ⟨fV (Rep.slice r_u16) v6, [], [(30, some 2), (31, some 3)], []⟩,
          ⟨fV GInt.rep v7, [], [(29, some 1), (32, some 4)], []⟩,
          ⟨Fact.triv, [(4, some (boxE 47 GInt.rep v7))], [(33, some 5)], [(4, none)]⟩] [0, 1, 2, 3, 4, 5, 6] [0, 1, 2, 3, 4, 5, 6] [] [4] hAt
          ⟨ok_field GInt.l0 fo47_0 rfl opd0,
          ok_load ty4 rfl opd0,
          ok_move rfl opd0,
          ok_move rfl opd0,
          ok_call (ok_f_exact_minus N v1 v2 _ hv6) Try.func151 (by kernel_rfl) (by kernel_rfl) rfl ⟨opd0, ⟨opd1, trivial⟩⟩,
          ok_call (ok_f_exact_signed N x0.Neg v6 _ hv7) Try.func146 (by kernel_rfl) (by kernel_rfl) rfl ⟨opd0, ⟨opd1, trivial⟩⟩,
          ok_storeBox ty47 rfl rfl opd0, trivial⟩ (by kernel_rfl) ?_
      clear hAt
      intro a w hAt
      replace hAt : At B h0 (mkG []) (mkO [(4, boxE 47 GInt.rep v7)]) F 40 a w := hAt
      refine then_n ?_
      refine wp_ret ?_
      refine then_r ?_
      cases H
      exact ret1 rfl (rv_cell ty47 rfl) hAt
    · intro hb10
      have H := iteF hb10 H
      refine wp_skip ?_
      refine then_n ?_
      refine wp_seq ?_
      obtain ⟨v8, hv8, H⟩ := bindE H
      obtain ⟨v9, hv9, H⟩ := bindE H
      refine regd [⟨fRef Rep.bool x1.Neg, [], [(3, none)], []⟩,
          ⟨fV Rep.bool x1.Neg, [], [(34, some 0)], []⟩,
          ⟨fV (Rep.slice r_u16) v2, [], [(6, none)], []⟩,
          ⟨fV (Rep.slice r_u16) v1, [], [(5, none)], []⟩,
          ⟨fV (Rep.slice r_u16) v8, [], [(36, some 2), (37, some 3)], []⟩,
          ⟨fV GInt.rep v9, [], [(35, some 1), (38, some 4)], []⟩,
          ⟨Fact.triv, [(4, some (boxE 47 GInt.rep v9))], [(39, some 5)], [(4, none)]⟩] [0, 1, 2, 3, 4, 5, 6] [0, 1, 2, 3, 4, 5, 6] [] [4] hAt
          ⟨ok_field GInt.l0 fo47_0 rfl opd0,
          ok_load ty4 rfl opd0,
          ok_move rfl opd0,
          ok_move rfl opd0,
          ok_call (ok_f_exact_minus N v2 v1 _ hv8) Try.func151 (by kernel_rfl) (by kernel_rfl) rfl ⟨opd0, ⟨opd1, trivial⟩⟩,
          ok_call (ok_f_exact_signed N x1.Neg v8 _ hv9) Try.func146 (by kernel_rfl) (by kernel_rfl) rfl ⟨opd0, ⟨opd1, trivial⟩⟩,
          ok_storeBox ty47 rfl rfl opd0, trivial⟩ (by kernel_rfl) ?_
      clear hAt
      intro a w hAt
      replace hAt : At B h0 (mkG []) (mkO [(4, boxE 47 GInt.rep v9)]) F 40 a w := hAt
      refine then_n ?_
      refine wp_ret ?_
      cases H
      exact ret1 rfl (rv_cell ty47 rfl) hAt
theorem ok_f_exact_AddRat (N : Nat) (x0 : GRat) (x1 : GRat) (r : GRat) (H : f_exact_AddRat N x0 x1 = some r) : FnOk Try.prog 74 [fV GRat.rep x0, fV GRat.rep x1] (fV GRat.rep r) := by
  unfold f_exact_AddRat at H
  refine fn_enter Try.func74 rfl rfl (by kernel_rfl) ?_
  intro κ B h0 F a w hAt
  refine wp_seq ?_
  refine reg [⟨fRef GRat.rep x0, [], [(0, none)], []⟩,
      ⟨fRef GRat.rep x1, [], [(1, none)], []⟩,
      ⟨Fact.triv, [(4, some (boxE 49 GRat.rep (⟨(⟨false, []⟩ : GInt), (⟨false, []⟩ : GInt)⟩ : GRat)))], [], []⟩] [2, 3] [4] hAt
      ⟨ok_box rfl opd0,
      ok_box rfl opd0,
      ok_alloc ty49 rfl rfl, trivial⟩ (by kernel_rfl) ?_
  clear hAt
  intro a w hAt
  replace hAt : At B h0 (mkG [(2, fRef GRat.rep x0), (3, fRef GRat.rep x1)]) (mkO [(4, boxE 49 GRat.rep (⟨(⟨false, []⟩ : GInt), (⟨false, []⟩ : GInt)⟩ : GRat))]) F 32 a w := hAt
  refine then_n ?_
  refine wp_seq ?_
  refine wp_seq ?_
  obtain ⟨v1, hv1, H⟩ := bindE H
  refine reg [⟨fV GRat.rep x0, [], [(2, none)], []⟩,
      ⟨fV Rep.bool v1, [], [(7, some 0)], []⟩] [2, 3, 8] [4] hAt
      ⟨ok_load ty49 rfl opd0,
      ok_call (ok_f_exact_isZero N x0 _ hv1) Try.func115 (by kernel_rfl) (by kernel_rfl) rfl ⟨opd0, trivial⟩, trivial⟩ (by kernel_rfl) ?_
  clear hAt
  intro a w hAt
  replace hAt : At B h0 (mkG [(2, fRef GRat.rep x0), (3, fRef GRat.rep x1), (8, fV Rep.bool v1)]) (mkO [(4, boxE 49 GRat.rep (⟨(⟨false, []⟩ : GInt), (⟨false, []⟩ : GInt)⟩ : GRat))]) F 32 a w := hAt
  refine then_n ?_
  refine wp_if hAt (by rfl) ?_ ?_
  · intro hb13
    have H := iteT hb13 H
    refine wp_seq ?_
    obtain ⟨v2, hv2, H⟩ := bindE H
    refine reg [⟨fV GRat.rep x1, [], [(3, none)], []⟩,
        ⟨fV GRat.rep v2, [], [(9, some 0)], []⟩,
        ⟨Fact.triv, [(4, some (boxE 49 GRat.rep v2))], [(10, some 1)], [(4, none)]⟩] [] [4] hAt
        ⟨ok_load ty49 rfl opd0,
        ok_call (ok_f_exact_lowest N x1 _ hv2) Try.func116 (by kernel_rfl) (by kernel_rfl) rfl ⟨opd0, trivial⟩,
        ok_storeBox ty49 rfl rfl opd0, trivial⟩ (by kernel_rfl) ?_
    clear hAt
    intro a w hAt
    replace hAt : At B h0 (mkG []) (mkO [(4, boxE 49 GRat.rep v2)]) F 32 a w := hAt
    refine then_n ?_
    refine wp_ret ?_
    refine then_r ?_
    cases H
    exact ret1 rfl (rv_cell ty49 rfl) hAt
  · intro hb13
    have H := iteF hb13 H
    refine wp_skip ?_
    refine then_n ?_
    refine wp_seq ?_
    refine wp_seq ?_
    obtain ⟨v3, hv3, H⟩ := bindE H
    refine reg [⟨fV GRat.rep x1, [], [(3, none)], []⟩,
        ⟨fV Rep.bool v3, [], [(11, some 0)], []⟩] [2, 3, 12] [4] hAt
        ⟨ok_load ty49 rfl opd0,
        ok_call (ok_f_exact_isZero N x1 _ hv3) Try.func115 (by kernel_rfl) (by kernel_rfl) rfl ⟨opd0, trivial⟩, trivial⟩ (by kernel_rfl) ?_
    clear hAt
    intro a w hAt
    replace hAt : At B h0 (mkG [(2, fRef GRat.rep x0), (3, fRef GRat.rep x1), (12, fV Rep.bool v3)]) (mkO [(4, boxE 49 GRat.rep (⟨(⟨false, []⟩ : GInt), (⟨false, []⟩ : GInt)⟩ : GRat))]) F 32 a w := hAt
    refine then_n ?_
    refine wp_if hAt (by rfl) ?_ ?_
    · intro hb12
      have H := iteT hb12 H
      refine wp_seq ?_
      obtain ⟨v4, hv4, H⟩ := bindE H
      refine reg [⟨fV GRat.rep x0, [], [(2, none)], []⟩,
          ⟨fV GRat.rep v4, [], [(13, some 0)], []⟩,
          ⟨Fact.triv, [(4, some (boxE 49 GRat.rep v4))], [(14, some 1)], [(4, none)]⟩] [] [4] hAt
          ⟨ok_load ty49 rfl opd0,
          ok_call (ok_f_exact_lowest N x0 _ hv4) Try.func116 (by kernel_rfl) (by kernel_rfl) rfl ⟨opd0, trivial⟩,
          ok_storeBox ty49 rfl rfl opd0, trivial⟩ (by kernel_rfl) ?_
      clear hAt
      intro a w hAt
      replace hAt : At B h0 (mkG []) (mkO [(4, boxE 49 GRat.rep v4)]) F 32 a w := hAt
      refine then_n ?_
      refine wp_ret ?_
      refine then_r ?_
      cases H
      exact ret1 rfl (rv_cell ty49 rfl) hAt
    · intro hb12
      have H := iteF hb12 H
      refine wp_skip ?_
      refine then_n ?_
      refine wp_seq ?_
      obtain ⟨v5, hv5, H⟩ := bindE H
      obtain ⟨v6, hv6, H⟩ := bindE H
      refine regd [⟨fV GRat.rep x0, [], [(2, none)], []⟩,
          ⟨fV GInt.rep v5, [], [(15, some 0)], []⟩,
          ⟨fV GRat.rep x1, [], [(3, none)], []⟩,
          ⟨fV GInt.rep v6, [], [(17, some 2)], []⟩,
          ⟨Fact.triv, [(5, some (boxE 47 GInt.rep (⟨false, []⟩ : GInt)))], [], []⟩,
          ⟨Fact.triv, [(6, some (boxE 47 GInt.rep (⟨false, []⟩ : GInt)))], [], []⟩,
          ⟨Fact.triv, [(5, some (boxE 47 GInt.rep v5))], [(16, some 1)], [(5, some 4)]⟩,
          ⟨Fact.triv, [(6, some (boxE 47 GInt.rep v6))], [(18, some 3)], [(6, some 5)]⟩] [0, 1, 2, 3, 4, 5, 6, 7] [0, 1, 2, 3, 4, 5, 6, 7] [2, 3] [4, 5, 6] hAt
          ⟨ok_load ty49 rfl opd0,
          ok_call (ok_f_exact_below N x0 _ hv5) Try.func114 (by kernel_rfl) (by kernel_rfl) rfl ⟨opd0, trivial⟩,
          ok_load ty49 rfl opd0,
          ok_call (ok_f_exact_below N x1 _ hv6) Try.func114 (by kernel_rfl) (by kernel_rfl) rfl ⟨opd0, trivial⟩,
          ok_alloc ty47 rfl rfl,
          ok_alloc ty47 rfl rfl,
          ok_storeBox ty47 rfl rfl opd0,
          ok_storeBox ty47 rfl rfl opd0, trivial⟩ (by kernel_rfl) ?_
      clear hAt
      intro a w hAt
      replace hAt : At B h0 (mkG [(2, fRef GRat.rep x0), (3, fRef GRat.rep x1)]) (mkO [(4, boxE 49 GRat.rep (⟨(⟨false, []⟩ : GInt), (⟨false, []⟩ : GInt)⟩ : GRat)), (5, boxE 47 GInt.rep v5), (6, boxE 47 GInt.rep v6)]) F 32 a w := hAt
      refine then_n ?_
      refine wp_seq ?_
      obtain ⟨v7, hv7, H⟩ := bindE H
      obtain ⟨v8, hv8, H⟩ := bindE H
      obtain ⟨v9, hv9, H⟩ := bindE H
      obtain ⟨v10, hv10, H⟩ := bindE H
      obtain ⟨v11, hv11, H⟩ := bindE H
      refine regd [⟨fRef GInt.rep x0.Num, [], [(2, none)], []⟩,
          ⟨fV GInt.rep x0.Num, [], [(19, some 0)], []⟩,
          ⟨fV GInt.rep v6, [], [], [(6, none)]⟩,
          ⟨fV GInt.rep v7, [], [(20, some 1), (21, some 2)], []⟩,
          ⟨fRef GInt.rep x1.Num, [], [(3, none)], []⟩,
          ⟨fV GInt.rep x1.Num, [], [(23, some 4)], []⟩,
          ⟨fV GInt.rep v5, [], [], [(5, none)]⟩,
          ⟨fV GInt.rep v8, [], [(24, some 5), (25, some 6)], []⟩,
          ⟨fV GInt.rep v9, [], [(22, some 3), (26, some 7)], []⟩,
          ⟨fV GInt.rep v5, [], [], [(5, none)]⟩,
          ⟨fV GInt.rep v6, [], [], [(6, none)]⟩,
          ⟨fV GInt.rep v10, [], [(28, some 9), (29, some 10)], []⟩,
          ⟨fV GRat.rep v11, [], [(27, some 8), (30, some 11)], []⟩,
          ⟨Fact.triv, [(4, some (boxE 49 GRat.rep v11))], [(31, some 12)], [(4, none)]⟩] [0, 1, 2, 3, 4, 5, 6, 7, 8, 9, 10, 11, 12, 13] [0, 1, 2, 3, 4, 5, 6, 7, 8, 9, 10, 11, 12, 13] [] [4] hAt
          ⟨ok_field GRat.l0 fo49_0 rfl opd0,
          ok_load ty47 rfl opd0,
          ok_loadBox ty47 rfl,
          ok_call (ok_f_exact_Mul N x0.Num v6 _ hv7) Try.func113 (by kernel_rfl) (by kernel_rfl) rfl ⟨opd0, ⟨opd1, trivial⟩⟩,
          ok_field GRat.l0 fo49_0 rfl opd0,
          ok_load ty47 rfl opd0,
          ok_loadBox ty47 rfl,
          ok_call (ok_f_exact_Mul N x1.Num v5 _ hv8) Try.func113 (by kernel_rfl) (by kernel_rfl) rfl ⟨opd0, ⟨opd1, trivial⟩⟩,
          ok_call (ok_f_exact_Add N v7 v8 _ hv9) Try.func117 (by kernel_rfl) (by kernel_rfl) rfl ⟨opd0, ⟨opd1, trivial⟩⟩,
          ok_loadBox ty47 rfl,
          ok_loadBox ty47 rfl,
          ok_call (ok_f_exact_Mul N v5 v6 _ hv10) Try.func113 (by kernel_rfl) (by kernel_rfl) rfl ⟨opd0, ⟨opd1, trivial⟩⟩,
          ok_call (ok_f_exact_fraction N v9 v10 _ hv11) Try.func112 (by kernel_rfl) (by kernel_rfl) rfl ⟨opd0, ⟨opd1, trivial⟩⟩,
          ok_storeBox ty49 rfl rfl opd0, trivial⟩ (by kernel_rfl) ?_
      clear hAt
      intro a w hAt
      replace hAt : At B h0 (mkG []) (mkO [(4, boxE 49 GRat.rep v11)]) F 32 a w := hAt
      refine then_n ?_
      refine wp_ret ?_
      cases H
      exact ret1 rfl (rv_cell ty49 rfl) hAt
theorem ok_f_exact_SubRat (N : Nat) (x0 : GRat) (x1 : GRat) (r : GRat) (H : f_exact_SubRat N x0 x1 = some r) : FnOk Try.prog 75 [fV GRat.rep x0, fV GRat.rep x1] (fV GRat.rep r) := by
  unfold f_exact_SubRat at H
  refine fn_enter Try.func75 rfl rfl (by kernel_rfl) ?_
  intro κ B h0 F a w hAt
  refine wp_seq ?_
  refine reg [⟨fRef GRat.rep x0, [], [(0, none)], []⟩,
      ⟨fRef GRat.rep x1, [], [(1, none)], []⟩,
      ⟨Fact.triv, [(4, some (boxE 49 GRat.rep (⟨(⟨false, []⟩ : GInt), (⟨false, []⟩ : GInt)⟩ : GRat)))], [], []⟩] [2, 3] [4] hAt
      ⟨ok_box rfl opd0,
      ok_box rfl opd0,
      ok_alloc ty49 rfl rfl, trivial⟩ (by kernel_rfl) ?_
  clear hAt
  intro a w hAt
  replace hAt : At B h0 (mkG [(2, fRef GRat.rep x0), (3, fRef GRat.rep x1)]) (mkO [(4, boxE 49 GRat.rep (⟨(⟨false, []⟩ : GInt), (⟨false, []⟩ : GInt)⟩ : GRat))]) F 9 a w := hAt
  refine then_n ?_
  refine wp_seq ?_
  obtain ⟨v1, hv1, H⟩ := bindE H
  obtain ⟨v2, hv2, H⟩ := bindE H
  refine regd [⟨fV GRat.rep x0, [], [(2, none)], []⟩,
      ⟨fV GRat.rep x1, [], [(3, none)], []⟩,
      ⟨fV GRat.rep v1, [], [(6, some 1)], []⟩,
      ⟨fV GRat.rep v2, [], [(5, some 0), (7, some 2)], []⟩,
      ⟨Fact.triv, [(4, some (boxE 49 GRat.rep v2))], [(8, some 3)], [(4, none)]⟩] [0, 1, 2, 3, 4] [0, 1, 2, 3, 4] [] [4] hAt
      ⟨ok_load ty49 rfl opd0,
      ok_load ty49 rfl opd0,
      ok_call (ok_f_exact_negative N x1 _ hv1) Try.func118 (by kernel_rfl) (by kernel_rfl) rfl ⟨opd0, trivial⟩,
      ok_call (ok_f_exact_AddRat N x0 v1 _ hv2) Try.func74 (by kernel_rfl) (by kernel_rfl) rfl ⟨opd0, ⟨opd1, trivial⟩⟩,
      ok_storeBox ty49 rfl rfl opd0, trivial⟩ (by kernel_rfl) ?_
  clear hAt
  intro a w hAt
  replace hAt : At B h0 (mkG []) (mkO [(4, boxE 49 GRat.rep v2)]) F 9 a w := hAt
  refine then_n ?_
  refine wp_ret ?_
  cases H
  exact ret1 rfl (rv_cell ty49 rfl) hAt
theorem ok_f_exact_signOf (N : Nat) (x0 : GRat) (r : Int) (H : f_exact_signOf N x0 = some r) : FnOk Try.prog 125 [fV GRat.rep x0] (fV r_i64 r) := by
  unfold f_exact_signOf at H
  refine fn_enter Try.func125 rfl rfl (by kernel_rfl) ?_
  intro κ B h0 F a w hAt
  refine wp_seq ?_
  refine reg [⟨fRef GRat.rep x0, [], [(0, none)], []⟩,
      ⟨fV r_i64 0, [], [], []⟩] [1] [] hAt
      ⟨ok_box rfl opd0,
      ok_assign rfl opdI, trivial⟩ (by kernel_rfl) ?_
  clear hAt
  intro a w hAt
  replace hAt : At B h0 (mkG [(1, fRef GRat.rep x0)]) (mkO []) F 10 a w := hAt
  refine then_n ?_
  refine wp_seq ?_
  obtain ⟨v1, hv1, H⟩ := bindE H
  obtain ⟨v2, hv2, H⟩ := bindE H
  obtain ⟨v3, hv3, H⟩ := bindE H
  refine regd [⟨fRef GInt.rep x0.Num, [], [(1, none)], []⟩,
      ⟨fV GInt.rep x0.Num, [], [(3, some 0)], []⟩,
      ⟨fV r_i64 v1, [], [(4, some 1)], []⟩,
      ⟨fV GRat.rep x0, [], [(1, none)], []⟩,
      ⟨fV GInt.rep v2, [], [(6, some 3)], []⟩,
      ⟨fV r_i64 v3, [], [(7, some 4)], []⟩,
      ⟨fV r_i64 (IntKind.i64.wrap (v1 * v3)), [], [(5, some 2), (8, some 5)], []⟩,
      ⟨fV r_i64 (IntKind.i64.wrap (v1 * v3)), [], [(9, some 6)], []⟩] [0, 1, 2, 3, 4, 5, 6, 7] [0, 1, 2, 3, 4, 5, 6, 7] [2] [] hAt
      ⟨ok_field GRat.l0 fo49_0 rfl opd0,
      ok_load ty47 rfl opd0,
      ok_call (ok_f_exact_sign N x0.Num _ hv1) Try.func148 (by kernel_rfl) (by kernel_rfl) rfl ⟨opd0, trivial⟩,
      ok_load ty49 rfl opd0,
      ok_call (ok_f_exact_below N x0 _ hv2) Try.func114 (by kernel_rfl) (by kernel_rfl) rfl ⟨opd0, trivial⟩,
      ok_call (ok_f_exact_sign N v2 _ hv3) Try.func148 (by kernel_rfl) (by kernel_rfl) rfl ⟨opd0, trivial⟩,
      ok_mul rfl opd0 opd1,
      ok_assign rfl opd0, trivial⟩ (by kernel_rfl) ?_
  clear hAt
  intro a w hAt
  replace hAt : At B h0 (mkG [(2, fV r_i64 (IntKind.i64.wrap (v1 * v3)))]) (mkO []) F 10 a w := hAt
  refine then_n ?_
  refine wp_ret ?_
  cases H
  exact ret1 rfl (rv_tmp rfl rfl) hAt
theorem ok_f_exact_CmpRat (N : Nat) (x0 : GRat) (x1 : GRat) (r : Int) (H : f_exact_CmpRat N x0 x1 = some r) : FnOk Try.prog 81 [fV GRat.rep x0, fV GRat.rep x1] (fV r_i64 r) := by
  unfold f_exact_CmpRat at H
  refine fn_enter Try.func81 rfl rfl (by kernel_rfl) ?_
  intro κ B h0 F a w hAt
  refine wp_seq ?_
  refine reg [⟨fRef GRat.rep x0, [], [(0, none)], []⟩,
      ⟨fRef GRat.rep x1, [], [(1, none)], []⟩,
      ⟨fV r_i64 0, [], [], []⟩] [2, 3] [] hAt
      ⟨ok_box rfl opd0,
      ok_box rfl opd0,
      ok_assign rfl opdI, trivial⟩ (by kernel_rfl) ?_
  clear hAt
  intro a w hAt
  replace hAt : At B h0 (mkG [(2, fRef GRat.rep x0), (3, fRef GRat.rep x1)]) (mkO []) F 9 a w := hAt
  refine then_n ?_
  refine wp_seq ?_
  obtain ⟨v1, hv1, H⟩ := bindE H
  obtain ⟨v2, hv2, H⟩ := bindE H
  refine reg [⟨fV GRat.rep x0, [], [(2, none)], []⟩,
      ⟨fV GRat.rep x1, [], [(3, none)], []⟩,
      ⟨fV GRat.rep v1, [], [(5, some 0), (6, some 1)], []⟩,
      ⟨fV r_i64 v2, [], [(7, some 2)], []⟩,
      ⟨fV r_i64 v2, [], [(8, some 3)], []⟩] [4] [] hAt
      ⟨ok_load ty49 rfl opd0,
      ok_load ty49 rfl opd0,
      ok_call (ok_f_exact_SubRat N x0 x1 _ hv1) Try.func75 (by kernel_rfl) (by kernel_rfl) rfl ⟨opd0, ⟨opd1, trivial⟩⟩,
      ok_call (ok_f_exact_signOf N v1 _ hv2) Try.func125 (by kernel_rfl) (by kernel_rfl) rfl ⟨opd0, trivial⟩,
      ok_assign rfl opd0, trivial⟩ (by kernel_rfl) ?_
  clear hAt
  intro a w hAt
  replace hAt : At B h0 (mkG [(4, fV r_i64 v2)]) (mkO []) F 9 a w := hAt
  refine then_n ?_
  refine wp_ret ?_
  cases H
  exact ret1 rfl (rv_tmp rfl rfl) hAt
theorem ok_f_exact_MulRat (N : Nat) (x0 : GRat) (x1 : GRat) (r : GRat) (H : f_exact_MulRat N x0 x1 = some r) : FnOk Try.prog 73 [fV GRat.rep x0, fV GRat.rep x1] (fV GRat.rep r) := by
  unfold f_exact_MulRat at H
  refine fn_enter Try.func73 rfl rfl (by kernel_rfl) ?_
  intro κ B h0 F a w hAt
  refine wp_seq ?_
  refine reg [⟨fRef GRat.rep x0, [], [(0, none)], []⟩,
      ⟨fRef GRat.rep x1, [], [(1, none)], []⟩,
      ⟨Fact.triv, [(4, some (boxE 49 GRat.rep (⟨(⟨false, []⟩ : GInt), (⟨false, []⟩ : GInt)⟩ : GRat)))], [], []⟩] [2, 3] [4] hAt
      ⟨ok_box rfl opd0,
      ok_box rfl opd0,
      ok_alloc ty49 rfl rfl, trivial⟩ (by kernel_rfl) ?_
  clear hAt
  intro a w hAt
  replace hAt : At B h0 (mkG [(2, fRef GRat.rep x0), (3, fRef GRat.rep x1)]) (mkO [(4, boxE 49 GRat.rep (⟨(⟨false, []⟩ : GInt), (⟨false, []⟩ : GInt)⟩ : GRat))]) F 16 a w := hAt
  refine then_n ?_
  refine wp_seq ?_
  obtain ⟨v1, hv1, H⟩ := bindE H
  obtain ⟨v2, hv2, H⟩ := bindE H
  obtain ⟨v3, hv3, H⟩ := bindE H
  obtain ⟨v4, hv4, H⟩ := bindE H
  obtain ⟨v5, hv5, H⟩ := bindE H
  refine regd [⟨fRef GInt.rep x0.Num, [], [(2, none)], []⟩,
      ⟨fV GInt.rep x0.Num, [], [(5, some 0)], []⟩,
      ⟨fRef GInt.rep x1.Num, [], [(3, none)], []⟩,
      ⟨fV GInt.rep x1.Num, [], [(7, some 2)], []⟩,
      ⟨fV GInt.rep v1, [], [(6, some 1), (8, some 3)], []⟩,
      ⟨fV GRat.rep x0, [], [(2, none)], []⟩,
      ⟨fV GInt.rep v2, [], [(10, some 5)], []⟩,
      ⟨fV GRat.rep x1, [], [(3, none)], []⟩,
      ⟨fV GInt.rep v3, [], [(12, some 7)], []⟩,
      ⟨fV GInt.rep v4, [], [(11, some 6), (13, some 8)], []⟩,
      ⟨fV GRat.rep v5, [], [(9, some 4), (14, some 9)], []⟩,
      ⟨Fact.triv, [(4, some (boxE 49 GRat.rep v5))], [(15, some 10)], [(4, none)]⟩] [0, 1, 2, 3, 4, 5, 6, 7, 8, 9, 10, 11] [0, 1, 2, 3, 4, 5, 6, 7, 8, 9, 10, 11] [] [4] hAt
      ⟨ok_field GRat.l0 fo49_0 rfl opd0,
      ok_load ty47 rfl opd0,
      ok_field GRat.l0 fo49_0 rfl opd0,
      ok_load ty47 rfl opd0,
      ok_call (ok_f_exact_Mul N x0.Num x1.Num _ hv1) Try.func113 (by kernel_rfl) (by kernel_rfl) rfl ⟨opd0, ⟨opd1, trivial⟩⟩,
      ok_load ty49 rfl opd0,
      ok_call (ok_f_exact_below N x0 _ hv2) Try.func114 (by kernel_rfl) (by kernel_rfl) rfl ⟨opd0, trivial⟩,
      ok_load ty49 rfl opd0,
      ok_call (ok_f_exact_below N x1 _ hv3) Try.func114 (by kernel_rfl) (by kernel_rfl) rfl ⟨opd0, trivial⟩,
      ok_call (ok_f_exact_Mul N v2 v3 _ hv4) Try.func113 (by kernel_rfl) (by kernel_rfl) rfl ⟨opd0, ⟨opd1, trivial⟩⟩,
      ok_call (ok_f_exact_fraction N v1 v4 _ hv5) Try.func112 (by kernel_rfl) (by kernel_rfl) rfl ⟨opd0, ⟨opd1, trivial⟩⟩,
      ok_storeBox ty49 rfl rfl opd0, trivial⟩ (by kernel_rfl) ?_
  clear hAt
  intro a w hAt
  replace hAt : At B h0 (mkG []) (mkO [(4, boxE 49 GRat.rep v5)]) F 16 a w := hAt
  refine then_n ?_
  refine wp_ret ?_
  cases H
  exact ret1 rfl (rv_cell ty49 rfl) hAt
theorem ok_f_exact_Of (N : Nat) (x0 : Int) (r : GInt) (H : f_exact_Of N x0 = some r) : FnOk Try.prog 141 [fV r_i64 x0] (fV GInt.rep r) := by
  unfold f_exact_Of at H
  refine fn_enter Try.func141 rfl rfl (by kernel_rfl) ?_
  intro κ B h0 F a w hAt
  refine wp_seq ?_
  refine reg [⟨Fact.triv, [(2, some (boxE 47 GInt.rep (⟨false, []⟩ : GInt)))], [], []⟩] [0] [2] hAt
      ⟨ok_alloc ty47 rfl rfl, trivial⟩ (by kernel_rfl) ?_
  clear hAt
  intro a w hAt
  replace hAt : At B h0 (mkG [(0, fV r_i64 x0)]) (mkO [(2, boxE 47 GInt.rep (⟨false, []⟩ : GInt))]) F 14 a w := hAt
  refine then_n ?_
  refine wp_seq ?_
  refine wp_seq ?_
  refine reg [⟨fV r_i64 x0, [], [(0, none)], []⟩,
      ⟨fV Rep.bool (cmpI .lss x0 0), [], [(3, some 0)], []⟩] [0, 4] [2] hAt
      ⟨ok_move rfl opd0,
      ok_cmp (op := .lss) (by simp) rfl rfl opd0 opdI, trivial⟩ (by kernel_rfl) ?_
  clear hAt
  intro a w hAt
  replace hAt : At B h0 (mkG [(0, fV r_i64 x0), (4, fV Rep.bool (cmpI .lss x0 0))]) (mkO [(2, boxE 47 GInt.rep (⟨false, []⟩ : GInt))]) F 14 a w := hAt
  refine then_n ?_
  refine wp_if hAt (by rfl) ?_ ?_
  · intro hb5
    have H := iteT hb5 H
    refine wp_seq ?_
    obtain ⟨v1, hv1, H⟩ := bindE H
    obtain ⟨v2, hv2, H⟩ := bindE H
    refine reg [⟨fV r_i64 x0, [], [(0, none)], []⟩,
        ⟨fV r_u64 (IntKind.u64.wrap x0), [], [(5, some 0)], []⟩,
        ⟨fV r_u64 (IntKind.u64.wrap (0 - (IntKind.u64.wrap x0))), [], [(6, some 1)], []⟩,
        ⟨fV (Rep.slice r_u16) v1, [], [(7, some 2)], []⟩,
        ⟨fV GInt.rep v2, [], [(8, some 3)], []⟩,
        ⟨Fact.triv, [(2, some (boxE 47 GInt.rep v2))], [(9, some 4)], [(2, none)]⟩] [] [2] hAt
        ⟨ok_move rfl opd0,
        ok_conv un3 un186 rfl opd0,
        ok_neg rfl opd0,
        ok_call (ok_f_exact_natural N (IntKind.u64.wrap (0 - (IntKind.u64.wrap x0))) _ hv1) Try.func168 (by kernel_rfl) (by kernel_rfl) rfl ⟨opd0, trivial⟩,
        ok_call (ok_f_exact_signed N true v1 _ hv2) Try.func146 (by kernel_rfl) (by kernel_rfl) rfl ⟨opdB, ⟨opd0, trivial⟩⟩,
        ok_storeBox ty47 rfl rfl opd0, trivial⟩ (by kernel_rfl) ?_
    clear hAt
    intro a w hAt
    replace hAt : At B h0 (mkG []) (mkO [(2, boxE 47 GInt.rep v2)]) F 14 a w := hAt
    refine then_n ?_
    refine wp_ret ?_
    refine then_r ?_
    cases H
    exact ret1 rfl (rv_cell ty47 rfl) hAt
  · intro hb5
    have H := iteF hb5 H
    refine wp_skip ?_
    refine then_n ?_
    refine wp_seq ?_
    obtain ⟨v3, hv3, H⟩ := bindE H
    obtain ⟨v4, hv4, H⟩ := bindE H
    refine reg [⟨fV r_i64 x0, [], [(0, none)], []⟩,
        ⟨fV r_u64 (IntKind.u64.wrap x0), [], [(10, some 0)], []⟩,
        ⟨fV (Rep.slice r_u16) v3, [], [(11, some 1)], []⟩,
        ⟨fV GInt.rep v4, [], [(12, some 2)], []⟩,
        ⟨Fact.triv, [(2, some (boxE 47 GInt.rep v4))], [(13, some 3)], [(2, none)]⟩] [] [2] hAt
        ⟨ok_move rfl opd0,
        ok_conv un3 un186 rfl opd0,
        ok_call (ok_f_exact_natural N (IntKind.u64.wrap x0) _ hv3) Try.func168 (by kernel_rfl) (by kernel_rfl) rfl ⟨opd0, trivial⟩,
        ok_call (ok_f_exact_signed N false v3 _ hv4) Try.func146 (by kernel_rfl) (by kernel_rfl) rfl ⟨opdB, ⟨opd0, trivial⟩⟩,
        ok_storeBox ty47 rfl rfl opd0, trivial⟩ (by kernel_rfl) ?_
    clear hAt
    intro a w hAt
    replace hAt : At B h0 (mkG []) (mkO [(2, boxE 47 GInt.rep v4)]) F 14 a w := hAt
    refine then_n ?_
    refine wp_ret ?_
    cases H
    exact ret1 rfl (rv_cell ty47 rfl) hAt
theorem ok_f_exact_Ratio (N : Nat) (x0 : Int) (x1 : Int) (r : GRat × Int) (H : f_exact_Ratio N x0 x1 = some r) : FnOk Try.prog 108 [fV r_i64 x0, fV r_i64 x1] (fT2 (fV GRat.rep (r.1)) (fV r_i64 (r.2))) := by
  unfold f_exact_Ratio at H
  refine fn_enter Try.func108 rfl rfl (by kernel_rfl) ?_
  intro κ B h0 F a w hAt
  refine wp_seq ?_
  refine reg [⟨Fact.triv, [(4, some (boxE 49 GRat.rep (⟨(⟨false, []⟩ : GInt), (⟨false, []⟩ : GInt)⟩ : GRat)))], [], []⟩,
      ⟨fV r_i64 0, [], [], []⟩] [0, 1] [4] hAt
      ⟨ok_alloc ty49 rfl rfl,
      ok_assign rfl opdI, trivial⟩ (by kernel_rfl) ?_
  clear hAt
  intro a w hAt
  replace hAt : At B h0 (mkG [(0, fV r_i64 x0), (1, fV r_i64 x1)]) (mkO [(4, boxE 49 GRat.rep (⟨(⟨false, []⟩ : GInt), (⟨false, []⟩ : GInt)⟩ : GRat))]) F 14 a w := hAt
  refine then_n ?_
  refine wp_seq ?_
  refine wp_seq ?_
  refine reg [⟨fV r_i64 x1, [], [(1, none)], []⟩,
      ⟨fV Rep.bool (cmpI .eql x1 0), [], [(6, some 0)], []⟩] [0, 1, 7] [4] hAt
      ⟨ok_move rfl opd0,
      ok_cmp (op := .eql) (by simp) rfl rfl opd0 opdI, trivial⟩ (by kernel_rfl) ?_
  clear hAt
  intro a w hAt
  replace hAt : At B h0 (mkG [(0, fV r_i64 x0), (1, fV r_i64 x1), (7, fV Rep.bool (cmpI .eql x1 0))]) (mkO [(4, boxE 49 GRat.rep (⟨(⟨false, []⟩ : GInt), (⟨false, []⟩ : GInt)⟩ : GRat))]) F 14 a w := hAt
  refine then_n ?_
  refine wp_if hAt (by rfl) ?_ ?_
  · intro hb4
    have H := iteT hb4 H
    refine wp_seq ?_
    refine reg [⟨fV GRat.rep (⟨(⟨false, []⟩ : GInt), (⟨false, []⟩ : GInt)⟩ : GRat), [], [], []⟩,
        ⟨Fact.triv, [(4, some (boxE 49 GRat.rep (⟨(⟨false, []⟩ : GInt), (⟨false, []⟩ : GInt)⟩ : GRat)))], [(8, some 0)], [(4, none)]⟩,
        ⟨fV r_i64 9, [], [], []⟩] [5] [4] hAt
        ⟨ok_build ty49 rfl pl49 rfl fillN,
        ok_storeBox ty49 rfl rfl opd0,
        ok_assign rfl opdI, trivial⟩ (by kernel_rfl) ?_
    clear hAt
    intro a w hAt
    replace hAt : At B h0 (mkG [(5, fV r_i64 9)]) (mkO [(4, boxE 49 GRat.rep (⟨(⟨false, []⟩ : GInt), (⟨false, []⟩ : GInt)⟩ : GRat))]) F 14 a w := hAt
    refine then_n ?_
    refine wp_ret ?_
    refine then_r ?_
    cases H
    exact ret2 rfl (rv_cell ty49 rfl) (rv_tmp rfl rfl) hAt
  · intro hb4
    have H := iteF hb4 H
    refine wp_skip ?_
    refine then_n ?_
    refine wp_seq ?_
    obtain ⟨v1, hv1, H⟩ := bindE H
    obtain ⟨v2, hv2, H⟩ := bindE H
    obtain ⟨v3, hv3, H⟩ := bindE H
    refine reg [⟨fV r_i64 x0, [], [(0, none)], []⟩,
        ⟨fV GInt.rep v1, [], [(9, some 0)], []⟩,
        ⟨fV r_i64 x1, [], [(1, none)], []⟩,
        ⟨fV GInt.rep v2, [], [(11, some 2)], []⟩,
        ⟨fV GRat.rep v3, [], [(10, some 1), (12, some 3)], []⟩,
        ⟨Fact.triv, [(4, some (boxE 49 GRat.rep v3))], [(13, some 4)], [(4, none)]⟩,
        ⟨fV r_i64 0, [], [], []⟩] [5] [4] hAt
        ⟨ok_move rfl opd0,
        ok_call (ok_f_exact_Of N x0 _ hv1) Try.func141 (by kernel_rfl) (by kernel_rfl) rfl ⟨opd0, trivial⟩,
        ok_move rfl opd0,
        ok_call (ok_f_exact_Of N x1 _ hv2) Try.func141 (by kernel_rfl) (by kernel_rfl) rfl ⟨opd0, trivial⟩,
        ok_call (ok_f_exact_fraction N v1 v2 _ hv3) Try.func112 (by kernel_rfl) (by kernel_rfl) rfl ⟨opd0, ⟨opd1, trivial⟩⟩,
        ok_storeBox ty49 rfl rfl opd0,
        ok_assign rfl opdI, trivial⟩ (by kernel_rfl) ?_
    clear hAt
    intro a w hAt
    replace hAt : At B h0 (mkG [(5, fV r_i64 0)]) (mkO [(4, boxE 49 GRat.rep v3)]) F 14 a w := hAt
    refine then_n ?_
    refine wp_ret ?_
    cases H
    exact ret2 rfl (rv_cell ty49 rfl) (rv_tmp rfl rfl) hAt
theorem ok_f_ref01_trim (N : Nat) (x0 : (List Int)) (r : (List Int)) (H : f_ref01_trim N x0 = some r) : FnOk Try.prog 175 [fV (Rep.slice r_i64) x0] (fV (Rep.slice r_i64) r) := by
  unfold f_ref01_trim at H
  refine fn_enter Try.func175 rfl rfl (by kernel_rfl) ?_
  intro κ B h0 F a w hAt
  refine wp_seq ?_
  refine reg [⟨fV (Rep.slice r_i64) [], [(2, some (tipE 3 r_i64.sz))], [], []⟩] [0] [] hAt
      ⟨ok_nilTip rfl (.inl rfl), trivial⟩ (by kernel_rfl) ?_
  clear hAt
  intro a w hAt
  replace hAt : At B h0 (mkG [(0, fV (Rep.slice r_i64) x0)]) (mkO []) F 23 a w := hAt
  refine then_n ?_
  refine wp_seq ?_
  refine reg [⟨fV (Rep.slice r_i64) x0, [], [(0, none)], []⟩,
      ⟨fV r_i64 (List.length x0 : Int), [], [(4, some 0)], []⟩,
      ⟨fV r_i64 (List.length x0 : Int), [], [(5, some 1)], []⟩] [0, 3] [] hAt
      ⟨ok_move rfl opd0,
      ok_len un209 rfl opd0,
      ok_assign rfl opd0, trivial⟩ (by kernel_rfl) ?_
  clear hAt
  intro a w hAt
  replace hAt : At B h0 (mkG [(0, fV (Rep.slice r_i64) x0), (3, fV r_i64 (List.length x0 : Int))]) (mkO []) F 23 a w := hAt
  refine then_n ?_
  refine wp_seq ?_
  refine wp_block ?_
  obtain ⟨o4, hl5, H⟩ := bindE H
  refine wp_mono (wp_loopN (f := f_ref01_trim_L1 N x0) (fun (s1 : Int) a w => At B h0 (mkG [(0, fV (Rep.slice r_i64) x0), (3, fV r_i64 s1)]) (mkO []) F 23 a w) (fun o e a w => (fun v => e = .exit 0 ∧ At B h0 (mkG [(0, fV (Rep.slice r_i64) x0), (3, fV r_i64 v)]) (mkO []) F 23 a w) o) ?_ N (List.length x0 : Int) o4 _ _ hl5 ?_) ?_
  · clear H hAt hl5
    intro s1 r8 a w H hAt
    unfold f_ref01_trim_L1 at H
    refine wp_seq ?_
    refine wp_seq ?_
    obtain ⟨v2, hv2, H⟩ := bindE H
    refine reg [⟨fV r_i64 s1, [], [(3, none)], []⟩,
        ⟨fV Rep.bool (cmpI .gtr s1 0), [], [(6, some 0)], []⟩,
        ⟨fV Rep.bool (cmpI .gtr s1 0), [], [(7, some 1)], []⟩,
        ⟨Fact.when ((cmpI .gtr s1 0) = true) (fV (Rep.slice r_i64) x0), [], [(8, some 2), (0, none)], []⟩,
        ⟨Fact.when ((cmpI .gtr s1 0) = true) (fV r_i64 s1), [], [(8, some 2), (3, none)], []⟩,
        ⟨Fact.when ((cmpI .gtr s1 0) = true) (fV r_i64 (IntKind.i64.wrap (s1 - 1))), [], [(8, some 2), (10, some 4)], []⟩,
        ⟨Fact.when ((cmpI .gtr s1 0) = true) (fRef r_i64 v2), [], [(8, some 2), (9, some 3), (11, some 5)], []⟩,
        ⟨Fact.when ((cmpI .gtr s1 0) = true) (fV r_i64 v2), [], [(8, some 2), (12, some 6)], []⟩,
        ⟨Fact.when ((cmpI .gtr s1 0) = true) (fV Rep.bool (cmpI .eql v2 0)), [], [(8, some 2), (13, some 7)], []⟩,
        ⟨fV Rep.bool ((cmpI .gtr s1 0) && (cmpI .eql v2 0)), [], [(8, some 2), (14, some 8)], []⟩] [0, 3, 15] [] hAt
        ⟨ok_move rfl opd0,
        ok_cmp (op := .gtr) (by simp) rfl rfl opd0 opdI,
        ok_move rfl opd0,
        obl_tt rfl rfl rfl rfl rfl rfl rfl (fun hg => ok_move rfl opd1),
        obl_tt rfl rfl rfl rfl rfl rfl rfl (fun hg => ok_move rfl opd1),
        obl_tt rfl rfl rfl rfl rfl rfl rfl (fun hg => ok_sub rfl (opd1.on hg) opdI),
        obl_tt rfl rfl rfl rfl rfl rfl rfl (fun hg => ok_index ty3 un209 (iteT hg hv2) rfl (opd1.on hg) (opd2.on hg)),
        obl_tt rfl rfl rfl rfl rfl rfl rfl (fun hg => ok_load ty3 rfl (opd1.on hg)),
        obl_tt rfl rfl rfl rfl rfl rfl rfl (fun hg => ok_cmp (op := .eql) (by simp) rfl rfl (opd1.on hg) opdI),
        ok_and rfl opd0 (fun e => (opd1.on e)), trivial⟩ (by kernel_rfl) ?_
    clear hAt
    intro a w hAt
    replace hAt : At B h0 (mkG [(0, fV (Rep.slice r_i64) x0), (3, fV r_i64 s1), (15, fV Rep.bool ((cmpI .gtr s1 0) && (cmpI .eql v2 0)))]) (mkO []) F 23 a w := hAt
    refine then_n ?_
    refine wp_if hAt (by rfl) ?_ ?_
    · intro hb3
      have H := iteT hb3 H
      refine wp_skip ?_
      refine then_n ?_
      refine wp_block ?_
      refine reg [⟨fV r_i64 s1, [], [(3, none)], []⟩,
          ⟨fV r_i64 (IntKind.i64.wrap (s1 - 1)), [], [(16, some 0)], []⟩,
          ⟨fV r_i64 (IntKind.i64.wrap (s1 - 1)), [], [(17, some 1)], []⟩] [0, 3] [] hAt
          ⟨ok_move rfl opd0,
          ok_sub rfl opd0 opdI,
          ok_assign rfl opd0, trivial⟩ (by kernel_rfl) ?_
      clear hAt
      intro a w hAt
      replace hAt : At B h0 (mkG [(0, fV (Rep.slice r_i64) x0), (3, fV r_i64 (IntKind.i64.wrap (s1 - 1)))]) (mkO []) F 23 a w := hAt
      refine blk_n ?_
      cases H
      exact ⟨rfl, hAt.pick [0, 3] []⟩
    · intro hb3
      have H := iteF hb3 H
      refine wp_exit ?_
      refine then_x ?_
      cases H
      exact ⟨ex_ne, rfl, hAt.pick [0, 3] []⟩
  · exact hAt.pick [0, 3] []
  · clear hAt
    intro e a w hp
    obtain ⟨rfl, hAt⟩ := hp
    refine blk_eq ?_
    refine then_n ?_
    refine wp_seq ?_
    obtain ⟨v6, hv6, H⟩ := bindE H
    obtain ⟨v7, hv7, H⟩ := bindE H
    refine reg [⟨fV (Rep.slice r_i64) ([] : (List Int)), [(18, some (tipE 3 r_i64.sz))], [], []⟩,
        ⟨fV (Rep.slice r_i64) x0, [], [(0, none)], []⟩,
        ⟨fV r_i64 o4, [], [(3, none)], []⟩,
        ⟨fV (Rep.slice r_i64) v6, [], [(19, some 1), (20, some 2)], []⟩,
        ⟨fV (Rep.slice r_i64) v7, [(18, none), (22, some (tipE 3 r_i64.sz))], [(18, some 0), (21, some 3)], [(18, some 0)]⟩,
        ⟨fV (Rep.slice r_i64) v7, [(22, none), (2, some (tipE 3 r_i64.sz))], [(22, some 4)], [(22, some 4)]⟩] [2] [2] hAt
        ⟨ok_buildTip ty3 un209 rfl rfl rfl fillN,
        ok_move rfl opd0,
        ok_move rfl opd0,
        ok_slice hv6 ty3 un209 rfl opd0 bndN (bndS opd1),
        ok_append hv7 el3 un209 rfl rfl rfl opd0 opd1,
        ok_moveOwn rfl rfl (.inr rfl) opd0, trivial⟩ (by kernel_rfl) ?_
    clear hAt
    intro a w hAt
    replace hAt : At B h0 (mkG [(2, fV (Rep.slice r_i64) v7)]) (mkO [(2, tipE 3 r_i64.sz)]) F 23 a w := hAt
    refine then_n ?_
    refine wp_ret ?_
    cases H
    exact ret1 rfl (rv_tmp rfl rfl) hAt
theorem ok_f_ref01_read (N : Nat) (x0 : (List Int)) (r : (List Int)) (H : f_ref01_read N x0 = some r) : FnOk Try.prog 153 [fV (Rep.slice r_u16) x0] (fV (Rep.slice r_i64) r) := by
  unfold f_ref01_read at H
  refine fn_enter Try.func153 rfl rfl (by kernel_rfl) ?_
  intro κ B h0 F a w hAt
  refine wp_seq ?_
  refine reg [⟨fV (Rep.slice r_i64) [], [(2, some (tipE 3 r_i64.sz))], [], []⟩] [0] [] hAt
      ⟨ok_nilTip rfl (.inl rfl), trivial⟩ (by kernel_rfl) ?_
  clear hAt
  intro a w hAt
  replace hAt : At B h0 (mkG [(0, fV (Rep.slice r_u16) x0)]) (mkO []) F 21 a w := hAt
  refine then_n ?_
  refine wp_seq ?_
  refine reg [⟨fV (Rep.slice r_i64) [], [(3, some (tipE 3 r_i64.sz))], [], []⟩] [0, 3] [3] hAt
      ⟨ok_nilTip rfl (.inl rfl), trivial⟩ (by kernel_rfl) ?_
  clear hAt
  intro a w hAt
  replace hAt : At B h0 (mkG [(0, fV (Rep.slice r_u16) x0), (3, fV (Rep.slice r_i64) [])]) (mkO [(3, tipE 3 r_i64.sz)]) F 21 a w := hAt
  refine then_n ?_
  refine wp_seq ?_
  refine wp_seq ?_
  refine reg [⟨fV r_i64 0, [], [], []⟩] [0, 3, 4] [3] hAt
      ⟨ok_assign rfl opdI, trivial⟩ (by kernel_rfl) ?_
  clear hAt
  intro a w hAt
  replace hAt : At B h0 (mkG [(0, fV (Rep.slice r_u16) x0), (3, fV (Rep.slice r_i64) []), (4, fV r_i64 0)]) (mkO [(3, tipE 3 r_i64.sz)]) F 21 a w := hAt
  refine then_n ?_
  refine wp_block ?_
  obtain ⟨o5, hl6, H⟩ := bindE H
  refine wp_mono (wp_loopN (f := f_ref01_read_L1 N x0) (fun (s1 : ((List Int) × Int)) a w => At B h0 (mkG [(0, fV (Rep.slice r_u16) x0), (3, fV (Rep.slice r_i64) s1.1), (4, fV r_i64 s1.2)]) (mkO [(3, tipE 3 r_i64.sz)]) F 21 a w) (fun o e a w => (fun v => e = .exit 0 ∧ At B h0 (mkG [(3, fV (Rep.slice r_i64) v)]) (mkO [(3, tipE 3 r_i64.sz)]) F 21 a w) o) ?_ N ([], 0) o5 _ _ hl6 ?_) ?_
  · clear H hAt hl6
    intro s1 r8 a w H hAt
    unfold f_ref01_read_L1 at H
    refine wp_seq ?_
    refine wp_seq ?_
    refine reg [⟨fV r_i64 s1.2, [], [(4, none)], []⟩,
        ⟨fV (Rep.slice r_u16) x0, [], [(0, none)], []⟩,
        ⟨fV r_i64 (List.length x0 : Int), [], [(6, some 1)], []⟩,
        ⟨fV Rep.bool (cmpI .lss s1.2 (List.length x0 : Int)), [], [(5, some 0), (7, some 2)], []⟩] [0, 3, 4, 8] [3] hAt
        ⟨ok_move rfl opd0,
        ok_move rfl opd0,
        ok_len un45 rfl opd0,
        ok_cmp (op := .lss) (by simp) rfl rfl opd0 opd1, trivial⟩ (by kernel_rfl) ?_
    clear hAt
    intro a w hAt
    replace hAt : At B h0 (mkG [(0, fV (Rep.slice r_u16) x0), (3, fV (Rep.slice r_i64) s1.1), (4, fV r_i64 s1.2), (8, fV Rep.bool (cmpI .lss s1.2 (List.length x0 : Int)))]) (mkO [(3, tipE 3 r_i64.sz)]) F 21 a w := hAt
    refine then_n ?_
    refine wp_if hAt (by rfl) ?_ ?_
    · intro hb4
      have H := iteT hb4 H
      refine wp_skip ?_
      refine then_n ?_
      refine wp_seq ?_
      refine wp_block ?_
      obtain ⟨v2, hv2, H⟩ := bindE H
      obtain ⟨v3, hv3, H⟩ := bindE H
      refine reg [⟨fV (Rep.slice r_i64) s1.1, [(3, none), (11, some (tipE 3 r_i64.sz))], [(3, none)], [(3, none)]⟩,
          ⟨fV (Rep.slice r_u16) x0, [], [(0, none)], []⟩,
          ⟨fV r_i64 s1.2, [], [(4, none)], []⟩,
          ⟨fRef r_u16 v2, [], [(12, some 1), (13, some 2)], []⟩,
          ⟨fV r_u16 v2, [], [(14, some 3)], []⟩,
          ⟨fV r_i64 (IntKind.i64.wrap v2), [], [(15, some 4)], []⟩,
          ⟨fV (Rep.slice r_i64) [(IntKind.i64.wrap v2)], [], [(16, some 5)], []⟩,
          ⟨fV (Rep.slice r_i64) v3, [(11, none), (18, some (tipE 3 r_i64.sz))], [(11, some 0), (17, some 6)], [(11, some 0)]⟩,
          ⟨fV (Rep.slice r_i64) v3, [(18, none), (3, some (tipE 3 r_i64.sz))], [(18, some 7)], [(18, some 7)]⟩] [0, 3, 4] [3] hAt
          ⟨ok_moveOwn rfl rfl (.inl rfl) opd0,
          ok_move rfl opd0,
          ok_move rfl opd0,
          ok_index ty103 un45 hv2 rfl opd0 opd1,
          ok_load ty103 rfl opd0,
          ok_conv un103 un3 rfl opd0,
          ok_buildSlice ty3 un209 rfl rfl (fillC (Lens.arr _ _ 0 (by decide)) rfl opd0 fillN),
          ok_append hv3 el3 un209 rfl rfl rfl opd0 opd1,
          ok_moveOwn rfl rfl (.inr rfl) opd0, trivial⟩ (by kernel_rfl) ?_
      clear hAt
      intro a w hAt
      replace hAt : At B h0 (mkG [(0, fV (Rep.slice r_u16) x0), (3, fV (Rep.slice r_i64) v3), (4, fV r_i64 s1.2)]) (mkO [(3, tipE 3 r_i64.sz)]) F 21 a w := hAt
      refine blk_n ?_
      refine then_n ?_
      refine reg [⟨fV r_i64 s1.2, [], [(4, none)], []⟩,
          ⟨fV r_i64 (IntKind.i64.wrap (s1.2 + 1)), [], [(9, some 0)], []⟩,
          ⟨fV r_i64 (IntKind.i64.wrap (s1.2 + 1)), [], [(10, some 1)], []⟩] [0, 3, 4] [3] hAt
          ⟨ok_move rfl opd0,
          ok_add rfl opd0 opdI,
          ok_assign rfl opd0, trivial⟩ (by kernel_rfl) ?_
      clear hAt
      intro a w hAt
      replace hAt : At B h0 (mkG [(0, fV (Rep.slice r_u16) x0), (3, fV (Rep.slice r_i64) v3), (4, fV r_i64 (IntKind.i64.wrap (s1.2 + 1)))]) (mkO [(3, tipE 3 r_i64.sz)]) F 21 a w := hAt
      cases H
      exact ⟨rfl, hAt.pick [0, 3, 4] [3]⟩
    · intro hb4
      have H := iteF hb4 H
      refine wp_exit ?_
      refine then_x ?_
      cases H
      exact ⟨ex_ne, rfl, hAt.pick [3] [3]⟩
  · exact hAt.pick [0, 3, 4] [3]
  · clear hAt
    intro e a w hp
    obtain ⟨rfl, hAt⟩ := hp
    refine blk_eq ?_
    refine then_n ?_
    refine wp_seq ?_
    obtain ⟨v7, hv7, H⟩ := bindE H
    refine reg [⟨fV (Rep.slice r_i64) o5, [], [(3, none)], []⟩,
        ⟨fV (Rep.slice r_i64) v7, [], [(19, some 0)], []⟩,
        ⟨fV (Rep.slice r_i64) v7, [], [(20, some 1)], []⟩] [2] [] hAt
        ⟨ok_move rfl opd0,
        ok_call (ok_f_ref01_trim N o5 _ hv7) Try.func175 (by kernel_rfl) (by kernel_rfl) rfl ⟨opd0, trivial⟩,
        ok_assign rfl opd0, trivial⟩ (by kernel_rfl) ?_
    clear hAt
    intro a w hAt
    replace hAt : At B h0 (mkG [(2, fV (Rep.slice r_i64) v7)]) (mkO []) F 21 a w := hAt
    refine then_n ?_
    refine wp_ret ?_
    cases H
    exact ret1 rfl (rv_tmp rfl rfl) hAt
theorem ok_f_ref01_made (N : Nat) (x0 : Bool) (x1 : (List Int)) (r : GInt) (H : f_ref01_made N x0 x1 = some r) : FnOk Try.prog 154 [fV Rep.bool x0, fV (Rep.slice r_i64) x1] (fV GInt.rep r) := by
  unfold f_ref01_made at H
  refine fn_enter Try.func154 rfl rfl (by kernel_rfl) ?_
  intro κ B h0 F a w hAt
  refine wp_seq ?_
  refine reg [⟨Fact.triv, [(4, some (boxE 47 GInt.rep (⟨false, []⟩ : GInt)))], [], []⟩] [0, 1] [4] hAt
      ⟨ok_alloc ty47 rfl rfl, trivial⟩ (by kernel_rfl) ?_
  clear hAt
  intro a w hAt
  replace hAt : At B h0 (mkG [(0, fV Rep.bool x0), (1, fV (Rep.slice r_i64) x1)]) (mkO [(4, boxE 47 GInt.rep (⟨false, []⟩ : GInt))]) F 31 a w := hAt
  refine then_n ?_
  refine wp_seq ?_
  refine reg [⟨fV Rep.bool x0, [], [(0, none)], []⟩,
      ⟨fV Rep.bool x0, [], [(7, some 0)], []⟩,
      ⟨Fact.when (x0 = true) (fV (Rep.slice r_i64) x1), [], [(8, some 1), (1, none)], []⟩,
      ⟨Fact.when (x0 = true) (fV r_i64 (List.length x1 : Int)), [], [(8, some 1), (9, some 2)], []⟩,
      ⟨Fact.when (x0 = true) (fV Rep.bool (cmpI .gtr (List.length x1 : Int) 0)), [], [(8, some 1), (10, some 3)], []⟩,
      ⟨fV Rep.bool (x0 && (cmpI .gtr (List.length x1 : Int) 0)), [], [(8, some 1), (11, some 4)], []⟩,
      ⟨fVN GInt.rep (⟨(x0 && (cmpI .gtr (List.length x1 : Int) 0)), []⟩ : GInt) ([⟨1, 103, r_u16.sz⟩] : List TipS), [], [(12, some 5)], []⟩,
      ⟨Fact.triv, [(5, some (boxT 47 GInt.rep (⟨false, []⟩ : GInt) ([⟨1, 103, r_u16.sz⟩] : List TipS)))], [], []⟩,
      ⟨Fact.triv, [(5, some (boxT 47 GInt.rep (⟨(x0 && (cmpI .gtr (List.length x1 : Int) 0)), []⟩ : GInt) ([⟨1, 103, r_u16.sz⟩] : List TipS)))], [(13, some 6)], [(5, some 7)]⟩] [1] [4, 5] hAt
      ⟨ok_move rfl opd0,
      ok_move rfl opd0,
      obl_tt rfl rfl rfl rfl rfl rfl rfl (fun hg => ok_move rfl opd1),
      obl_tt rfl rfl rfl rfl rfl rfl rfl (fun hg => ok_len un209 rfl (opd1.on hg)),
      obl_tt rfl rfl rfl rfl rfl rfl rfl (fun hg => ok_cmp (op := .gtr) (by simp) rfl rfl (opd1.on hg) opdI),
      ok_and rfl opd0 (fun e => (opd1.on e)),
      ok_buildN ([⟨1, 103, r_u16.sz⟩] : List TipS) ty47 rfl pl47 rfl ⟨rfl, trivial⟩ (fillNC GInt.l0 rfl rfl opd0 fillNN),
      ok_allocT ([⟨1, 103, r_u16.sz⟩] : List TipS) ty47 ⟨rfl, trivial⟩ rfl rfl,
      ok_storeBoxN ty47 rfl rfl opd0, trivial⟩ (by kernel_rfl) ?_
  clear hAt
  intro a w hAt
  replace hAt : At B h0 (mkG [(1, fV (Rep.slice r_i64) x1)]) (mkO [(4, boxE 47 GInt.rep (⟨false, []⟩ : GInt)), (5, boxT 47 GInt.rep (⟨(x0 && (cmpI .gtr (List.length x1 : Int) 0)), []⟩ : GInt) ([⟨1, 103, r_u16.sz⟩] : List TipS))]) F 31 a w := hAt
  refine then_n ?_
  refine wp_seq ?_
  refine wp_seq ?_
  refine reg [⟨fV r_i64 0, [], [], []⟩] [1, 6] [4, 5] hAt
      ⟨ok_assign rfl opdI, trivial⟩ (by kernel_rfl) ?_
  clear hAt
  intro a w hAt
  replace hAt : At B h0 (mkG [(1, fV (Rep.slice r_i64) x1), (6, fV r_i64 0)]) (mkO [(4, boxE 47 GInt.rep (⟨false, []⟩ : GInt)), (5, boxT 47 GInt.rep (⟨(x0 && (cmpI .gtr (List.length x1 : Int) 0)), []⟩ : GInt) ([⟨1, 103, r_u16.sz⟩] : List TipS))]) F 31 a w := hAt
  refine then_n ?_
  refine wp_block ?_
  obtain ⟨o5, hl6, H⟩ := bindE H
  refine wp_mono (wp_loopN (f := f_ref01_made_L1 N x1) (fun (s1 : (GInt × Int)) a w => At B h0 (mkG [(1, fV (Rep.slice r_i64) x1), (6, fV r_i64 s1.2)]) (mkO [(4, boxE 47 GInt.rep (⟨false, []⟩ : GInt)), (5, boxT 47 GInt.rep s1.1 ([⟨1, 103, r_u16.sz⟩] : List TipS))]) F 31 a w) (fun o e a w => (fun v => e = .exit 0 ∧ At B h0 (mkG []) (mkO [(4, boxE 47 GInt.rep (⟨false, []⟩ : GInt)), (5, boxT 47 GInt.rep v ([⟨1, 103, r_u16.sz⟩] : List TipS))]) F 31 a w) o) ?_ N ((⟨(x0 && (cmpI .gtr (List.length x1 : Int) 0)), []⟩ : GInt), 0) o5 _ _ hl6 ?_) ?_
  · clear H hAt hl6
    intro s1 r7 a w H hAt
    unfold f_ref01_made_L1 at H
    refine wp_seq ?_
    refine wp_seq ?_
    refine reg [⟨fV r_i64 s1.2, [], [(6, none)], []⟩,
        ⟨fV (Rep.slice r_i64) x1, [], [(1, none)], []⟩,
        ⟨fV r_i64 (List.length x1 : Int), [], [(15, some 1)], []⟩,
        ⟨fV Rep.bool (cmpI .lss s1.2 (List.length x1 : Int)), [], [(14, some 0), (16, some 2)], []⟩] [1, 6, 17] [4, 5] hAt
        ⟨ok_move rfl opd0,
        ok_move rfl opd0,
        ok_len un209 rfl opd0,
        ok_cmp (op := .lss) (by simp) rfl rfl opd0 opd1, trivial⟩ (by kernel_rfl) ?_
    clear hAt
    intro a w hAt
    replace hAt : At B h0 (mkG [(1, fV (Rep.slice r_i64) x1), (6, fV r_i64 s1.2), (17, fV Rep.bool (cmpI .lss s1.2 (List.length x1 : Int)))]) (mkO [(4, boxE 47 GInt.rep (⟨false, []⟩ : GInt)), (5, boxT 47 GInt.rep s1.1 ([⟨1, 103, r_u16.sz⟩] : List TipS))]) F 31 a w := hAt
    refine then_n ?_
    refine wp_if hAt (by rfl) ?_ ?_
    · intro hb4
      have H := iteT hb4 H
      refine wp_skip ?_
      refine then_n ?_
      refine wp_seq ?_
      refine wp_block ?_
      obtain ⟨v2, hv2, H⟩ := bindE H
      obtain ⟨v3, hv3, H⟩ := bindE H
      refine regd [⟨fOff 5 1, [], [], [(5, none)]⟩,
          ⟨fV (Rep.slice r_u16) s1.1.Limbs, [(5, some (boxT 47 GInt.rep s1.1 ([] : List TipS))), (21, some (tipE 103 r_u16.sz))], [(20, some 0)], [(5, none)]⟩,
          ⟨fV (Rep.slice r_i64) x1, [], [(1, none)], []⟩,
          ⟨fV r_i64 s1.2, [], [(6, none)], []⟩,
          ⟨fRef r_i64 v2, [], [(22, some 2), (23, some 3)], []⟩,
          ⟨fV r_i64 v2, [], [(24, some 4)], []⟩,
          ⟨fV r_u16 (IntKind.u16.wrap v2), [], [(25, some 5)], []⟩,
          ⟨fV (Rep.slice r_u16) [(IntKind.u16.wrap v2)], [], [(26, some 6)], []⟩,
          ⟨fV (Rep.slice r_u16) v3, [(21, none), (28, some (tipE 103 r_u16.sz))], [(21, some 1), (27, some 7)], [(21, some 1)]⟩,
          ⟨fOff 5 1, [], [], [(5, some 1)]⟩,
          ⟨Fact.triv, [(5, some (boxT 47 GInt.rep ({ s1.1 with Limbs := v3 } : GInt) ([⟨1, 103, r_u16.sz⟩] : List TipS))), (28, none)], [(29, some 9), (28, some 8)], [(5, some 1), (28, some 8)]⟩] [0, 1, 2, 3, 4, 5, 6, 7, 8, 9, 10] [0, 1, 2, 3, 4, 5, 6, 7, 8, 9, 10] [1, 6] [4, 5] hAt
          ⟨ok_fieldOwnT fo47_1 rfl,
          ok_loadTip (l1 := ([] : List TipS)) (l2 := ([] : List TipS)) (E := 103) (sz := r_u16.sz) GInt.l1 ty45 rfl rfl rfl opd0,
          ok_move rfl opd0,
          ok_move rfl opd0,
          ok_index ty3 un209 hv2 rfl opd0 opd1,
          ok_load ty3 rfl opd0,
          ok_conv un3 un103 rfl opd0,
          ok_buildSlice ty103 un45 rfl rfl (fillC (Lens.arr _ _ 0 (by decide)) rfl opd0 fillN),
          ok_append hv3 el103 un45 rfl rfl rfl opd0 opd1,
          ok_fieldOwnT fo47_1 rfl,
          ok_storeTip (l1 := ([] : List TipS)) (l2 := ([] : List TipS)) (E := 103) (sz := r_u16.sz) GInt.l1 ty45 rfl rfl rfl rfl opd0 opd1 rfl, trivial⟩ (by kernel_rfl) ?_
      clear hAt
      intro a w hAt
      replace hAt : At B h0 (mkG [(1, fV (Rep.slice r_i64) x1), (6, fV r_i64 s1.2)]) (mkO [(4, boxE 47 GInt.rep (⟨false, []⟩ : GInt)), (5, boxT 47 GInt.rep ({ s1.1 with Limbs := v3 } : GInt) ([⟨1, 103, r_u16.sz⟩] : List TipS))]) F 31 a w := hAt
      refine blk_n ?_
      refine then_n ?_
      refine reg [⟨fV r_i64 s1.2, [], [(6, none)], []⟩,
          ⟨fV r_i64 (IntKind.i64.wrap (s1.2 + 1)), [], [(18, some 0)], []⟩,
          ⟨fV r_i64 (IntKind.i64.wrap (s1.2 + 1)), [], [(19, some 1)], []⟩] [1, 6] [4, 5] hAt
          ⟨ok_move rfl opd0,
          ok_add rfl opd0 opdI,
          ok_assign rfl opd0, trivial⟩ (by kernel_rfl) ?_
      clear hAt
      intro a w hAt
      replace hAt : At B h0 (mkG [(1, fV (Rep.slice r_i64) x1), (6, fV r_i64 (IntKind.i64.wrap (s1.2 + 1)))]) (mkO [(4, boxE 47 GInt.rep (⟨false, []⟩ : GInt)), (5, boxT 47 GInt.rep ({ s1.1 with Limbs := v3 } : GInt) ([⟨1, 103, r_u16.sz⟩] : List TipS))]) F 31 a w := hAt
      cases H
      exact ⟨rfl, hAt.pick [1, 6] [4, 5]⟩
    · intro hb4
      have H := iteF hb4 H
      refine wp_exit ?_
      refine then_x ?_
      cases H
      exact ⟨ex_ne, rfl, hAt.pick [] [4, 5]⟩
  · exact hAt.pick [1, 6] [4, 5]
  · clear hAt
    intro e a w hp
    obtain ⟨rfl, hAt⟩ := hp
    refine blk_eq ?_
    refine then_n ?_
    refine wp_seq ?_
    refine reg [⟨fV GInt.rep o5, [], [], [(5, none)]⟩,
        ⟨Fact.triv, [(4, some (boxE 47 GInt.rep o5))], [(30, some 0)], [(4, none)]⟩] [] [4] hAt
        ⟨ok_loadBoxT ty47 rfl,
        ok_storeBox ty47 rfl rfl opd0, trivial⟩ (by kernel_rfl) ?_
    clear hAt
    intro a w hAt
    replace hAt : At B h0 (mkG []) (mkO [(4, boxE 47 GInt.rep o5)]) F 31 a w := hAt
    refine then_n ?_
    refine wp_ret ?_
    cases H
    exact ret1 rfl (rv_cell ty47 rfl) hAt
theorem ok_f_ref01_Of (N : Nat) (x0 : Int) (r : GInt) (H : f_ref01_Of N x0 = some r) : FnOk Try.prog 155 [fV r_i64 x0] (fV GInt.rep r) := by
  unfold f_ref01_Of at H
  refine fn_enter Try.func155 rfl rfl (by kernel_rfl) ?_
  intro κ B h0 F a w hAt
  refine wp_seq ?_
  refine reg [⟨Fact.triv, [(2, some (boxE 47 GInt.rep (⟨false, []⟩ : GInt)))], [], []⟩] [0] [2] hAt
      ⟨ok_alloc ty47 rfl rfl, trivial⟩ (by kernel_rfl) ?_
  clear hAt
  intro a w hAt
  replace hAt : At B h0 (mkG [(0, fV r_i64 x0)]) (mkO [(2, boxE 47 GInt.rep (⟨false, []⟩ : GInt))]) F 25 a w := hAt
  refine then_n ?_
  refine wp_seq ?_
  refine reg [⟨fV (Rep.slice r_i64) [], [(3, some (tipE 3 r_i64.sz))], [], []⟩] [0, 3] [2, 3] hAt
      ⟨ok_nilTip rfl (.inl rfl), trivial⟩ (by kernel_rfl) ?_
  clear hAt
  intro a w hAt
  replace hAt : At B h0 (mkG [(0, fV r_i64 x0), (3, fV (Rep.slice r_i64) [])]) (mkO [(2, boxE 47 GInt.rep (⟨false, []⟩ : GInt)), (3, tipE 3 r_i64.sz)]) F 25 a w := hAt
  refine then_n ?_
  refine wp_seq ?_
  refine reg [⟨fV r_i64 x0, [], [(0, none)], []⟩,
      ⟨fV r_u64 (IntKind.u64.wrap x0), [], [(5, some 0)], []⟩,
      ⟨fV r_u64 (IntKind.u64.wrap x0), [], [(6, some 1)], []⟩] [0, 3, 4] [2, 3] hAt
      ⟨ok_move rfl opd0,
      ok_conv un3 un186 rfl opd0,
      ok_assign rfl opd0, trivial⟩ (by kernel_rfl) ?_
  clear hAt
  intro a w hAt
  replace hAt : At B h0 (mkG [(0, fV r_i64 x0), (3, fV (Rep.slice r_i64) []), (4, fV r_u64 (IntKind.u64.wrap x0))]) (mkO [(2, boxE 47 GInt.rep (⟨false, []⟩ : GInt)), (3, tipE 3 r_i64.sz)]) F 25 a w := hAt
  refine then_n ?_
  refine wp_seq ?_
  obtain ⟨o2, hl3, H⟩ := bindE H
  refine wp_mono (Q := (fun o e a w => (fun v => e = .normal ∧ At B h0 (mkG [(0, fV r_i64 x0), (3, fV (Rep.slice r_i64) []), (4, fV r_u64 v)]) (mkO [(2, boxE 47 GInt.rep (⟨false, []⟩ : GInt)), (3, tipE 3 r_i64.sz)]) F 25 a w) o) o2) ?_ ?_
  · clear H
    have H := hl3
    clear hl3
    refine wp_seq ?_
    refine reg [⟨fV r_i64 x0, [], [(0, none)], []⟩,
        ⟨fV Rep.bool (cmpI .lss x0 0), [], [(7, some 0)], []⟩] [0, 3, 4, 8] [2, 3] hAt
        ⟨ok_move rfl opd0,
        ok_cmp (op := .lss) (by simp) rfl rfl opd0 opdI, trivial⟩ (by kernel_rfl) ?_
    clear hAt
    intro a w hAt
    replace hAt : At B h0 (mkG [(0, fV r_i64 x0), (3, fV (Rep.slice r_i64) []), (4, fV r_u64 (IntKind.u64.wrap x0)), (8, fV Rep.bool (cmpI .lss x0 0))]) (mkO [(2, boxE 47 GInt.rep (⟨false, []⟩ : GInt)), (3, tipE 3 r_i64.sz)]) F 25 a w := hAt
    refine then_n ?_
    refine wp_if hAt (by rfl) ?_ ?_
    · intro hb1
      have H := iteT hb1 H
      refine reg [⟨fV r_u64 (IntKind.u64.wrap x0), [], [(4, none)], []⟩,
          ⟨fV r_u64 (IntKind.u64.wrap (0 - (IntKind.u64.wrap x0))), [], [(9, some 0)], []⟩,
          ⟨fV r_u64 (IntKind.u64.wrap (0 - (IntKind.u64.wrap x0))), [], [(10, some 1)], []⟩] [0, 3, 4] [2, 3] hAt
          ⟨ok_move rfl opd0,
          ok_neg rfl opd0,
          ok_assign rfl opd0, trivial⟩ (by kernel_rfl) ?_
      clear hAt
      intro a w hAt
      replace hAt : At B h0 (mkG [(0, fV r_i64 x0), (3, fV (Rep.slice r_i64) []), (4, fV r_u64 (IntKind.u64.wrap (0 - (IntKind.u64.wrap x0))))]) (mkO [(2, boxE 47 GInt.rep (⟨false, []⟩ : GInt)), (3, tipE 3 r_i64.sz)]) F 25 a w := hAt
      cases H
      exact ⟨rfl, hAt.pick [0, 3, 4] [2, 3]⟩
    · intro hb1
      have H := iteF hb1 H
      refine wp_skip ?_
      cases H
      exact ⟨rfl, hAt.pick [0, 3, 4] [2, 3]⟩
  · clear hAt
    intro e a w hp
    obtain ⟨rfl, hAt⟩ := hp
    refine then_n ?_
    refine wp_seq ?_
    refine wp_block ?_
    obtain ⟨o9, hl10, H⟩ := bindE H
    refine wp_mono (wp_loopN (f := f_ref01_Of_L1 N) (fun (s4 : ((List Int) × Int)) a w => At B h0 (mkG [(0, fV r_i64 x0), (3, fV (Rep.slice r_i64) s4.1), (4, fV r_u64 s4.2)]) (mkO [(2, boxE 47 GInt.rep (⟨false, []⟩ : GInt)), (3, tipE 3 r_i64.sz)]) F 25 a w) (fun o e a w => (fun v => e = .exit 0 ∧ At B h0 (mkG [(0, fV r_i64 x0), (3, fV (Rep.slice r_i64) v)]) (mkO [(2, boxE 47 GInt.rep (⟨false, []⟩ : GInt)), (3, tipE 3 r_i64.sz)]) F 25 a w) o) ?_ N ([], o2) o9 _ _ hl10 ?_) ?_
    · clear H hAt hl10
      intro s4 r12 a w H hAt
      unfold f_ref01_Of_L1 at H
      refine wp_seq ?_
      refine wp_seq ?_
      refine reg [⟨fV r_u64 s4.2, [], [(4, none)], []⟩,
          ⟨fV Rep.bool (cmpI .gtr s4.2 0), [], [(11, some 0)], []⟩] [0, 3, 4, 12] [2, 3] hAt
          ⟨ok_move rfl opd0,
          ok_cmp (op := .gtr) (by simp) rfl rfl opd0 opdI, trivial⟩ (by kernel_rfl) ?_
      clear hAt
      intro a w hAt
      replace hAt : At B h0 (mkG [(0, fV r_i64 x0), (3, fV (Rep.slice r_i64) s4.1), (4, fV r_u64 s4.2), (12, fV Rep.bool (cmpI .gtr s4.2 0))]) (mkO [(2, boxE 47 GInt.rep (⟨false, []⟩ : GInt)), (3, tipE 3 r_i64.sz)]) F 25 a w := hAt
      refine then_n ?_
      refine wp_if hAt (by rfl) ?_ ?_
      · intro hb8
        have H := iteT hb8 H
        refine wp_skip ?_
        refine then_n ?_
        refine wp_seq ?_
        refine wp_block ?_
        obtain ⟨v5, hv5, H⟩ := bindE H
        obtain ⟨v6, hv6, H⟩ := bindE H
        refine reg [⟨fV (Rep.slice r_i64) s4.1, [(3, none), (15, some (tipE 3 r_i64.sz))], [(3, none)], [(3, none)]⟩,
            ⟨fV r_u64 s4.2, [], [(4, none)], []⟩,
            ⟨fV r_u64 v5, [], [(16, some 1)], []⟩,
            ⟨fV r_i64 (IntKind.i64.wrap v5), [], [(17, some 2)], []⟩,
            ⟨fV (Rep.slice r_i64) [(IntKind.i64.wrap v5)], [], [(18, some 3)], []⟩,
            ⟨fV (Rep.slice r_i64) v6, [(15, none), (20, some (tipE 3 r_i64.sz))], [(15, some 0), (19, some 4)], [(15, some 0)]⟩,
            ⟨fV (Rep.slice r_i64) v6, [(20, none), (3, some (tipE 3 r_i64.sz))], [(20, some 5)], [(20, some 5)]⟩] [0, 3, 4] [2, 3] hAt
            ⟨ok_moveOwn rfl rfl (.inl rfl) opd0,
            ok_move rfl opd0,
            ok_rem hv5 rfl opd0 opdI,
            ok_conv un186 un3 rfl opd0,
            ok_buildSlice ty3 un209 rfl rfl (fillC (Lens.arr _ _ 0 (by decide)) rfl opd0 fillN),
            ok_append hv6 el3 un209 rfl rfl rfl opd0 opd1,
            ok_moveOwn rfl rfl (.inr rfl) opd0, trivial⟩ (by kernel_rfl) ?_
        clear hAt
        intro a w hAt
        replace hAt : At B h0 (mkG [(0, fV r_i64 x0), (3, fV (Rep.slice r_i64) v6), (4, fV r_u64 s4.2)]) (mkO [(2, boxE 47 GInt.rep (⟨false, []⟩ : GInt)), (3, tipE 3 r_i64.sz)]) F 25 a w := hAt
        refine blk_n ?_
        refine then_n ?_
        obtain ⟨v7, hv7, H⟩ := bindE H
        refine reg [⟨fV r_u64 s4.2, [], [(4, none)], []⟩,
            ⟨fV r_u64 v7, [], [(13, some 0)], []⟩,
            ⟨fV r_u64 v7, [], [(14, some 1)], []⟩] [0, 3, 4] [2, 3] hAt
            ⟨ok_move rfl opd0,
            ok_quo hv7 rfl opd0 opdI,
            ok_assign rfl opd0, trivial⟩ (by kernel_rfl) ?_
        clear hAt
        intro a w hAt
        replace hAt : At B h0 (mkG [(0, fV r_i64 x0), (3, fV (Rep.slice r_i64) v6), (4, fV r_u64 v7)]) (mkO [(2, boxE 47 GInt.rep (⟨false, []⟩ : GInt)), (3, tipE 3 r_i64.sz)]) F 25 a w := hAt
        cases H
        exact ⟨rfl, hAt.pick [0, 3, 4] [2, 3]⟩
      · intro hb8
        have H := iteF hb8 H
        refine wp_exit ?_
        refine then_x ?_
        cases H
        exact ⟨ex_ne, rfl, hAt.pick [0, 3] [2, 3]⟩
    · exact hAt.pick [0, 3, 4] [2, 3]
    · clear hAt
      intro e a w hp
      obtain ⟨rfl, hAt⟩ := hp
      refine blk_eq ?_
      refine then_n ?_
      refine wp_seq ?_
      obtain ⟨v11, hv11, H⟩ := bindE H
      refine reg [⟨fV r_i64 x0, [], [(0, none)], []⟩,
          ⟨fV Rep.bool (cmpI .lss x0 0), [], [(21, some 0)], []⟩,
          ⟨fV (Rep.slice r_i64) o9, [], [(3, none)], []⟩,
          ⟨fV GInt.rep v11, [], [(22, some 1), (23, some 2)], []⟩,
          ⟨Fact.triv, [(2, some (boxE 47 GInt.rep v11))], [(24, some 3)], [(2, none)]⟩] [] [2] hAt
          ⟨ok_move rfl opd0,
          ok_cmp (op := .lss) (by simp) rfl rfl opd0 opdI,
          ok_move rfl opd0,
          ok_call (ok_f_ref01_made N (cmpI .lss x0 0) o9 _ hv11) Try.func154 (by kernel_rfl) (by kernel_rfl) rfl ⟨opd0, ⟨opd1, trivial⟩⟩,
          ok_storeBox ty47 rfl rfl opd0, trivial⟩ (by kernel_rfl) ?_
      clear hAt
      intro a w hAt
      replace hAt : At B h0 (mkG []) (mkO [(2, boxE 47 GInt.rep v11)]) F 25 a w := hAt
      refine then_n ?_
      refine wp_ret ?_
      cases H
      exact ret1 rfl (rv_cell ty47 rfl) hAt
theorem ok_f_ref01_digit (N : Nat) (x0 : (List Int)) (x1 : Int) (r : Int) (H : f_ref01_digit N x0 x1 = some r) : FnOk Try.prog 176 [fV (Rep.slice r_i64) x0, fV r_i64 x1] (fV r_i64 r) := by
  unfold f_ref01_digit at H
  refine fn_enter Try.func176 rfl rfl (by kernel_rfl) ?_
  intro κ B h0 F a w hAt
  refine wp_seq ?_
  refine reg [⟨fV r_i64 0, [], [], []⟩] [0, 1] [] hAt
      ⟨ok_assign rfl opdI, trivial⟩ (by kernel_rfl) ?_
  clear hAt
  intro a w hAt
  replace hAt : At B h0 (mkG [(0, fV (Rep.slice r_i64) x0), (1, fV r_i64 x1)]) (mkO []) F 13 a w := hAt
  refine then_n ?_
  refine wp_seq ?_
  refine wp_seq ?_
  refine reg [⟨fV r_i64 x1, [], [(1, none)], []⟩,
      ⟨fV (Rep.slice r_i64) x0, [], [(0, none)], []⟩,
      ⟨fV r_i64 (List.length x0 : Int), [], [(6, some 1)], []⟩,
      ⟨fV Rep.bool (cmpI .lss x1 (List.length x0 : Int)), [], [(5, some 0), (7, some 2)], []⟩] [0, 1, 8] [] hAt
      ⟨ok_move rfl opd0,
      ok_move rfl opd0,
      ok_len un209 rfl opd0,
      ok_cmp (op := .lss) (by simp) rfl rfl opd0 opd1, trivial⟩ (by kernel_rfl) ?_
  clear hAt
  intro a w hAt
  replace hAt : At B h0 (mkG [(0, fV (Rep.slice r_i64) x0), (1, fV r_i64 x1), (8, fV Rep.bool (cmpI .lss x1 (List.length x0 : Int)))]) (mkO []) F 13 a w := hAt
  refine then_n ?_
  refine wp_if hAt (by rfl) ?_ ?_
  · intro hb2
    have H := iteT hb2 H
    refine wp_seq ?_
    obtain ⟨v1, hv1, H⟩ := bindE H
    refine reg [⟨fV (Rep.slice r_i64) x0, [], [(0, none)], []⟩,
        ⟨fV r_i64 x1, [], [(1, none)], []⟩,
        ⟨fRef r_i64 v1, [], [(9, some 0), (10, some 1)], []⟩,
        ⟨fV r_i64 v1, [], [(11, some 2)], []⟩,
        ⟨fV r_i64 v1, [], [(12, some 3)], []⟩] [4] [] hAt
        ⟨ok_move rfl opd0,
        ok_move rfl opd0,
        ok_index ty3 un209 hv1 rfl opd0 opd1,
        ok_load ty3 rfl opd0,
        ok_assign rfl opd0, trivial⟩ (by kernel_rfl) ?_
    clear hAt
    intro a w hAt
    replace hAt : At B h0 (mkG [(4, fV r_i64 v1)]) (mkO []) F 13 a w := hAt
    refine then_n ?_
    refine wp_ret ?_
    refine then_r ?_
    cases H
    exact ret1 rfl (rv_tmp rfl rfl) hAt
  · intro hb2
    have H := iteF hb2 H
    refine wp_skip ?_
    refine then_n ?_
    refine wp_seq ?_
    refine reg [⟨fV r_i64 0, [], [], []⟩] [4] [] hAt
        ⟨ok_assign rfl opdI, trivial⟩ (by kernel_rfl) ?_
    clear hAt
    intro a w hAt
    replace hAt : At B h0 (mkG [(4, fV r_i64 0)]) (mkO []) F 13 a w := hAt
    refine then_n ?_
    refine wp_ret ?_
    cases H
    exact ret1 rfl (rv_tmp rfl rfl) hAt
theorem ok_f_ref01_times (N : Nat) (x0 : (List Int)) (x1 : (List Int)) (r : (List Int)) (H : f_ref01_times N x0 x1 = some r) : FnOk Try.prog 158 [fV (Rep.slice r_i64) x0, fV (Rep.slice r_i64) x1] (fV (Rep.slice r_i64) r) := by
  unfold f_ref01_times at H
  refine fn_enter Try.func158 rfl rfl (by kernel_rfl) ?_
  intro κ B h0 F a w hAt
  refine wp_seq ?_
  refine reg [⟨fV (Rep.slice r_i64) [], [(4, some (tipE 3 r_i64.sz))], [], []⟩] [0, 1] [] hAt
      ⟨ok_nilTip rfl (.inl rfl), trivial⟩ (by kernel_rfl) ?_
  clear hAt
  intro a w hAt
  replace hAt : At B h0 (mkG [(0, fV (Rep.slice r_i64) x0), (1, fV (Rep.slice r_i64) x1)]) (mkO []) F 61 a w := hAt
  refine then_n ?_
  refine wp_seq ?_
  obtain ⟨v1, hv1, H⟩ := bindE H
  refine reg [⟨fV (Rep.slice r_i64) x0, [], [(0, none)], []⟩,
      ⟨fV r_i64 (List.length x0 : Int), [], [(10, some 0)], []⟩,
      ⟨fV (Rep.slice r_i64) x1, [], [(1, none)], []⟩,
      ⟨fV r_i64 (List.length x1 : Int), [], [(12, some 2)], []⟩,
      ⟨fV r_i64 (IntKind.i64.wrap ((List.length x0 : Int) + (List.length x1 : Int))), [], [(11, some 1), (13, some 3)], []⟩,
      ⟨fV r_i64 (IntKind.i64.wrap ((IntKind.i64.wrap ((List.length x0 : Int) + (List.length x1 : Int))) + 1)), [], [(14, some 4)], []⟩,
      ⟨Fact.triv, [(16, some (arrE 3 r_i64 v1))], [(15, some 5)], []⟩,
      ⟨Fact.triv, [(16, none), (5, some (arrE 3 r_i64 v1))], [], [(16, some 6)]⟩] [0, 1] [5] hAt
      ⟨ok_move rfl opd0,
      ok_len un209 rfl opd0,
      ok_move rfl opd0,
      ok_len un209 rfl opd0,
      ok_add rfl opd0 opd1,
      ok_add rfl opd0 opdI,
      ok_makeArr hv1 el3 ty3 un209 rfl rfl opd0 opd0,
      (ok_moveOwn (f := Fact.triv) rfl rfl (.inr rfl) (fun _ _ _ => trivial)), trivial⟩ (by kernel_rfl) ?_
  clear hAt
  intro a w hAt
  replace hAt : At B h0 (mkG [(0, fV (Rep.slice r_i64) x0), (1, fV (Rep.slice r_i64) x1)]) (mkO [(5, arrE 3 r_i64 v1)]) F 61 a w := hAt
  refine then_n ?_
  refine wp_seq ?_
  refine wp_seq ?_
  refine reg [⟨fV r_i64 0, [], [], []⟩] [0, 1, 6] [5] hAt
      ⟨ok_assign rfl opdI, trivial⟩ (by kernel_rfl) ?_
  clear hAt
  intro a w hAt
  replace hAt : At B h0 (mkG [(0, fV (Rep.slice r_i64) x0), (1, fV (Rep.slice r_i64) x1), (6, fV r_i64 0)]) (mkO [(5, arrE 3 r_i64 v1)]) F 61 a w := hAt
  refine then_n ?_
  refine wp_block ?_
  obtain ⟨o15, hl16, H⟩ := bindE H
  refine wp_mono (wp_loopN (f := f_ref01_times_L2 N x0 x1) (fun (s2 : ((List Int) × Int)) a w => At B h0 (mkG [(0, fV (Rep.slice r_i64) x0), (1, fV (Rep.slice r_i64) x1), (6, fV r_i64 s2.2)]) (mkO [(5, arrE 3 r_i64 s2.1)]) F 61 a w) (fun o e a w => (fun v => e = .exit 0 ∧ At B h0 (mkG []) (mkO [(5, arrE 3 r_i64 v)]) F 61 a w) o) ?_ N (v1, 0) o15 _ _ hl16 ?_) ?_
  · clear H hAt hl16
    intro s2 r18 a w H hAt
    unfold f_ref01_times_L2 at H
    refine wp_seq ?_
    refine wp_seq ?_
    refine reg [⟨fV r_i64 s2.2, [], [(6, none)], []⟩,
        ⟨fV (Rep.slice r_i64) x0, [], [(0, none)], []⟩,
        ⟨fV r_i64 (List.length x0 : Int), [], [(18, some 1)], []⟩,
        ⟨fV Rep.bool (cmpI .lss s2.2 (List.length x0 : Int)), [], [(17, some 0), (19, some 2)], []⟩] [0, 1, 6, 20] [5] hAt
        ⟨ok_move rfl opd0,
        ok_move rfl opd0,
        ok_len un209 rfl opd0,
        ok_cmp (op := .lss) (by simp) rfl rfl opd0 opd1, trivial⟩ (by kernel_rfl) ?_
    clear hAt
    intro a w hAt
    replace hAt : At B h0 (mkG [(0, fV (Rep.slice r_i64) x0), (1, fV (Rep.slice r_i64) x1), (6, fV r_i64 s2.2), (20, fV Rep.bool (cmpI .lss s2.2 (List.length x0 : Int)))]) (mkO [(5, arrE 3 r_i64 s2.1)]) F 61 a w := hAt
    refine then_n ?_
    refine wp_if hAt (by rfl) ?_ ?_
    · intro hb14
      have H := iteT hb14 H
      refine wp_skip ?_
      refine then_n ?_
      refine wp_seq ?_
      refine wp_block ?_
      refine wp_seq ?_
      refine reg [⟨fV r_i64 0, [], [], []⟩] [0, 1, 6, 7] [5] hAt
          ⟨ok_assign rfl opdI, trivial⟩ (by kernel_rfl) ?_
      clear hAt
      intro a w hAt
      replace hAt : At B h0 (mkG [(0, fV (Rep.slice r_i64) x0), (1, fV (Rep.slice r_i64) x1), (6, fV r_i64 s2.2), (7, fV r_i64 0)]) (mkO [(5, arrE 3 r_i64 s2.1)]) F 61 a w := hAt
      refine then_n ?_
      refine wp_seq ?_
      refine reg [⟨fV r_i64 0, [], [], []⟩] [0, 1, 6, 7, 8] [5] hAt
          ⟨ok_assign rfl opdI, trivial⟩ (by kernel_rfl) ?_
      clear hAt
      intro a w hAt
      replace hAt : At B h0 (mkG [(0, fV (Rep.slice r_i64) x0), (1, fV (Rep.slice r_i64) x1), (6, fV r_i64 s2.2), (7, fV r_i64 0), (8, fV r_i64 0)]) (mkO [(5, arrE 3 r_i64 s2.1)]) F 61 a w := hAt
      refine then_n ?_
      refine wp_block ?_
      obtain ⟨o11, hl12, H⟩ := bindE H
      refine wp_mono (wp_loopN (f := f_ref01_times_L1 N x0 x1 s2) (fun (s3 : ((List Int) × Int × Int)) a w => At B h0 (mkG [(0, fV (Rep.slice r_i64) x0), (1, fV (Rep.slice r_i64) x1), (6, fV r_i64 s2.2), (7, fV r_i64 s3.2.1), (8, fV r_i64 s3.2.2)]) (mkO [(5, arrE 3 r_i64 s3.1)]) F 61 a w) (fun o e a w => (fun v => e = .exit 2 ∧ At B h0 (mkG [(0, fV (Rep.slice r_i64) x0), (1, fV (Rep.slice r_i64) x1), (6, fV r_i64 s2.2)]) (mkO [(5, arrE 3 r_i64 v)]) F 61 a w) o) ?_ N (s2.1, 0, 0) o11 _ _ hl12 ?_) ?_
      · clear H hAt hl12
        intro s3 r13 a w H hAt
        unfold f_ref01_times_L1 at H
        refine wp_seq ?_
        refine wp_seq ?_
        refine reg [⟨fV r_i64 s3.2.2, [], [(8, none)], []⟩,
            ⟨fV (Rep.slice r_i64) x1, [], [(1, none)], []⟩,
            ⟨fV r_i64 (List.length x1 : Int), [], [(24, some 1)], []⟩,
            ⟨fV Rep.bool (cmpI .lss s3.2.2 (List.length x1 : Int)), [], [(23, some 0), (25, some 2)], []⟩,
            ⟨fV Rep.bool (cmpI .lss s3.2.2 (List.length x1 : Int)), [], [(26, some 3)], []⟩,
            ⟨Fact.when ((!(cmpI .lss s3.2.2 (List.length x1 : Int))) = true) (fV r_i64 s3.2.1), [], [(27, some 4), (7, none)], []⟩,
            ⟨Fact.when ((!(cmpI .lss s3.2.2 (List.length x1 : Int))) = true) (fV Rep.bool (cmpI .gtr s3.2.1 0)), [], [(27, some 4), (28, some 5)], []⟩,
            ⟨fV Rep.bool ((cmpI .lss s3.2.2 (List.length x1 : Int)) || (cmpI .gtr s3.2.1 0)), [], [(27, some 4), (29, some 6)], []⟩] [0, 1, 6, 7, 8, 30] [5] hAt
            ⟨ok_move rfl opd0,
            ok_move rfl opd0,
            ok_len un209 rfl opd0,
            ok_cmp (op := .lss) (by simp) rfl rfl opd0 opd1,
            ok_move rfl opd0,
            obl_tf rfl rfl rfl rfl rfl rfl rfl (fun hg => ok_move rfl opd1),
            obl_tf rfl rfl rfl rfl rfl rfl rfl (fun hg => ok_cmp (op := .gtr) (by simp) rfl rfl (opd1.on hg) opdI),
            ok_or rfl opd0 (fun e => (opd1.on (notT e))), trivial⟩ (by kernel_rfl) ?_
        clear hAt
        intro a w hAt
        replace hAt : At B h0 (mkG [(0, fV (Rep.slice r_i64) x0), (1, fV (Rep.slice r_i64) x1), (6, fV r_i64 s2.2), (7, fV r_i64 s3.2.1), (8, fV r_i64 s3.2.2), (30, fV Rep.bool ((cmpI .lss s3.2.2 (List.length x1 : Int)) || (cmpI .gtr s3.2.1 0)))]) (mkO [(5, arrE 3 r_i64 s3.1)]) F 61 a w := hAt
        refine then_n ?_
        refine wp_if hAt (by rfl) ?_ ?_
        · intro hb10
          have H := iteT hb10 H
          refine wp_skip ?_
          refine then_n ?_
          refine wp_seq ?_
          refine wp_block ?_
          refine wp_seq ?_
          obtain ⟨v4, hv4, H⟩ := bindE H
          obtain ⟨v5, hv5, H⟩ := bindE H
          obtain ⟨v6, hv6, H⟩ := bindE H
          refine regd [⟨fCp 5, [], [], []⟩,
              ⟨fV r_i64 s2.2, [], [(6, none)], []⟩,
              ⟨fV r_i64 s3.2.2, [], [(8, none)], []⟩,
              ⟨fV r_i64 (IntKind.i64.wrap (s2.2 + s3.2.2)), [], [(34, some 1), (35, some 2)], []⟩,
              ⟨fEl 5 ((Int.toNat (IntKind.i64.wrap (s2.2 + s3.2.2))) * r_i64.sz + 0), [], [(33, some 0), (36, some 3)], [(5, none)]⟩,
              ⟨fV r_i64 v4, [], [(37, some 4)], [(5, none)]⟩,
              ⟨fV (Rep.slice r_i64) x0, [], [(0, none)], []⟩,
              ⟨fV r_i64 s2.2, [], [(6, none)], []⟩,
              ⟨fRef r_i64 v5, [], [(39, some 6), (40, some 7)], []⟩,
              ⟨fV r_i64 v5, [], [(41, some 8)], []⟩,
              ⟨fV (Rep.slice r_i64) x1, [], [(1, none)], []⟩,
              ⟨fV r_i64 s3.2.2, [], [(8, none)], []⟩,
              ⟨fV r_i64 v6, [], [(43, some 10), (44, some 11)], []⟩,
              ⟨fV r_i64 (IntKind.i64.wrap (v5 * v6)), [], [(42, some 9), (45, some 12)], []⟩,
              ⟨fV r_i64 (IntKind.i64.wrap (v4 + (IntKind.i64.wrap (v5 * v6)))), [], [(38, some 5), (46, some 13)], []⟩,
              ⟨fV r_i64 s3.2.1, [], [(7, none)], []⟩,
              ⟨fV r_i64 (IntKind.i64.wrap ((IntKind.i64.wrap (v4 + (IntKind.i64.wrap (v5 * v6)))) + s3.2.1)), [], [(47, some 14), (48, some 15)], []⟩,
              ⟨fV r_i64 (IntKind.i64.wrap ((IntKind.i64.wrap (v4 + (IntKind.i64.wrap (v5 * v6)))) + s3.2.1)), [], [(49, some 16)], []⟩] [0, 1, 2, 3, 4, 5, 6, 7, 8, 9, 10, 11, 12, 13, 14, 15, 16, 17] [0, 1, 2, 3, 4, 5, 6, 7, 8, 9, 10, 11, 12, 13, 14, 15, 16, 17] [0, 1, 6, 8, 9] [5] hAt
              ⟨ok_cp rfl,
              ok_move rfl opd0,
              ok_move rfl opd0,
              ok_add rfl opd0 opd1,
              ok_elArr hv4 ty3 un209 rfl opd0 opd1,
              ok_loadArr (idx_spec hv4).2.2 (Lens.refl _) ty3 rfl opd0,
              ok_move rfl opd0,
              ok_move rfl opd0,
              ok_index ty3 un209 hv5 rfl opd0 opd1,
              ok_load ty3 rfl opd0,
              ok_move rfl opd0,
              ok_move rfl opd0,
              ok_call (ok_f_ref01_digit N x1 s3.2.2 _ hv6) Try.func176 (by kernel_rfl) (by kernel_rfl) rfl ⟨opd0, ⟨opd1, trivial⟩⟩,
              ok_mul rfl opd0 opd1,
              ok_add rfl opd0 opd1,
              ok_move rfl opd0,
              ok_add rfl opd0 opd1,
              ok_assign rfl opd0, trivial⟩ (by kernel_rfl) ?_
          clear hAt
          intro a w hAt
          replace hAt : At B h0 (mkG [(0, fV (Rep.slice r_i64) x0), (1, fV (Rep.slice r_i64) x1), (6, fV r_i64 s2.2), (8, fV r_i64 s3.2.2), (9, fV r_i64 (IntKind.i64.wrap ((IntKind.i64.wrap (v4 + (IntKind.i64.wrap (v5 * v6)))) + s3.2.1)))]) (mkO [(5, arrE 3 r_i64 s3.1)]) F 61 a w := hAt
          refine then_n ?_
          refine wp_seq ?_
          obtain ⟨v7, hv7, H⟩ := bindE H
          obtain ⟨v8, hv8, H⟩ := bindE H
          refine reg [⟨fCp 5, [], [], []⟩,
              ⟨fV r_i64 s2.2, [], [(6, none)], []⟩,
              ⟨fV r_i64 s3.2.2, [], [(8, none)], []⟩,
              ⟨fV r_i64 (IntKind.i64.wrap (s2.2 + s3.2.2)), [], [(51, some 1), (52, some 2)], []⟩,
              ⟨fV r_i64 (IntKind.i64.wrap ((IntKind.i64.wrap (v4 + (IntKind.i64.wrap (v5 * v6)))) + s3.2.1)), [], [(9, none)], []⟩,
              ⟨fV r_i64 v7, [], [(54, some 4)], []⟩,
              ⟨fEl 5 ((Int.toNat (IntKind.i64.wrap (s2.2 + s3.2.2))) * r_i64.sz + 0), [], [(50, some 0), (53, some 3)], [(5, none)]⟩,
              ⟨Fact.triv, [(5, some (arrE 3 r_i64 (List.set s3.1 (Int.toNat (IntKind.i64.wrap (s2.2 + s3.2.2))) v7)))], [(56, some 6), (55, some 5)], [(5, none)]⟩] [0, 1, 6, 8, 9] [5] hAt
              ⟨ok_cp rfl,
              ok_move rfl opd0,
              ok_move rfl opd0,
              ok_add rfl opd0 opd1,
              ok_move rfl opd0,
              ok_rem hv7 rfl opd0 opdI,
              ok_elArr hv8 ty3 un209 rfl opd0 opd1,
              ok_storeArr (idx_spec hv8).2.2 (Lens.refl _) ty3 rfl rfl opd0 opd1 rfl, trivial⟩ (by kernel_rfl) ?_
          clear hAt
          intro a w hAt
          replace hAt : At B h0 (mkG [(0, fV (Rep.slice r_i64) x0), (1, fV (Rep.slice r_i64) x1), (6, fV r_i64 s2.2), (8, fV r_i64 s3.2.2), (9, fV r_i64 (IntKind.i64.wrap ((IntKind.i64.wrap (v4 + (IntKind.i64.wrap (v5 * v6)))) + s3.2.1)))]) (mkO [(5, arrE 3 r_i64 (List.set s3.1 (Int.toNat (IntKind.i64.wrap (s2.2 + s3.2.2))) v7))]) F 61 a w := hAt
          refine then_n ?_
          obtain ⟨v9, hv9, H⟩ := bindE H
          refine reg [⟨fV r_i64 (IntKind.i64.wrap ((IntKind.i64.wrap (v4 + (IntKind.i64.wrap (v5 * v6)))) + s3.2.1)), [], [(9, none)], []⟩,
              ⟨fV r_i64 v9, [], [(57, some 0)], []⟩,
              ⟨fV r_i64 v9, [], [(58, some 1)], []⟩] [0, 1, 6, 7, 8] [5] hAt
              ⟨ok_move rfl opd0,
              ok_quo hv9 rfl opd0 opdI,
              ok_assign rfl opd0, trivial⟩ (by kernel_rfl) ?_
          clear hAt
          intro a w hAt
          replace hAt : At B h0 (mkG [(0, fV (Rep.slice r_i64) x0), (1, fV (Rep.slice r_i64) x1), (6, fV r_i64 s2.2), (7, fV r_i64 v9), (8, fV r_i64 s3.2.2)]) (mkO [(5, arrE 3 r_i64 (List.set s3.1 (Int.toNat (IntKind.i64.wrap (s2.2 + s3.2.2))) v7))]) F 61 a w := hAt
          refine blk_n ?_
          refine then_n ?_
          refine reg [⟨fV r_i64 s3.2.2, [], [(8, none)], []⟩,
              ⟨fV r_i64 (IntKind.i64.wrap (s3.2.2 + 1)), [], [(31, some 0)], []⟩,
              ⟨fV r_i64 (IntKind.i64.wrap (s3.2.2 + 1)), [], [(32, some 1)], []⟩] [0, 1, 6, 7, 8] [5] hAt
              ⟨ok_move rfl opd0,
              ok_add rfl opd0 opdI,
              ok_assign rfl opd0, trivial⟩ (by kernel_rfl) ?_
          clear hAt
          intro a w hAt
          replace hAt : At B h0 (mkG [(0, fV (Rep.slice r_i64) x0), (1, fV (Rep.slice r_i64) x1), (6, fV r_i64 s2.2), (7, fV r_i64 v9), (8, fV r_i64 (IntKind.i64.wrap (s3.2.2 + 1)))]) (mkO [(5, arrE 3 r_i64 (List.set s3.1 (Int.toNat (IntKind.i64.wrap (s2.2 + s3.2.2))) v7))]) F 61 a w := hAt
          cases H
          exact ⟨rfl, hAt.pick [0, 1, 6, 7, 8] [5]⟩
        · intro hb10
          have H := iteF hb10 H
          refine wp_exit ?_
          refine then_x ?_
          cases H
          exact ⟨ex_ne, rfl, hAt.pick [0, 1, 6] [5]⟩
      · exact hAt.pick [0, 1, 6, 7, 8] [5]
      · clear hAt
        intro e a w hp
        obtain ⟨rfl, hAt⟩ := hp
        refine blk_eq ?_
        refine blk_n ?_
        refine then_n ?_
        refine reg [⟨fV r_i64 s2.2, [], [(6, none)], []⟩,
            ⟨fV r_i64 (IntKind.i64.wrap (s2.2 + 1)), [], [(21, some 0)], []⟩,
            ⟨fV r_i64 (IntKind.i64.wrap (s2.2 + 1)), [], [(22, some 1)], []⟩] [0, 1, 6] [5] hAt
            ⟨ok_move rfl opd0,
            ok_add rfl opd0 opdI,
            ok_assign rfl opd0, trivial⟩ (by kernel_rfl) ?_
        clear hAt
        intro a w hAt
        replace hAt : At B h0 (mkG [(0, fV (Rep.slice r_i64) x0), (1, fV (Rep.slice r_i64) x1), (6, fV r_i64 (IntKind.i64.wrap (s2.2 + 1)))]) (mkO [(5, arrE 3 r_i64 o11)]) F 61 a w := hAt
        cases H
        exact ⟨rfl, hAt.pick [0, 1, 6] [5]⟩
    · intro hb14
      have H := iteF hb14 H
      refine wp_exit ?_
      refine then_x ?_
      cases H
      exact ⟨ex_ne, rfl, hAt.pick [] [5]⟩
  · exact hAt.pick [0, 1, 6] [5]
  · clear hAt
    intro e a w hp
    obtain ⟨rfl, hAt⟩ := hp
    refine blk_eq ?_
    refine then_n ?_
    refine wp_seq ?_
    have hAt := At.freeze 5 hAt rfl
    replace hAt := hAt.pick [5] []
    replace hAt : At B h0 (mkG [(5, fV (Rep.slice r_i64) o15)]) (mkO []) F 61 a w := hAt
    obtain ⟨v17, hv17, H⟩ := bindE H
    refine reg [⟨fV (Rep.slice r_i64) o15, [], [(5, none)], []⟩,
        ⟨fV (Rep.slice r_i64) v17, [], [(59, some 0)], []⟩,
        ⟨fV (Rep.slice r_i64) v17, [], [(60, some 1)], []⟩] [4] [] hAt
        ⟨ok_move rfl opd0,
        ok_call (ok_f_ref01_trim N o15 _ hv17) Try.func175 (by kernel_rfl) (by kernel_rfl) rfl ⟨opd0, trivial⟩,
        ok_assign rfl opd0, trivial⟩ (by kernel_rfl) ?_
    clear hAt
    intro a w hAt
    replace hAt : At B h0 (mkG [(4, fV (Rep.slice r_i64) v17)]) (mkO []) F 61 a w := hAt
    refine then_n ?_
    refine wp_ret ?_
    cases H
    exact ret1 rfl (rv_tmp rfl rfl) hAt
theorem ok_f_ref01_compare (N : Nat) (x0 : (List Int)) (x1 : (List Int)) (r : Int) (H : f_ref01_compare N x0 x1 = some r) : FnOk Try.prog 160 [fV (Rep.slice r_i64) x0, fV (Rep.slice r_i64) x1] (fV r_i64 r) := by
  unfold f_ref01_compare at H
  refine fn_enter Try.func160 rfl rfl (by kernel_rfl) ?_
  intro κ B h0 F a w hAt
  refine wp_seq ?_
  refine reg [⟨fV r_i64 0, [], [], []⟩] [0, 1] [] hAt
      ⟨ok_assign rfl opdI, trivial⟩ (by kernel_rfl) ?_
  clear hAt
  intro a w hAt
  replace hAt : At B h0 (mkG [(0, fV (Rep.slice r_i64) x0), (1, fV (Rep.slice r_i64) x1)]) (mkO []) F 41 a w := hAt
  refine then_n ?_
  refine wp_seq ?_
  refine wp_seq ?_
  refine reg [⟨fV (Rep.slice r_i64) x0, [], [(0, none)], []⟩,
      ⟨fV r_i64 (List.length x0 : Int), [], [(6, some 0)], []⟩,
      ⟨fV (Rep.slice r_i64) x1, [], [(1, none)], []⟩,
      ⟨fV r_i64 (List.length x1 : Int), [], [(8, some 2)], []⟩,
      ⟨fV Rep.bool (cmpI .neq (List.length x0 : Int) (List.length x1 : Int)), [], [(7, some 1), (9, some 3)], []⟩] [0, 1, 10] [] hAt
      ⟨ok_move rfl opd0,
      ok_len un209 rfl opd0,
      ok_move rfl opd0,
      ok_len un209 rfl opd0,
      ok_cmp (op := .neq) (by simp) rfl rfl opd0 opd1, trivial⟩ (by kernel_rfl) ?_
  clear hAt
  intro a w hAt
  replace hAt : At B h0 (mkG [(0, fV (Rep.slice r_i64) x0), (1, fV (Rep.slice r_i64) x1), (10, fV Rep.bool (cmpI .neq (List.length x0 : Int) (List.length x1 : Int)))]) (mkO []) F 41 a w := hAt
  refine then_n ?_
  refine wp_if hAt (by rfl) ?_ ?_
  · intro hb13
    have H := iteT hb13 H
    refine wp_seq ?_
    refine reg [⟨fV (Rep.slice r_i64) x0, [], [(0, none)], []⟩,
        ⟨fV r_i64 (List.length x0 : Int), [], [(11, some 0)], []⟩,
        ⟨fV (Rep.slice r_i64) x1, [], [(1, none)], []⟩,
        ⟨fV r_i64 (List.length x1 : Int), [], [(13, some 2)], []⟩,
        ⟨fV r_i64 (IntKind.i64.wrap ((List.length x0 : Int) - (List.length x1 : Int))), [], [(12, some 1), (14, some 3)], []⟩,
        ⟨fV r_i64 (IntKind.i64.wrap ((List.length x0 : Int) - (List.length x1 : Int))), [], [(15, some 4)], []⟩] [4] [] hAt
        ⟨ok_move rfl opd0,
        ok_len un209 rfl opd0,
        ok_move rfl opd0,
        ok_len un209 rfl opd0,
        ok_sub rfl opd0 opd1,
        ok_assign rfl opd0, trivial⟩ (by kernel_rfl) ?_
    clear hAt
    intro a w hAt
    replace hAt : At B h0 (mkG [(4, fV r_i64 (IntKind.i64.wrap ((List.length x0 : Int) - (List.length x1 : Int))))]) (mkO []) F 41 a w := hAt
    refine then_n ?_
    refine wp_ret ?_
    refine then_r ?_
    cases H
    exact ret1 rfl (rv_tmp rfl rfl) hAt
  · intro hb13
    have H := iteF hb13 H
    refine wp_skip ?_
    refine then_n ?_
    refine wp_seq ?_
    refine wp_seq ?_
    refine reg [⟨fV (Rep.slice r_i64) x0, [], [(0, none)], []⟩,
        ⟨fV r_i64 (List.length x0 : Int), [], [(16, some 0)], []⟩,
        ⟨fV r_i64 (IntKind.i64.wrap ((List.length x0 : Int) - 1)), [], [(17, some 1)], []⟩,
        ⟨fV r_i64 (IntKind.i64.wrap ((List.length x0 : Int) - 1)), [], [(18, some 2)], []⟩] [0, 1, 5] [] hAt
        ⟨ok_move rfl opd0,
        ok_len un209 rfl opd0,
        ok_sub rfl opd0 opdI,
        ok_assign rfl opd0, trivial⟩ (by kernel_rfl) ?_
    clear hAt
    intro a w hAt
    replace hAt : At B h0 (mkG [(0, fV (Rep.slice r_i64) x0), (1, fV (Rep.slice r_i64) x1), (5, fV r_i64 (IntKind.i64.wrap ((List.length x0 : Int) - 1)))]) (mkO []) F 41 a w := hAt
    refine then_n ?_
    refine wp_block ?_
    obtain ⟨o8, hl9, H⟩ := bindE H
    refine wp_mono (wp_loopN (f := f_ref01_compare_L1 N x0 x1) (fun (s1 : Int) a w => At B h0 (mkG [(0, fV (Rep.slice r_i64) x0), (1, fV (Rep.slice r_i64) x1), (5, fV r_i64 s1)]) (mkO []) F 41 a w) (fun o e a w => (Sum.elim (fun v => e = .exit 0 ∧ At B h0 (mkG []) (mkO []) F 41 a w) (fun v => e = .ret ∧ At B h0 (mkG [(4, fV r_i64 v)]) (mkO []) F 41 a w)) o) ?_ N (IntKind.i64.wrap ((List.length x0 : Int) - 1)) o8 _ _ hl9 ?_) ?_
    · clear H hAt hl9
      intro s1 r12 a w H hAt
      unfold f_ref01_compare_L1 at H
      refine wp_seq ?_
      refine wp_seq ?_
      refine reg [⟨fV r_i64 s1, [], [(5, none)], []⟩,
          ⟨fV Rep.bool (cmpI .geq s1 0), [], [(19, some 0)], []⟩] [0, 1, 5, 20] [] hAt
          ⟨ok_move rfl opd0,
          ok_cmp (op := .geq) (by simp) rfl rfl opd0 opdI, trivial⟩ (by kernel_rfl) ?_
      clear hAt
      intro a w hAt
      replace hAt : At B h0 (mkG [(0, fV (Rep.slice r_i64) x0), (1, fV (Rep.slice r_i64) x1), (5, fV r_i64 s1), (20, fV Rep.bool (cmpI .geq s1 0))]) (mkO []) F 41 a w := hAt
      refine then_n ?_
      refine wp_if hAt (by rfl) ?_ ?_
      · intro hb7
        have H := iteT hb7 H
        refine wp_skip ?_
        refine then_n ?_
        refine wp_seq ?_
        refine wp_block ?_
        refine wp_seq ?_
        obtain ⟨v2, hv2, H⟩ := bindE H
        obtain ⟨v3, hv3, H⟩ := bindE H
        refine regd [⟨fV (Rep.slice r_i64) x0, [], [(0, none)], []⟩,
            ⟨fV r_i64 s1, [], [(5, none)], []⟩,
            ⟨fRef r_i64 v2, [], [(23, some 0), (24, some 1)], []⟩,
            ⟨fV r_i64 v2, [], [(25, some 2)], []⟩,
            ⟨fV (Rep.slice r_i64) x1, [], [(1, none)], []⟩,
            ⟨fV r_i64 s1, [], [(5, none)], []⟩,
            ⟨fRef r_i64 v3, [], [(27, some 4), (28, some 5)], []⟩,
            ⟨fV r_i64 v3, [], [(29, some 6)], []⟩,
            ⟨fV Rep.bool (cmpI .neq v2 v3), [], [(26, some 3), (30, some 7)], []⟩] [0, 1, 2, 3, 4, 5, 6, 7, 8] [0, 1, 2, 3, 4, 5, 6, 7, 8] [0, 1, 5, 31] [] hAt
            ⟨ok_move rfl opd0,
            ok_move rfl opd0,
            ok_index ty3 un209 hv2 rfl opd0 opd1,
            ok_load ty3 rfl opd0,
            ok_move rfl opd0,
            ok_move rfl opd0,
            ok_index ty3 un209 hv3 rfl opd0 opd1,
            ok_load ty3 rfl opd0,
            ok_cmp (op := .neq) (by simp) rfl rfl opd0 opd1, trivial⟩ (by kernel_rfl) ?_
        clear hAt
        intro a w hAt
        replace hAt : At B h0 (mkG [(0, fV (Rep.slice r_i64) x0), (1, fV (Rep.slice r_i64) x1), (5, fV r_i64 s1), (31, fV Rep.bool (cmpI .neq v2 v3))]) (mkO []) F 41 a w := hAt
        refine then_n ?_
        refine wp_if hAt (by rfl) ?_ ?_
        · intro hb6
          have H := iteT hb6 H
          refine wp_seq ?_
          obtain ⟨v4, hv4, H⟩ := bindE H
          obtain ⟨v5, hv5, H⟩ := bindE H
          refine regd [⟨fV (Rep.slice r_i64) x0, [], [(0, none)], []⟩,
              ⟨fV r_i64 s1, [], [(5, none)], []⟩,
              ⟨fRef r_i64 v4, [], [(32, some 0), (33, some 1)], []⟩,
              ⟨fV r_i64 v4, [], [(34, some 2)], []⟩,
              ⟨fV (Rep.slice r_i64) x1, [], [(1, none)], []⟩,
              ⟨fV r_i64 s1, [], [(5, none)], []⟩,
              ⟨fRef r_i64 v5, [], [(36, some 4), (37, some 5)], []⟩,
              ⟨fV r_i64 v5, [], [(38, some 6)], []⟩,
              ⟨fV r_i64 (IntKind.i64.wrap (v4 - v5)), [], [(35, some 3), (39, some 7)], []⟩,
              ⟨fV r_i64 (IntKind.i64.wrap (v4 - v5)), [], [(40, some 8)], []⟩] [0, 1, 2, 3, 4, 5, 6, 7, 8, 9] [0, 1, 2, 3, 4, 5, 6, 7, 8, 9] [4] [] hAt
              ⟨ok_move rfl opd0,
              ok_move rfl opd0,
              ok_index ty3 un209 hv4 rfl opd0 opd1,
              ok_load ty3 rfl opd0,
              ok_move rfl opd0,
              ok_move rfl opd0,
              ok_index ty3 un209 hv5 rfl opd0 opd1,
              ok_load ty3 rfl opd0,
              ok_sub rfl opd0 opd1,
              ok_assign rfl opd0, trivial⟩ (by kernel_rfl) ?_
          clear hAt
          intro a w hAt
          replace hAt : At B h0 (mkG [(4, fV r_i64 (IntKind.i64.wrap (v4 - v5)))]) (mkO []) F 41 a w := hAt
          refine then_n ?_
          refine wp_ret ?_
          refine blk_r ?_
          refine then_r ?_
          cases H
          exact ⟨ret_ne, rfl, hAt.pick [4] []⟩
        · intro hb6
          have H := iteF hb6 H
          refine wp_skip ?_
          refine blk_n ?_
          refine then_n ?_
          refine reg [⟨fV r_i64 s1, [], [(5, none)], []⟩,
              ⟨fV r_i64 (IntKind.i64.wrap (s1 - 1)), [], [(21, some 0)], []⟩,
              ⟨fV r_i64 (IntKind.i64.wrap (s1 - 1)), [], [(22, some 1)], []⟩] [0, 1, 5] [] hAt
              ⟨ok_move rfl opd0,
              ok_sub rfl opd0 opdI,
              ok_assign rfl opd0, trivial⟩ (by kernel_rfl) ?_
          clear hAt
          intro a w hAt
          replace hAt : At B h0 (mkG [(0, fV (Rep.slice r_i64) x0), (1, fV (Rep.slice r_i64) x1), (5, fV r_i64 (IntKind.i64.wrap (s1 - 1)))]) (mkO []) F 41 a w := hAt
          cases H
          exact ⟨rfl, hAt.pick [0, 1, 5] []⟩
      · intro hb7
        have H := iteF hb7 H
        refine wp_exit ?_
        refine then_x ?_
        cases H
        exact ⟨ex_ne, rfl, hAt.pick [] []⟩
    · exact hAt.pick [0, 1, 5] []
    · clear hAt
      intro e a w hp
      cases o8 with
      | inl l10 =>
        rw [Sum.elim_inl] at H
        obtain ⟨rfl, hAt⟩ := hp
        refine blk_eq ?_
        refine then_n ?_
        refine wp_seq ?_
        refine reg [⟨fV r_i64 0, [], [], []⟩] [4] [] hAt
            ⟨ok_assign rfl opdI, trivial⟩ (by kernel_rfl) ?_
        clear hAt
        intro a w hAt
        replace hAt : At B h0 (mkG [(4, fV r_i64 0)]) (mkO []) F 41 a w := hAt
        refine then_n ?_
        refine wp_ret ?_
        cases H
        exact ret1 rfl (rv_tmp rfl rfl) hAt
      | inr r11 =>
        rw [Sum.elim_inr] at H
        replace hp := hp
        obtain ⟨rfl, hAt⟩ := hp
        refine blk_r ?_
        refine then_r ?_
        cases H
        exact ret1 rfl (rv_tmp rfl rfl) hAt
theorem ok_f_ref01_minus (N : Nat) (x0 : (List Int)) (x1 : (List Int)) (r : (List Int)) (H : f_ref01_minus N x0 x1 = some r) : FnOk Try.prog 161 [fV (Rep.slice r_i64) x0, fV (Rep.slice r_i64) x1] (fV (Rep.slice r_i64) r) := by
  unfold f_ref01_minus at H
  refine fn_enter Try.func161 rfl rfl (by kernel_rfl) ?_
  intro κ B h0 F a w hAt
  refine wp_seq ?_
  refine reg [⟨fV (Rep.slice r_i64) [], [(4, some (tipE 3 r_i64.sz))], [], []⟩] [0, 1] [] hAt
      ⟨ok_nilTip rfl (.inl rfl), trivial⟩ (by kernel_rfl) ?_
  clear hAt
  intro a w hAt
  replace hAt : At B h0 (mkG [(0, fV (Rep.slice r_i64) x0), (1, fV (Rep.slice r_i64) x1)]) (mkO []) F 35 a w := hAt
  refine then_n ?_
  refine wp_seq ?_
  refine reg [⟨fV (Rep.slice r_i64) [], [(5, some (tipE 3 r_i64.sz))], [], []⟩] [0, 1, 5] [5] hAt
      ⟨ok_nilTip rfl (.inl rfl), trivial⟩ (by kernel_rfl) ?_
  clear hAt
  intro a w hAt
  replace hAt : At B h0 (mkG [(0, fV (Rep.slice r_i64) x0), (1, fV (Rep.slice r_i64) x1), (5, fV (Rep.slice r_i64) [])]) (mkO [(5, tipE 3 r_i64.sz)]) F 35 a w := hAt
  refine then_n ?_
  refine wp_seq ?_
  refine reg [⟨fV r_i64 0, [], [], []⟩] [0, 1, 5, 6] [5] hAt
      ⟨ok_assign rfl opdI, trivial⟩ (by kernel_rfl) ?_
  clear hAt
  intro a w hAt
  replace hAt : At B h0 (mkG [(0, fV (Rep.slice r_i64) x0), (1, fV (Rep.slice r_i64) x1), (5, fV (Rep.slice r_i64) []), (6, fV r_i64 0)]) (mkO [(5, tipE 3 r_i64.sz)]) F 35 a w := hAt
  refine then_n ?_
  refine wp_seq ?_
  refine wp_seq ?_
  refine reg [⟨fV r_i64 0, [], [], []⟩] [0, 1, 5, 6, 7] [5] hAt
      ⟨ok_assign rfl opdI, trivial⟩ (by kernel_rfl) ?_
  clear hAt
  intro a w hAt
  replace hAt : At B h0 (mkG [(0, fV (Rep.slice r_i64) x0), (1, fV (Rep.slice r_i64) x1), (5, fV (Rep.slice r_i64) []), (6, fV r_i64 0), (7, fV r_i64 0)]) (mkO [(5, tipE 3 r_i64.sz)]) F 35 a w := hAt
  refine then_n ?_
  refine wp_block ?_
  obtain ⟨o8, hl9, H⟩ := bindE H
  refine wp_mono (wp_loopN (f := f_ref01_minus_L1 N x0 x1) (fun (s1 : ((List Int) × Int × Int)) a w => At B h0 (mkG [(0, fV (Rep.slice r_i64) x0), (1, fV (Rep.slice r_i64) x1), (5, fV (Rep.slice r_i64) s1.1), (6, fV r_i64 s1.2.1), (7, fV r_i64 s1.2.2)]) (mkO [(5, tipE 3 r_i64.sz)]) F 35 a w) (fun o e a w => (fun v => e = .exit 0 ∧ At B h0 (mkG [(5, fV (Rep.slice r_i64) v)]) (mkO [(5, tipE 3 r_i64.sz)]) F 35 a w) o) ?_ N ([], 0, 0) o8 _ _ hl9 ?_) ?_
  · clear H hAt hl9
    intro s1 r11 a w H hAt
    unfold f_ref01_minus_L1 at H
    refine wp_seq ?_
    refine wp_seq ?_
    refine reg [⟨fV r_i64 s1.2.2, [], [(7, none)], []⟩,
        ⟨fV (Rep.slice r_i64) x0, [], [(0, none)], []⟩,
        ⟨fV r_i64 (List.length x0 : Int), [], [(10, some 1)], []⟩,
        ⟨fV Rep.bool (cmpI .lss s1.2.2 (List.length x0 : Int)), [], [(9, some 0), (11, some 2)], []⟩] [0, 1, 5, 6, 7, 12] [5] hAt
        ⟨ok_move rfl opd0,
        ok_move rfl opd0,
        ok_len un209 rfl opd0,
        ok_cmp (op := .lss) (by simp) rfl rfl opd0 opd1, trivial⟩ (by kernel_rfl) ?_
    clear hAt
    intro a w hAt
    replace hAt : At B h0 (mkG [(0, fV (Rep.slice r_i64) x0), (1, fV (Rep.slice r_i64) x1), (5, fV (Rep.slice r_i64) s1.1), (6, fV r_i64 s1.2.1), (7, fV r_i64 s1.2.2), (12, fV Rep.bool (cmpI .lss s1.2.2 (List.length x0 : Int)))]) (mkO [(5, tipE 3 r_i64.sz)]) F 35 a w := hAt
    refine then_n ?_
    refine wp_if hAt (by rfl) ?_ ?_
    · intro hb7
      have H := iteT hb7 H
      refine wp_skip ?_
      refine then_n ?_
      refine wp_seq ?_
      refine wp_block ?_
      refine wp_seq ?_
      obtain ⟨v2, hv2, H⟩ := bindE H
      obtain ⟨v3, hv3, H⟩ := bindE H
      refine regd [⟨fV (Rep.slice r_i64) x0, [], [(0, none)], []⟩,
          ⟨fV r_i64 s1.2.2, [], [(7, none)], []⟩,
          ⟨fRef r_i64 v2, [], [(15, some 0), (16, some 1)], []⟩,
          ⟨fV r_i64 v2, [], [(17, some 2)], []⟩,
          ⟨fV (Rep.slice r_i64) x1, [], [(1, none)], []⟩,
          ⟨fV r_i64 s1.2.2, [], [(7, none)], []⟩,
          ⟨fV r_i64 v3, [], [(19, some 4), (20, some 5)], []⟩,
          ⟨fV r_i64 (IntKind.i64.wrap (v2 - v3)), [], [(18, some 3), (21, some 6)], []⟩,
          ⟨fV r_i64 s1.2.1, [], [(6, none)], []⟩,
          ⟨fV r_i64 (IntKind.i64.wrap ((IntKind.i64.wrap (v2 - v3)) - s1.2.1)), [], [(22, some 7), (23, some 8)], []⟩,
          ⟨fV r_i64 (IntKind.i64.wrap ((IntKind.i64.wrap (v2 - v3)) - s1.2.1)), [], [(24, some 9)], []⟩] [0, 1, 2, 3, 4, 5, 6, 7, 8, 9, 10] [0, 1, 2, 3, 4, 5, 6, 7, 8, 9, 10] [0, 1, 5, 7, 8] [5] hAt
          ⟨ok_move rfl opd0,
          ok_move rfl opd0,
          ok_index ty3 un209 hv2 rfl opd0 opd1,
          ok_load ty3 rfl opd0,
          ok_move rfl opd0,
          ok_move rfl opd0,
          ok_call (ok_f_ref01_digit N x1 s1.2.2 _ hv3) Try.func176 (by kernel_rfl) (by kernel_rfl) rfl ⟨opd0, ⟨opd1, trivial⟩⟩,
          ok_sub rfl opd0 opd1,
          ok_move rfl opd0,
          ok_sub rfl opd0 opd1,
          ok_assign rfl opd0, trivial⟩ (by kernel_rfl) ?_
      clear hAt
      intro a w hAt
      replace hAt : At B h0 (mkG [(0, fV (Rep.slice r_i64) x0), (1, fV (Rep.slice r_i64) x1), (5, fV (Rep.slice r_i64) s1.1), (7, fV r_i64 s1.2.2), (8, fV r_i64 (IntKind.i64.wrap ((IntKind.i64.wrap (v2 - v3)) - s1.2.1)))]) (mkO [(5, tipE 3 r_i64.sz)]) F 35 a w := hAt
      refine then_n ?_
      refine wp_seq ?_
      refine reg [⟨fV r_i64 0, [], [], []⟩] [0, 1, 5, 6, 7, 8] [5] hAt
          ⟨ok_assign rfl opdI, trivial⟩ (by kernel_rfl) ?_
      clear hAt
      intro a w hAt
      replace hAt : At B h0 (mkG [(0, fV (Rep.slice r_i64) x0), (1, fV (Rep.slice r_i64) x1), (5, fV (Rep.slice r_i64) s1.1), (6, fV r_i64 0), (7, fV r_i64 s1.2.2), (8, fV r_i64 (IntKind.i64.wrap ((IntKind.i64.wrap (v2 - v3)) - s1.2.1)))]) (mkO [(5, tipE 3 r_i64.sz)]) F 35 a w := hAt
      refine then_n ?_
      refine wp_seq ?_
      refine wp_seq ?_
      refine reg [⟨fV r_i64 (IntKind.i64.wrap ((IntKind.i64.wrap (v2 - v3)) - s1.2.1)), [], [(8, none)], []⟩,
          ⟨fV Rep.bool (cmpI .lss (IntKind.i64.wrap ((IntKind.i64.wrap (v2 - v3)) - s1.2.1)) 0), [], [(25, some 0)], []⟩] [0, 1, 5, 6, 7, 8, 26] [5] hAt
          ⟨ok_move rfl opd0,
          ok_cmp (op := .lss) (by simp) rfl rfl opd0 opdI, trivial⟩ (by kernel_rfl) ?_
      clear hAt
      intro a w hAt
      replace hAt : At B h0 (mkG [(0, fV (Rep.slice r_i64) x0), (1, fV (Rep.slice r_i64) x1), (5, fV (Rep.slice r_i64) s1.1), (6, fV r_i64 0), (7, fV r_i64 s1.2.2), (8, fV r_i64 (IntKind.i64.wrap ((IntKind.i64.wrap (v2 - v3)) - s1.2.1))), (26, fV Rep.bool (cmpI .lss (IntKind.i64.wrap ((IntKind.i64.wrap (v2 - v3)) - s1.2.1)) 0))]) (mkO [(5, tipE 3 r_i64.sz)]) F 35 a w := hAt
      refine then_n ?_
      refine wp_if hAt (by rfl) ?_ ?_
      · intro hb6
        have H := iteT hb6 H
        refine wp_seq ?_
        refine reg [⟨fV r_i64 (IntKind.i64.wrap ((IntKind.i64.wrap (v2 - v3)) - s1.2.1)), [], [(8, none)], []⟩,
            ⟨fV r_i64 (IntKind.i64.wrap ((IntKind.i64.wrap ((IntKind.i64.wrap (v2 - v3)) - s1.2.1)) + 65536)), [], [(27, some 0)], []⟩,
            ⟨fV r_i64 (IntKind.i64.wrap ((IntKind.i64.wrap ((IntKind.i64.wrap (v2 - v3)) - s1.2.1)) + 65536)), [], [(28, some 1)], []⟩] [0, 1, 5, 7, 8] [5] hAt
            ⟨ok_move rfl opd0,
            ok_add rfl opd0 opdI,
            ok_assign rfl opd0, trivial⟩ (by kernel_rfl) ?_
        clear hAt
        intro a w hAt
        replace hAt : At B h0 (mkG [(0, fV (Rep.slice r_i64) x0), (1, fV (Rep.slice r_i64) x1), (5, fV (Rep.slice r_i64) s1.1), (7, fV r_i64 s1.2.2), (8, fV r_i64 (IntKind.i64.wrap ((IntKind.i64.wrap ((IntKind.i64.wrap (v2 - v3)) - s1.2.1)) + 65536)))]) (mkO [(5, tipE 3 r_i64.sz)]) F 35 a w := hAt
        refine then_n ?_
        refine reg [⟨fV r_i64 1, [], [], []⟩] [0, 1, 5, 6, 7, 8] [5] hAt
            ⟨ok_assign rfl opdI, trivial⟩ (by kernel_rfl) ?_
        clear hAt
        intro a w hAt
        replace hAt : At B h0 (mkG [(0, fV (Rep.slice r_i64) x0), (1, fV (Rep.slice r_i64) x1), (5, fV (Rep.slice r_i64) s1.1), (6, fV r_i64 1), (7, fV r_i64 s1.2.2), (8, fV r_i64 (IntKind.i64.wrap ((IntKind.i64.wrap ((IntKind.i64.wrap (v2 - v3)) - s1.2.1)) + 65536)))]) (mkO [(5, tipE 3 r_i64.sz)]) F 35 a w := hAt
        refine then_n ?_
        obtain ⟨v4, hv4, H⟩ := bindE H
        refine reg [⟨fV (Rep.slice r_i64) s1.1, [(5, none), (29, some (tipE 3 r_i64.sz))], [(5, none)], [(5, none)]⟩,
            ⟨fV r_i64 (IntKind.i64.wrap ((IntKind.i64.wrap ((IntKind.i64.wrap (v2 - v3)) - s1.2.1)) + 65536)), [], [(8, none)], []⟩,
            ⟨fV (Rep.slice r_i64) [(IntKind.i64.wrap ((IntKind.i64.wrap ((IntKind.i64.wrap (v2 - v3)) - s1.2.1)) + 65536))], [], [(30, some 1)], []⟩,
            ⟨fV (Rep.slice r_i64) v4, [(29, none), (32, some (tipE 3 r_i64.sz))], [(29, some 0), (31, some 2)], [(29, some 0)]⟩,
            ⟨fV (Rep.slice r_i64) v4, [(32, none), (5, some (tipE 3 r_i64.sz))], [(32, some 3)], [(32, some 3)]⟩] [0, 1, 5, 6, 7] [5] hAt
            ⟨ok_moveOwn rfl rfl (.inl rfl) opd0,
            ok_move rfl opd0,
            ok_buildSlice ty3 un209 rfl rfl (fillC (Lens.arr _ _ 0 (by decide)) rfl opd0 fillN),
            ok_append hv4 el3 un209 rfl rfl rfl opd0 opd1,
            ok_moveOwn rfl rfl (.inr rfl) opd0, trivial⟩ (by kernel_rfl) ?_
        clear hAt
        intro a w hAt
        replace hAt : At B h0 (mkG [(0, fV (Rep.slice r_i64) x0), (1, fV (Rep.slice r_i64) x1), (5, fV (Rep.slice r_i64) v4), (6, fV r_i64 1), (7, fV r_i64 s1.2.2)]) (mkO [(5, tipE 3 r_i64.sz)]) F 35 a w := hAt
        refine blk_n ?_
        refine then_n ?_
        refine reg [⟨fV r_i64 s1.2.2, [], [(7, none)], []⟩,
            ⟨fV r_i64 (IntKind.i64.wrap (s1.2.2 + 1)), [], [(13, some 0)], []⟩,
            ⟨fV r_i64 (IntKind.i64.wrap (s1.2.2 + 1)), [], [(14, some 1)], []⟩] [0, 1, 5, 6, 7] [5] hAt
            ⟨ok_move rfl opd0,
            ok_add rfl opd0 opdI,
            ok_assign rfl opd0, trivial⟩ (by kernel_rfl) ?_
        clear hAt
        intro a w hAt
        replace hAt : At B h0 (mkG [(0, fV (Rep.slice r_i64) x0), (1, fV (Rep.slice r_i64) x1), (5, fV (Rep.slice r_i64) v4), (6, fV r_i64 1), (7, fV r_i64 (IntKind.i64.wrap (s1.2.2 + 1)))]) (mkO [(5, tipE 3 r_i64.sz)]) F 35 a w := hAt
        cases H
        exact ⟨rfl, hAt.pick [0, 1, 5, 6, 7] [5]⟩
      · intro hb6
        have H := iteF hb6 H
        refine wp_skip ?_
        refine then_n ?_
        obtain ⟨v5, hv5, H⟩ := bindE H
        refine reg [⟨fV (Rep.slice r_i64) s1.1, [(5, none), (29, some (tipE 3 r_i64.sz))], [(5, none)], [(5, none)]⟩,
            ⟨fV r_i64 (IntKind.i64.wrap ((IntKind.i64.wrap (v2 - v3)) - s1.2.1)), [], [(8, none)], []⟩,
            ⟨fV (Rep.slice r_i64) [(IntKind.i64.wrap ((IntKind.i64.wrap (v2 - v3)) - s1.2.1))], [], [(30, some 1)], []⟩,
            ⟨fV (Rep.slice r_i64) v5, [(29, none), (32, some (tipE 3 r_i64.sz))], [(29, some 0), (31, some 2)], [(29, some 0)]⟩,
            ⟨fV (Rep.slice r_i64) v5, [(32, none), (5, some (tipE 3 r_i64.sz))], [(32, some 3)], [(32, some 3)]⟩] [0, 1, 5, 6, 7] [5] hAt
            ⟨ok_moveOwn rfl rfl (.inl rfl) opd0,
            ok_move rfl opd0,
            ok_buildSlice ty3 un209 rfl rfl (fillC (Lens.arr _ _ 0 (by decide)) rfl opd0 fillN),
            ok_append hv5 el3 un209 rfl rfl rfl opd0 opd1,
            ok_moveOwn rfl rfl (.inr rfl) opd0, trivial⟩ (by kernel_rfl) ?_
        clear hAt
        intro a w hAt
        replace hAt : At B h0 (mkG [(0, fV (Rep.slice r_i64) x0), (1, fV (Rep.slice r_i64) x1), (5, fV (Rep.slice r_i64) v5), (6, fV r_i64 0), (7, fV r_i64 s1.2.2)]) (mkO [(5, tipE 3 r_i64.sz)]) F 35 a w := hAt
        refine blk_n ?_
        refine then_n ?_
        refine reg [⟨fV r_i64 s1.2.2, [], [(7, none)], []⟩,
            ⟨fV r_i64 (IntKind.i64.wrap (s1.2.2 + 1)), [], [(13, some 0)], []⟩,
            ⟨fV r_i64 (IntKind.i64.wrap (s1.2.2 + 1)), [], [(14, some 1)], []⟩] [0, 1, 5, 6, 7] [5] hAt
            ⟨ok_move rfl opd0,
            ok_add rfl opd0 opdI,
            ok_assign rfl opd0, trivial⟩ (by kernel_rfl) ?_
        clear hAt
        intro a w hAt
        replace hAt : At B h0 (mkG [(0, fV (Rep.slice r_i64) x0), (1, fV (Rep.slice r_i64) x1), (5, fV (Rep.slice r_i64) v5), (6, fV r_i64 0), (7, fV r_i64 (IntKind.i64.wrap (s1.2.2 + 1)))]) (mkO [(5, tipE 3 r_i64.sz)]) F 35 a w := hAt
        cases H
        exact ⟨rfl, hAt.pick [0, 1, 5, 6, 7] [5]⟩
    · intro hb7
      have H := iteF hb7 H
      refine wp_exit ?_
      refine then_x ?_
      cases H
      exact ⟨ex_ne, rfl, hAt.pick [5] [5]⟩
  · exact hAt.pick [0, 1, 5, 6, 7] [5]
  · clear hAt
    intro e a w hp
    obtain ⟨rfl, hAt⟩ := hp
    refine blk_eq ?_
    refine then_n ?_
    refine wp_seq ?_
    obtain ⟨v10, hv10, H⟩ := bindE H
    refine reg [⟨fV (Rep.slice r_i64) o8, [], [(5, none)], []⟩,
        ⟨fV (Rep.slice r_i64) v10, [], [(33, some 0)], []⟩,
        ⟨fV (Rep.slice r_i64) v10, [], [(34, some 1)], []⟩] [4] [] hAt
        ⟨ok_move rfl opd0,
        ok_call (ok_f_ref01_trim N o8 _ hv10) Try.func175 (by kernel_rfl) (by kernel_rfl) rfl ⟨opd0, trivial⟩,
        ok_assign rfl opd0, trivial⟩ (by kernel_rfl) ?_
    clear hAt
    intro a w hAt
    replace hAt : At B h0 (mkG [(4, fV (Rep.slice r_i64) v10)]) (mkO []) F 35 a w := hAt
    refine then_n ?_
    refine wp_ret ?_
    cases H
    exact ret1 rfl (rv_tmp rfl rfl) hAt
theorem ok_f_ref01_over (N : Nat) (x0 : (List Int)) (x1 : (List Int)) (r : (List Int) × (List Int)) (H : f_ref01_over N x0 x1 = some r) : FnOk Try.prog 157 [fV (Rep.slice r_i64) x0, fV (Rep.slice r_i64) x1] (fT2 (fV (Rep.slice r_i64) (r.1)) (fV (Rep.slice r_i64) (r.2))) := by
  unfold f_ref01_over at H
  refine fn_enter Try.func157 rfl rfl (by kernel_rfl) ?_
  intro κ B h0 F a w hAt
  refine wp_seq ?_
  refine reg [⟨fV (Rep.slice r_i64) [], [(4, some (tipE 3 r_i64.sz))], [], []⟩,
      ⟨fV (Rep.slice r_i64) [], [(5, some (tipE 3 r_i64.sz))], [], []⟩] [0, 1] [] hAt
      ⟨ok_nilTip rfl (.inl rfl),
      ok_nilTip rfl (.inl rfl), trivial⟩ (by kernel_rfl) ?_
  clear hAt
  intro a w hAt
  replace hAt : At B h0 (mkG [(0, fV (Rep.slice r_i64) x0), (1, fV (Rep.slice r_i64) x1)]) (mkO []) F 63 a w := hAt
  refine then_n ?_
  refine wp_seq ?_
  refine reg [⟨fV (Rep.slice r_i64) [], [(6, some (tipE 3 r_i64.sz))], [], []⟩] [0, 1, 6] [6] hAt
      ⟨ok_nilTip rfl (.inl rfl), trivial⟩ (by kernel_rfl) ?_
  clear hAt
  intro a w hAt
  replace hAt : At B h0 (mkG [(0, fV (Rep.slice r_i64) x0), (1, fV (Rep.slice r_i64) x1), (6, fV (Rep.slice r_i64) [])]) (mkO [(6, tipE 3 r_i64.sz)]) F 63 a w := hAt
  refine then_n ?_
  refine wp_seq ?_
  obtain ⟨v1, hv1, H⟩ := bindE H
  refine reg [⟨fV (Rep.slice r_i64) x0, [], [(0, none)], []⟩,
      ⟨fV r_i64 (List.length x0 : Int), [], [(12, some 0)], []⟩,
      ⟨Fact.triv, [(14, some (arrE 3 r_i64 v1))], [(13, some 1)], []⟩,
      ⟨Fact.triv, [(14, none), (7, some (arrE 3 r_i64 v1))], [], [(14, some 2)]⟩] [0, 1, 6] [6, 7] hAt
      ⟨ok_move rfl opd0,
      ok_len un209 rfl opd0,
      ok_makeArr hv1 el3 ty3 un209 rfl rfl opd0 opd0,
      (ok_moveOwn (f := Fact.triv) rfl rfl (.inr rfl) (fun _ _ _ => trivial)), trivial⟩ (by kernel_rfl) ?_
  clear hAt
  intro a w hAt
  replace hAt : At B h0 (mkG [(0, fV (Rep.slice r_i64) x0), (1, fV (Rep.slice r_i64) x1), (6, fV (Rep.slice r_i64) [])]) (mkO [(6, tipE 3 r_i64.sz), (7, arrE 3 r_i64 v1)]) F 63 a w := hAt
  refine then_n ?_
  refine wp_seq ?_
  refine wp_seq ?_
  refine reg [⟨fV (Rep.slice r_i64) x0, [], [(0, none)], []⟩,
      ⟨fV r_i64 (List.length x0 : Int), [], [(15, some 0)], []⟩,
      ⟨fV r_i64 (IntKind.i64.wrap ((List.length x0 : Int) - 1)), [], [(16, some 1)], []⟩,
      ⟨fV r_i64 (IntKind.i64.wrap ((List.length x0 : Int) - 1)), [], [(17, some 2)], []⟩] [0, 1, 6, 8] [6, 7] hAt
      ⟨ok_move rfl opd0,
      ok_len un209 rfl opd0,
      ok_sub rfl opd0 opdI,
      ok_assign rfl opd0, trivial⟩ (by kernel_rfl) ?_
  clear hAt
  intro a w hAt
  replace hAt : At B h0 (mkG [(0, fV (Rep.slice r_i64) x0), (1, fV (Rep.slice r_i64) x1), (6, fV (Rep.slice r_i64) []), (8, fV r_i64 (IntKind.i64.wrap ((List.length x0 : Int) - 1)))]) (mkO [(6, tipE 3 r_i64.sz), (7, arrE 3 r_i64 v1)]) F 63 a w := hAt
  refine then_n ?_
  refine wp_block ?_
  obtain ⟨o35, hl36, H⟩ := bindE H
  refine wp_mono (wp_loopN (f := f_ref01_over_L2 N x0 x1) (fun (s17 : ((List Int) × (List Int) × Int)) a w => At B h0 (mkG [(0, fV (Rep.slice r_i64) x0), (1, fV (Rep.slice r_i64) x1), (6, fV (Rep.slice r_i64) s17.1), (8, fV r_i64 s17.2.2)]) (mkO [(7, arrE 3 r_i64 s17.2.1)]) F 63 a w) (fun o e a w => (fun v => e = .exit 0 ∧ At B h0 (mkG [(6, fV (Rep.slice r_i64) v.1)]) (mkO [(7, arrE 3 r_i64 v.2)]) F 63 a w) o) ?_ N ([], v1, (IntKind.i64.wrap ((List.length x0 : Int) - 1))) o35 _ _ hl36 ?_) ?_
  · clear H hAt hl36
    intro s17 r38 a w H hAt
    unfold f_ref01_over_L2 at H
    refine wp_seq ?_
    refine wp_seq ?_
    refine reg [⟨fV r_i64 s17.2.2, [], [(8, none)], []⟩,
        ⟨fV Rep.bool (cmpI .geq s17.2.2 0), [], [(18, some 0)], []⟩] [0, 1, 6, 8, 19] [7] hAt
        ⟨ok_move rfl opd0,
        ok_cmp (op := .geq) (by simp) rfl rfl opd0 opdI, trivial⟩ (by kernel_rfl) ?_
    clear hAt
    intro a w hAt
    replace hAt : At B h0 (mkG [(0, fV (Rep.slice r_i64) x0), (1, fV (Rep.slice r_i64) x1), (6, fV (Rep.slice r_i64) s17.1), (8, fV r_i64 s17.2.2), (19, fV Rep.bool (cmpI .geq s17.2.2 0))]) (mkO [(7, arrE 3 r_i64 s17.2.1)]) F 63 a w := hAt
    refine then_n ?_
    refine wp_if hAt (by rfl) ?_ ?_
    · intro hb34
      have H := iteT hb34 H
      refine wp_skip ?_
      refine then_n ?_
      refine wp_seq ?_
      refine wp_block ?_
      refine wp_seq ?_
      obtain ⟨v18, hv18, H⟩ := bindE H
      obtain ⟨v19, hv19, H⟩ := bindE H
      obtain ⟨v20, hv20, H⟩ := bindE H
      refine reg [⟨fV (Rep.slice r_i64) x0, [], [(0, none)], []⟩,
          ⟨fV r_i64 s17.2.2, [], [(8, none)], []⟩,
          ⟨fRef r_i64 v18, [], [(22, some 0), (23, some 1)], []⟩,
          ⟨fV r_i64 v18, [], [(24, some 2)], []⟩,
          ⟨fV (Rep.slice r_i64) [v18], [(26, some (tipE 3 r_i64.sz))], [(25, some 3)], []⟩,
          ⟨fV (Rep.slice r_i64) s17.1, [], [(6, none)], []⟩,
          ⟨fV (Rep.slice r_i64) v19, [(26, none), (28, some (tipE 3 r_i64.sz))], [(26, some 4), (27, some 5)], [(26, some 4)]⟩,
          ⟨fV (Rep.slice r_i64) v20, [], [(28, some 6)], []⟩,
          ⟨fV (Rep.slice r_i64) v20, [], [(29, some 7)], []⟩] [0, 1, 6, 8] [7] hAt
          ⟨ok_move rfl opd0,
          ok_move rfl opd0,
          ok_index ty3 un209 hv18 rfl opd0 opd1,
          ok_load ty3 rfl opd0,
          ok_buildTip ty3 un209 rfl rfl rfl (fillC (Lens.arr _ _ 0 (by decide)) rfl opd0 fillN),
          ok_move rfl opd0,
          ok_append hv19 el3 un209 rfl rfl rfl opd0 opd1,
          ok_call (ok_f_ref01_trim N v19 _ hv20) Try.func175 (by kernel_rfl) (by kernel_rfl) rfl ⟨opd0, trivial⟩,
          ok_assign rfl opd0, trivial⟩ (by kernel_rfl) ?_
      clear hAt
      intro a w hAt
      replace hAt : At B h0 (mkG [(0, fV (Rep.slice r_i64) x0), (1, fV (Rep.slice r_i64) x1), (6, fV (Rep.slice r_i64) v20), (8, fV r_i64 s17.2.2)]) (mkO [(7, arrE 3 r_i64 s17.2.1)]) F 63 a w := hAt
      refine then_n ?_
      refine wp_seq ?_
      refine reg [⟨fV r_i64 0, [], [], []⟩,
          ⟨fV r_i64 65535, [], [], []⟩] [0, 1, 6, 8, 9, 10] [7] hAt
          ⟨ok_assign rfl opdI,
          ok_assign rfl opdI, trivial⟩ (by kernel_rfl) ?_
      clear hAt
      intro a w hAt
      replace hAt : At B h0 (mkG [(0, fV (Rep.slice r_i64) x0), (1, fV (Rep.slice r_i64) x1), (6, fV (Rep.slice r_i64) v20), (8, fV r_i64 s17.2.2), (9, fV r_i64 0), (10, fV r_i64 65535)]) (mkO [(7, arrE 3 r_i64 s17.2.1)]) F 63 a w := hAt
      refine then_n ?_
      refine wp_seq ?_
      refine wp_block ?_
      obtain ⟨o27, hl28, H⟩ := bindE H
      refine wp_mono (wp_loopN (f := f_ref01_over_L1 N x1 v20) (fun (s21 : (Int × Int)) a w => At B h0 (mkG [(0, fV (Rep.slice r_i64) x0), (1, fV (Rep.slice r_i64) x1), (6, fV (Rep.slice r_i64) v20), (8, fV r_i64 s17.2.2), (9, fV r_i64 s21.1), (10, fV r_i64 s21.2)]) (mkO [(7, arrE 3 r_i64 s17.2.1)]) F 63 a w) (fun o e a w => (fun v => e = .exit 2 ∧ At B h0 (mkG [(0, fV (Rep.slice r_i64) x0), (1, fV (Rep.slice r_i64) x1), (6, fV (Rep.slice r_i64) v20), (8, fV r_i64 s17.2.2), (9, fV r_i64 v)]) (mkO [(7, arrE 3 r_i64 s17.2.1)]) F 63 a w) o) ?_ N (0, 65535) o27 _ _ hl28 ?_) ?_
      · clear H hAt hl28
        intro s21 r33 a w H hAt
        unfold f_ref01_over_L1 at H
        refine wp_seq ?_
        refine wp_seq ?_
        refine reg [⟨fV r_i64 s21.1, [], [(9, none)], []⟩,
            ⟨fV r_i64 s21.2, [], [(10, none)], []⟩,
            ⟨fV Rep.bool (cmpI .lss s21.1 s21.2), [], [(30, some 0), (31, some 1)], []⟩] [0, 1, 6, 8, 9, 10, 32] [7] hAt
            ⟨ok_move rfl opd0,
            ok_move rfl opd0,
            ok_cmp (op := .lss) (by simp) rfl rfl opd0 opd1, trivial⟩ (by kernel_rfl) ?_
        clear hAt
        intro a w hAt
        replace hAt : At B h0 (mkG [(0, fV (Rep.slice r_i64) x0), (1, fV (Rep.slice r_i64) x1), (6, fV (Rep.slice r_i64) v20), (8, fV r_i64 s17.2.2), (9, fV r_i64 s21.1), (10, fV r_i64 s21.2), (32, fV Rep.bool (cmpI .lss s21.1 s21.2))]) (mkO [(7, arrE 3 r_i64 s17.2.1)]) F 63 a w := hAt
        refine then_n ?_
        refine wp_if hAt (by rfl) ?_ ?_
        · intro hb26
          have H := iteT hb26 H
          refine wp_skip ?_
          refine then_n ?_
          refine wp_block ?_
          refine wp_seq ?_
          obtain ⟨v22, hv22, H⟩ := bindE H
          refine reg [⟨fV r_i64 s21.1, [], [(9, none)], []⟩,
              ⟨fV r_i64 s21.2, [], [(10, none)], []⟩,
              ⟨fV r_i64 (IntKind.i64.wrap (s21.1 + s21.2)), [], [(33, some 0), (34, some 1)], []⟩,
              ⟨fV r_i64 (IntKind.i64.wrap ((IntKind.i64.wrap (s21.1 + s21.2)) + 1)), [], [(35, some 2)], []⟩,
              ⟨fV r_i64 v22, [], [(36, some 3)], []⟩,
              ⟨fV r_i64 v22, [], [(37, some 4)], []⟩] [0, 1, 6, 8, 9, 10, 11] [7] hAt
              ⟨ok_move rfl opd0,
              ok_move rfl opd0,
              ok_add rfl opd0 opd1,
              ok_add rfl opd0 opdI,
              ok_quo hv22 rfl opd0 opdI,
              ok_assign rfl opd0, trivial⟩ (by kernel_rfl) ?_
          clear hAt
          intro a w hAt
          replace hAt : At B h0 (mkG [(0, fV (Rep.slice r_i64) x0), (1, fV (Rep.slice r_i64) x1), (6, fV (Rep.slice r_i64) v20), (8, fV r_i64 s17.2.2), (9, fV r_i64 s21.1), (10, fV r_i64 s21.2), (11, fV r_i64 v22)]) (mkO [(7, arrE 3 r_i64 s17.2.1)]) F 63 a w := hAt
          refine then_n ?_
          refine wp_seq ?_
          obtain ⟨v23, hv23, H⟩ := bindE H
          obtain ⟨v24, hv24, H⟩ := bindE H
          refine reg [⟨fV (Rep.slice r_i64) x1, [], [(1, none)], []⟩,
              ⟨fV r_i64 v22, [], [(11, none)], []⟩,
              ⟨fV (Rep.slice r_i64) [v22], [], [(39, some 1)], []⟩,
              ⟨fV (Rep.slice r_i64) v23, [], [(38, some 0), (40, some 2)], []⟩,
              ⟨fV (Rep.slice r_i64) v20, [], [(6, none)], []⟩,
              ⟨fV r_i64 v24, [], [(41, some 3), (42, some 4)], []⟩,
              ⟨fV Rep.bool (cmpI .leq v24 0), [], [(43, some 5)], []⟩] [0, 1, 6, 8, 9, 10, 11, 44] [7] hAt
              ⟨ok_move rfl opd0,
              ok_move rfl opd0,
              ok_buildSlice ty3 un209 rfl rfl (fillC (Lens.arr _ _ 0 (by decide)) rfl opd0 fillN),
              ok_call (ok_f_ref01_times N x1 [v22] _ hv23) Try.func158 (by kernel_rfl) (by kernel_rfl) rfl ⟨opd0, ⟨opd1, trivial⟩⟩,
              ok_move rfl opd0,
              ok_call (ok_f_ref01_compare N v23 v20 _ hv24) Try.func160 (by kernel_rfl) (by kernel_rfl) rfl ⟨opd0, ⟨opd1, trivial⟩⟩,
              ok_cmp (op := .leq) (by simp) rfl rfl opd0 opdI, trivial⟩ (by kernel_rfl) ?_
          clear hAt
          intro a w hAt
          replace hAt : At B h0 (mkG [(0, fV (Rep.slice r_i64) x0), (1, fV (Rep.slice r_i64) x1), (6, fV (Rep.slice r_i64) v20), (8, fV r_i64 s17.2.2), (9, fV r_i64 s21.1), (10, fV r_i64 s21.2), (11, fV r_i64 v22), (44, fV Rep.bool (cmpI .leq v24 0))]) (mkO [(7, arrE 3 r_i64 s17.2.1)]) F 63 a w := hAt
          refine then_n ?_
          refine wp_if hAt (by rfl) ?_ ?_
          · intro hb25
            have H := iteT hb25 H
            refine reg [⟨fV r_i64 v22, [], [(11, none)], []⟩,
                ⟨fV r_i64 v22, [], [(45, some 0)], []⟩] [0, 1, 6, 8, 9, 10] [7] hAt
                ⟨ok_move rfl opd0,
                ok_assign rfl opd0, trivial⟩ (by kernel_rfl) ?_
            clear hAt
            intro a w hAt
            replace hAt : At B h0 (mkG [(0, fV (Rep.slice r_i64) x0), (1, fV (Rep.slice r_i64) x1), (6, fV (Rep.slice r_i64) v20), (8, fV r_i64 s17.2.2), (9, fV r_i64 v22), (10, fV r_i64 s21.2)]) (mkO [(7, arrE 3 r_i64 s17.2.1)]) F 63 a w := hAt
            refine blk_n ?_
            cases H
            exact ⟨rfl, hAt.pick [0, 1, 6, 8, 9, 10] [7]⟩
          · intro hb25
            have H := iteF hb25 H
            refine reg [⟨fV r_i64 v22, [], [(11, none)], []⟩,
                ⟨fV r_i64 (IntKind.i64.wrap (v22 - 1)), [], [(46, some 0)], []⟩,
                ⟨fV r_i64 (IntKind.i64.wrap (v22 - 1)), [], [(47, some 1)], []⟩] [0, 1, 6, 8, 9, 10] [7] hAt
                ⟨ok_move rfl opd0,
                ok_sub rfl opd0 opdI,
                ok_assign rfl opd0, trivial⟩ (by kernel_rfl) ?_
            clear hAt
            intro a w hAt
            replace hAt : At B h0 (mkG [(0, fV (Rep.slice r_i64) x0), (1, fV (Rep.slice r_i64) x1), (6, fV (Rep.slice r_i64) v20), (8, fV r_i64 s17.2.2), (9, fV r_i64 s21.1), (10, fV r_i64 (IntKind.i64.wrap (v22 - 1)))]) (mkO [(7, arrE 3 r_i64 s17.2.1)]) F 63 a w := hAt
            refine blk_n ?_
            cases H
            exact ⟨rfl, hAt.pick [0, 1, 6, 8, 9, 10] [7]⟩
        · intro hb26
          have H := iteF hb26 H
          refine wp_exit ?_
          refine then_x ?_
          cases H
          exact ⟨ex_ne, rfl, hAt.pick [0, 1, 6, 8, 9] [7]⟩
      · exact hAt.pick [0, 1, 6, 8, 9, 10] [7]
      · clear hAt
        intro e a w hp
        obtain ⟨rfl, hAt⟩ := hp
        refine blk_eq ?_
        refine then_n ?_
        refine wp_seq ?_
        obtain ⟨v29, hv29, H⟩ := bindE H
        refine reg [⟨fCp 7, [], [], []⟩,
            ⟨fV r_i64 s17.2.2, [], [(8, none)], []⟩,
            ⟨fV r_i64 o27, [], [(9, none)], []⟩,
            ⟨fEl 7 ((Int.toNat s17.2.2) * r_i64.sz + 0), [], [(48, some 0), (49, some 1)], [(7, none)]⟩,
            ⟨Fact.triv, [(7, some (arrE 3 r_i64 (List.set s17.2.1 (Int.toNat s17.2.2) o27)))], [(51, some 3), (50, some 2)], [(7, none)]⟩] [0, 1, 6, 8, 9] [7] hAt
            ⟨ok_cp rfl,
            ok_move rfl opd0,
            ok_move rfl opd0,
            ok_elArr hv29 ty3 un209 rfl opd0 opd1,
            ok_storeArr (idx_spec hv29).2.2 (Lens.refl _) ty3 rfl rfl opd0 opd1 rfl, trivial⟩ (by kernel_rfl) ?_
        clear hAt
        intro a w hAt
        replace hAt : At B h0 (mkG [(0, fV (Rep.slice r_i64) x0), (1, fV (Rep.slice r_i64) x1), (6, fV (Rep.slice r_i64) v20), (8, fV r_i64 s17.2.2), (9, fV r_i64 o27)]) (mkO [(7, arrE 3 r_i64 (List.set s17.2.1 (Int.toNat s17.2.2) o27))]) F 63 a w := hAt
        refine then_n ?_
        refine wp_seq ?_
        refine reg [⟨fV r_i64 o27, [], [(9, none)], []⟩,
            ⟨fV Rep.bool (cmpI .gtr o27 0), [], [(52, some 0)], []⟩] [0, 1, 6, 8, 9, 53] [7] hAt
            ⟨ok_move rfl opd0,
            ok_cmp (op := .gtr) (by simp) rfl rfl opd0 opdI, trivial⟩ (by kernel_rfl) ?_
        clear hAt
        intro a w hAt
        replace hAt : At B h0 (mkG [(0, fV (Rep.slice r_i64) x0), (1, fV (Rep.slice r_i64) x1), (6, fV (Rep.slice r_i64) v20), (8, fV r_i64 s17.2.2), (9, fV r_i64 o27), (53, fV Rep.bool (cmpI .gtr o27 0))]) (mkO [(7, arrE 3 r_i64 (List.set s17.2.1 (Int.toNat s17.2.2) o27))]) F 63 a w := hAt
        refine then_n ?_
        refine wp_if hAt (by rfl) ?_ ?_
        · intro hb32
          have H := iteT hb32 H
          obtain ⟨v30, hv30, H⟩ := bindE H
          obtain ⟨v31, hv31, H⟩ := bindE H
          refine reg [⟨fV (Rep.slice r_i64) v20, [], [(6, none)], []⟩,
              ⟨fV (Rep.slice r_i64) x1, [], [(1, none)], []⟩,
              ⟨fV r_i64 o27, [], [(9, none)], []⟩,
              ⟨fV (Rep.slice r_i64) [o27], [], [(56, some 2)], []⟩,
              ⟨fV (Rep.slice r_i64) v30, [], [(55, some 1), (57, some 3)], []⟩,
              ⟨fV (Rep.slice r_i64) v31, [], [(54, some 0), (58, some 4)], []⟩,
              ⟨fV (Rep.slice r_i64) v31, [], [(59, some 5)], []⟩] [0, 1, 6, 8] [7] hAt
              ⟨ok_move rfl opd0,
              ok_move rfl opd0,
              ok_move rfl opd0,
              ok_buildSlice ty3 un209 rfl rfl (fillC (Lens.arr _ _ 0 (by decide)) rfl opd0 fillN),
              ok_call (ok_f_ref01_times N x1 [o27] _ hv30) Try.func158 (by kernel_rfl) (by kernel_rfl) rfl ⟨opd0, ⟨opd1, trivial⟩⟩,
              ok_call (ok_f_ref01_minus N v20 v30 _ hv31) Try.func161 (by kernel_rfl) (by kernel_rfl) rfl ⟨opd0, ⟨opd1, trivial⟩⟩,
              ok_assign rfl opd0, trivial⟩ (by kernel_rfl) ?_
          clear hAt
          intro a w hAt
          replace hAt : At B h0 (mkG [(0, fV (Rep.slice r_i64) x0), (1, fV (Rep.slice r_i64) x1), (6, fV (Rep.slice r_i64) v31), (8, fV r_i64 s17.2.2)]) (mkO [(7, arrE 3 r_i64 (List.set s17.2.1 (Int.toNat s17.2.2) o27))]) F 63 a w := hAt
          refine blk_n ?_
          refine then_n ?_
          refine reg [⟨fV r_i64 s17.2.2, [], [(8, none)], []⟩,
              ⟨fV r_i64 (IntKind.i64.wrap (s17.2.2 - 1)), [], [(20, some 0)], []⟩,
              ⟨fV r_i64 (IntKind.i64.wrap (s17.2.2 - 1)), [], [(21, some 1)], []⟩] [0, 1, 6, 8] [7] hAt
              ⟨ok_move rfl opd0,
              ok_sub rfl opd0 opdI,
              ok_assign rfl opd0, trivial⟩ (by kernel_rfl) ?_
          clear hAt
          intro a w hAt
          replace hAt : At B h0 (mkG [(0, fV (Rep.slice r_i64) x0), (1, fV (Rep.slice r_i64) x1), (6, fV (Rep.slice r_i64) v31), (8, fV r_i64 (IntKind.i64.wrap (s17.2.2 - 1)))]) (mkO [(7, arrE 3 r_i64 (List.set s17.2.1 (Int.toNat s17.2.2) o27))]) F 63 a w := hAt
          cases H
          exact ⟨rfl, hAt.pick [0, 1, 6, 8] [7]⟩
        · intro hb32
          have H := iteF hb32 H
          refine wp_skip ?_
          refine blk_n ?_
          refine then_n ?_
          refine reg [⟨fV r_i64 s17.2.2, [], [(8, none)], []⟩,
              ⟨fV r_i64 (IntKind.i64.wrap (s17.2.2 - 1)), [], [(20, some 0)], []⟩,
              ⟨fV r_i64 (IntKind.i64.wrap (s17.2.2 - 1)), [], [(21, some 1)], []⟩] [0, 1, 6, 8] [7] hAt
              ⟨ok_move rfl opd0,
              ok_sub rfl opd0 opdI,
              ok_assign rfl opd0, trivial⟩ (by kernel_rfl) ?_
          clear hAt
          intro a w hAt
          replace hAt : At B h0 (mkG [(0, fV (Rep.slice r_i64) x0), (1, fV (Rep.slice r_i64) x1), (6, fV (Rep.slice r_i64) v20), (8, fV r_i64 (IntKind.i64.wrap (s17.2.2 - 1)))]) (mkO [(7, arrE 3 r_i64 (List.set s17.2.1 (Int.toNat s17.2.2) o27))]) F 63 a w := hAt
          cases H
          exact ⟨rfl, hAt.pick [0, 1, 6, 8] [7]⟩
    · intro hb34
      have H := iteF hb34 H
      refine wp_exit ?_
      refine then_x ?_
      cases H
      exact ⟨ex_ne, rfl, hAt.pick [6] [7]⟩
  · exact hAt.pick [0, 1, 6, 8] [7]
  · clear hAt
    intro e a w hp
    obtain ⟨rfl, hAt⟩ := hp
    refine blk_eq ?_
    refine then_n ?_
    refine wp_seq ?_
    have hAt := At.freeze 7 hAt rfl
    replace hAt := hAt.pick [6, 7] []
    replace hAt : At B h0 (mkG [(6, fV (Rep.slice r_i64) o35.1), (7, fV (Rep.slice r_i64) o35.2)]) (mkO []) F 63 a w := hAt
    obtain ⟨v37, hv37, H⟩ := bindE H
    refine reg [⟨fV (Rep.slice r_i64) o35.2, [], [(7, none)], []⟩,
        ⟨fV (Rep.slice r_i64) v37, [], [(60, some 0)], []⟩,
        ⟨fV (Rep.slice r_i64) o35.1, [], [(6, none)], []⟩,
        ⟨fV (Rep.slice r_i64) v37, [], [(61, some 1)], []⟩,
        ⟨fV (Rep.slice r_i64) o35.1, [], [(62, some 2)], []⟩] [4, 5] [] hAt
        ⟨ok_move rfl opd0,
        ok_call (ok_f_ref01_trim N o35.2 _ hv37) Try.func175 (by kernel_rfl) (by kernel_rfl) rfl ⟨opd0, trivial⟩,
        ok_move rfl opd0,
        ok_assign rfl opd0,
        ok_assign rfl opd0, trivial⟩ (by kernel_rfl) ?_
    clear hAt
    intro a w hAt
    replace hAt : At B h0 (mkG [(4, fV (Rep.slice r_i64) v37), (5, fV (Rep.slice r_i64) o35.1)]) (mkO []) F 63 a w := hAt
    refine then_n ?_
    refine wp_ret ?_
    cases H
    exact ret2 rfl (rv_tmp rfl rfl) (rv_tmp rfl rfl) hAt
end Go.KB
