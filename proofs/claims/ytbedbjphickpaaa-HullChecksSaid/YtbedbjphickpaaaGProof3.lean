/- The Go functions compute what the plain functions compute. Printed by a program. No condition. -/
import Derived.Test.YtbedbjphickpaaaGProof2
namespace Go.KB
open Go.Proofs
set_option maxRecDepth 100000
set_option linter.unusedVariables false
theorem ok_f_exact_Add (N : Nat) (x0 : GInt) (x1 : GInt) (r : GInt) (H : f_exact_Add N x0 x1 = some r) : FnOk Try.prog 65 [fV GInt.rep x0, fV GInt.rep x1] (fV GInt.rep r) := by
  unfold f_exact_Add at H; refine fn_enter Try.func65 rfl rfl (by kernel_rfl) ?_; intro κ B h0 F a w hAt; refine wp_seq ?_
  refine reg [⟨fRef GInt.rep x0, [], [(0, none)], []⟩,
      ⟨fRef GInt.rep x1, [], [(1, none)], []⟩,
      ⟨Fact.triv, [(4, some (boxE 30 GInt.rep (⟨false, []⟩ : GInt)))], [], []⟩] [2, 3] [4] hAt
      ⟨ok_box rfl opd0,
      ok_box rfl opd0,
      ok_alloc ty30 rfl rfl, trivial⟩ (by kernel_rfl) ?_
  clear hAt; intro a w hAt; replace hAt : At B h0 (mkG [(2, fRef GInt.rep x0), (3, fRef GInt.rep x1)]) (mkO [(4, boxE 30 GInt.rep (⟨false, []⟩ : GInt))]) F 40 a w := hAt; refine then_n ?_; refine wp_seq ?_; obtain ⟨v1, hv1, H⟩ := bindE H; obtain ⟨v2, hv2, H⟩ := bindE H
  refine regd [⟨fRef (Rep.slice r_u16) x0.Limbs, [], [(2, none)], []⟩,
      ⟨fV (Rep.slice r_u16) x0.Limbs, [], [(7, some 0)], []⟩,
      ⟨fV (Rep.slice r_u16) v1, [], [(8, some 1)], []⟩,
      ⟨fRef (Rep.slice r_u16) x1.Limbs, [], [(3, none)], []⟩,
      ⟨fV (Rep.slice r_u16) x1.Limbs, [], [(10, some 3)], []⟩,
      ⟨fV (Rep.slice r_u16) v2, [], [(11, some 4)], []⟩,
      ⟨fV (Rep.slice r_u16) v1, [], [(9, some 2)], []⟩,
      ⟨fV (Rep.slice r_u16) v2, [], [(12, some 5)], []⟩] [0, 1, 2, 3, 4, 5, 6, 7] [0, 1, 2, 3, 4, 5, 6, 7] [2, 3, 5, 6] [4] hAt
      ⟨ok_field GInt.l1 fo30_1 rfl opd0,
      ok_load ty28 rfl opd0,
      ok_call (ok_f_exact_trim N x0.Limbs _ hv1) Try.func71 (by kernel_rfl) (by kernel_rfl) rfl ⟨opd0, trivial⟩,
      ok_field GInt.l1 fo30_1 rfl opd0,
      ok_load ty28 rfl opd0,
      ok_call (ok_f_exact_trim N x1.Limbs _ hv2) Try.func71 (by kernel_rfl) (by kernel_rfl) rfl ⟨opd0, trivial⟩,
      ok_assign rfl opd0,
      ok_assign rfl opd0, trivial⟩ (by kernel_rfl) ?_
  clear hAt; intro a w hAt; replace hAt : At B h0 (mkG [(2, fRef GInt.rep x0), (3, fRef GInt.rep x1), (5, fV (Rep.slice r_u16) v1), (6, fV (Rep.slice r_u16) v2)]) (mkO [(4, boxE 30 GInt.rep (⟨false, []⟩ : GInt))]) F 40 a w := hAt; refine then_n ?_; refine wp_seq ?_; refine wp_seq ?_
  refine reg [⟨fRef Rep.bool x0.Neg, [], [(2, none)], []⟩,
      ⟨fV Rep.bool x0.Neg, [], [(13, some 0)], []⟩,
      ⟨fRef Rep.bool x1.Neg, [], [(3, none)], []⟩,
      ⟨fV Rep.bool x1.Neg, [], [(15, some 2)], []⟩,
      ⟨fV Rep.bool (x0.Neg == x1.Neg), [], [(14, some 1), (16, some 3)], []⟩] [2, 3, 5, 6, 17] [4] hAt
      ⟨ok_field GInt.l0 fo30_0 rfl opd0,
      ok_load ty4 rfl opd0,
      ok_field GInt.l0 fo30_0 rfl opd0,
      ok_load ty4 rfl opd0,
      ok_eqB un4 rfl opd0 opd1, trivial⟩ (by kernel_rfl) ?_
  clear hAt; intro a w hAt; replace hAt : At B h0 (mkG [(2, fRef GInt.rep x0), (3, fRef GInt.rep x1), (5, fV (Rep.slice r_u16) v1), (6, fV (Rep.slice r_u16) v2), (17, fV Rep.bool (x0.Neg == x1.Neg))]) (mkO [(4, boxE 30 GInt.rep (⟨false, []⟩ : GInt))]) F 40 a w := hAt; refine then_n ?_; refine wp_if hAt (by rfl) ?_ ?_
  · intro hb11; have H := iteT hb11 H; refine wp_seq ?_; obtain ⟨v3, hv3, H⟩ := bindE H; obtain ⟨v4, hv4, H⟩ := bindE H
    refine regd [⟨fRef Rep.bool x0.Neg, [], [(2, none)], []⟩,
        ⟨fV Rep.bool x0.Neg, [], [(18, some 0)], []⟩,
        ⟨fV (Rep.slice r_u16) v1, [], [(5, none)], []⟩,
        ⟨fV (Rep.slice r_u16) v2, [], [(6, none)], []⟩,
        ⟨fV (Rep.slice r_u16) v3, [], [(20, some 2), (21, some 3)], []⟩,
        ⟨fV GInt.rep v4, [], [(19, some 1), (22, some 4)], []⟩,
        ⟨Fact.triv, [(4, some (boxE 30 GInt.rep v4))], [(23, some 5)], [(4, none)]⟩] [0, 1, 2, 3, 4, 5, 6] [0, 1, 2, 3, 4, 5, 6] [] [4] hAt
        ⟨ok_field GInt.l0 fo30_0 rfl opd0,
        ok_load ty4 rfl opd0,
        ok_move rfl opd0,
        ok_move rfl opd0,
        ok_call (ok_f_exact_plus N v1 v2 _ hv3) Try.func99 (by kernel_rfl) (by kernel_rfl) rfl ⟨opd0, ⟨opd1, trivial⟩⟩,
        ok_call (ok_f_exact_signed N x0.Neg v3 _ hv4) Try.func98 (by kernel_rfl) (by kernel_rfl) rfl ⟨opd0, ⟨opd1, trivial⟩⟩,
        ok_storeBox ty30 rfl rfl opd0, trivial⟩ (by kernel_rfl) ?_
    clear hAt; intro a w hAt; replace hAt : At B h0 (mkG []) (mkO [(4, boxE 30 GInt.rep v4)]) F 40 a w := hAt; refine then_n ?_; refine wp_ret ?_; refine then_r ?_
    cases H
    exact ret1 rfl (rv_cell ty30 rfl) hAt
  · intro hb11; have H := iteF hb11 H; refine wp_skip ?_; refine then_n ?_; refine wp_seq ?_; refine wp_seq ?_; obtain ⟨v5, hv5, H⟩ := bindE H
    refine reg [⟨fV (Rep.slice r_u16) v1, [], [(5, none)], []⟩,
        ⟨fV (Rep.slice r_u16) v2, [], [(6, none)], []⟩,
        ⟨fV r_i64 v5, [], [(24, some 0), (25, some 1)], []⟩,
        ⟨fV Rep.bool (cmpI .geq v5 0), [], [(26, some 2)], []⟩] [2, 3, 5, 6, 27] [4] hAt
        ⟨ok_move rfl opd0,
        ok_move rfl opd0,
        ok_call (ok_f_exact_compare N v1 v2 _ hv5) Try.func100 (by kernel_rfl) (by kernel_rfl) rfl ⟨opd0, ⟨opd1, trivial⟩⟩,
        ok_cmp (op := .geq) (by simp) rfl rfl opd0 opdI, trivial⟩ (by kernel_rfl) ?_
    clear hAt; intro a w hAt; replace hAt : At B h0 (mkG [(2, fRef GInt.rep x0), (3, fRef GInt.rep x1), (5, fV (Rep.slice r_u16) v1), (6, fV (Rep.slice r_u16) v2), (27, fV Rep.bool (cmpI .geq v5 0))]) (mkO [(4, boxE 30 GInt.rep (⟨false, []⟩ : GInt))]) F 40 a w := hAt; refine then_n ?_; refine wp_if hAt (by rfl) ?_ ?_
    · intro hb10; have H := iteT hb10 H; refine wp_seq ?_; obtain ⟨v6, hv6, H⟩ := bindE H; obtain ⟨v7, hv7, H⟩ := bindE H
      refine regd [⟨fRef Rep.bool x0.Neg, [], [(2, none)], []⟩,
          ⟨fV Rep.bool x0.Neg, [], [(28, some 0)], []⟩,
          ⟨fV (Rep.slice r_u16) v1, [], [(5, none)], []⟩,
          ⟨fV (Rep.slice r_u16) v2, [], [(6, none)], []⟩,
          ⟨fV (Rep.slice r_u16) v6, [], [(30, some 2), (31, some 3)], []⟩,
          ⟨fV GInt.rep v7, [], [(29, some 1), (32, some 4)], []⟩,
          ⟨Fact.triv, [(4, some (boxE 30 GInt.rep v7))], [(33, some 5)], [(4, none)]⟩] [0, 1, 2, 3, 4, 5, 6] [0, 1, 2, 3, 4, 5, 6] [] [4] hAt
          ⟨ok_field GInt.l0 fo30_0 rfl opd0,
          ok_load ty4 rfl opd0,
          ok_move rfl opd0,
          ok_move rfl opd0,
          ok_call (ok_f_exact_minus N v1 v2 _ hv6) Try.func101 (by kernel_rfl) (by kernel_rfl) rfl ⟨opd0, ⟨opd1, trivial⟩⟩,
          ok_call (ok_f_exact_signed N x0.Neg v6 _ hv7) Try.func98 (by kernel_rfl) (by kernel_rfl) rfl ⟨opd0, ⟨opd1, trivial⟩⟩,
          ok_storeBox ty30 rfl rfl opd0, trivial⟩ (by kernel_rfl) ?_
      clear hAt; intro a w hAt; replace hAt : At B h0 (mkG []) (mkO [(4, boxE 30 GInt.rep v7)]) F 40 a w := hAt; refine then_n ?_; refine wp_ret ?_; refine then_r ?_
      cases H
      exact ret1 rfl (rv_cell ty30 rfl) hAt
    · intro hb10; have H := iteF hb10 H; refine wp_skip ?_; refine then_n ?_; refine wp_seq ?_; obtain ⟨v8, hv8, H⟩ := bindE H; obtain ⟨v9, hv9, H⟩ := bindE H
      refine regd [⟨fRef Rep.bool x1.Neg, [], [(3, none)], []⟩,
          ⟨fV Rep.bool x1.Neg, [], [(34, some 0)], []⟩,
          ⟨fV (Rep.slice r_u16) v2, [], [(6, none)], []⟩,
          ⟨fV (Rep.slice r_u16) v1, [], [(5, none)], []⟩,
          ⟨fV (Rep.slice r_u16) v8, [], [(36, some 2), (37, some 3)], []⟩,
          ⟨fV GInt.rep v9, [], [(35, some 1), (38, some 4)], []⟩,
          ⟨Fact.triv, [(4, some (boxE 30 GInt.rep v9))], [(39, some 5)], [(4, none)]⟩] [0, 1, 2, 3, 4, 5, 6] [0, 1, 2, 3, 4, 5, 6] [] [4] hAt
          ⟨ok_field GInt.l0 fo30_0 rfl opd0,
          ok_load ty4 rfl opd0,
          ok_move rfl opd0,
          ok_move rfl opd0,
          ok_call (ok_f_exact_minus N v2 v1 _ hv8) Try.func101 (by kernel_rfl) (by kernel_rfl) rfl ⟨opd0, ⟨opd1, trivial⟩⟩,
          ok_call (ok_f_exact_signed N x1.Neg v8 _ hv9) Try.func98 (by kernel_rfl) (by kernel_rfl) rfl ⟨opd0, ⟨opd1, trivial⟩⟩,
          ok_storeBox ty30 rfl rfl opd0, trivial⟩ (by kernel_rfl) ?_
      clear hAt; intro a w hAt; replace hAt : At B h0 (mkG []) (mkO [(4, boxE 30 GInt.rep v9)]) F 40 a w := hAt; refine then_n ?_; refine wp_ret ?_
      cases H
      exact ret1 rfl (rv_cell ty30 rfl) hAt
theorem ok_f_exact_AddRat (N : Nat) (x0 : GRat) (x1 : GRat) (r : GRat) (H : f_exact_AddRat N x0 x1 = some r) : FnOk Try.prog 22 [fV GRat.rep x0, fV GRat.rep x1] (fV GRat.rep r) := by
  unfold f_exact_AddRat at H; refine fn_enter Try.func22 rfl rfl (by kernel_rfl) ?_; intro κ B h0 F a w hAt; refine wp_seq ?_
  refine reg [⟨fRef GRat.rep x0, [], [(0, none)], []⟩,
      ⟨fRef GRat.rep x1, [], [(1, none)], []⟩,
      ⟨Fact.triv, [(4, some (boxE 32 GRat.rep (⟨(⟨false, []⟩ : GInt), (⟨false, []⟩ : GInt)⟩ : GRat)))], [], []⟩] [2, 3] [4] hAt
      ⟨ok_box rfl opd0,
      ok_box rfl opd0,
      ok_alloc ty32 rfl rfl, trivial⟩ (by kernel_rfl) ?_
  clear hAt; intro a w hAt; replace hAt : At B h0 (mkG [(2, fRef GRat.rep x0), (3, fRef GRat.rep x1)]) (mkO [(4, boxE 32 GRat.rep (⟨(⟨false, []⟩ : GInt), (⟨false, []⟩ : GInt)⟩ : GRat))]) F 32 a w := hAt; refine then_n ?_; refine wp_seq ?_; refine wp_seq ?_; obtain ⟨v1, hv1, H⟩ := bindE H
  refine reg [⟨fV GRat.rep x0, [], [(2, none)], []⟩,
      ⟨fV Rep.bool v1, [], [(7, some 0)], []⟩] [2, 3, 8] [4] hAt
      ⟨ok_load ty32 rfl opd0,
      ok_call (ok_f_exact_isZero N x0 _ hv1) Try.func61 (by kernel_rfl) (by kernel_rfl) rfl ⟨opd0, trivial⟩, trivial⟩ (by kernel_rfl) ?_
  clear hAt; intro a w hAt; replace hAt : At B h0 (mkG [(2, fRef GRat.rep x0), (3, fRef GRat.rep x1), (8, fV Rep.bool v1)]) (mkO [(4, boxE 32 GRat.rep (⟨(⟨false, []⟩ : GInt), (⟨false, []⟩ : GInt)⟩ : GRat))]) F 32 a w := hAt; refine then_n ?_; refine wp_if hAt (by rfl) ?_ ?_
  · intro hb13; have H := iteT hb13 H; refine wp_seq ?_; obtain ⟨v2, hv2, H⟩ := bindE H
    refine reg [⟨fV GRat.rep x1, [], [(3, none)], []⟩,
        ⟨fV GRat.rep v2, [], [(9, some 0)], []⟩,
        ⟨Fact.triv, [(4, some (boxE 32 GRat.rep v2))], [(10, some 1)], [(4, none)]⟩] [] [4] hAt
        ⟨ok_load ty32 rfl opd0,
        ok_call (ok_f_exact_lowest N x1 _ hv2) Try.func62 (by kernel_rfl) (by kernel_rfl) rfl ⟨opd0, trivial⟩,
        ok_storeBox ty32 rfl rfl opd0, trivial⟩ (by kernel_rfl) ?_
    clear hAt; intro a w hAt; replace hAt : At B h0 (mkG []) (mkO [(4, boxE 32 GRat.rep v2)]) F 32 a w := hAt; refine then_n ?_; refine wp_ret ?_; refine then_r ?_
    cases H
    exact ret1 rfl (rv_cell ty32 rfl) hAt
  · intro hb13; have H := iteF hb13 H; refine wp_skip ?_; refine then_n ?_; refine wp_seq ?_; refine wp_seq ?_; obtain ⟨v3, hv3, H⟩ := bindE H
    refine reg [⟨fV GRat.rep x1, [], [(3, none)], []⟩,
        ⟨fV Rep.bool v3, [], [(11, some 0)], []⟩] [2, 3, 12] [4] hAt
        ⟨ok_load ty32 rfl opd0,
        ok_call (ok_f_exact_isZero N x1 _ hv3) Try.func61 (by kernel_rfl) (by kernel_rfl) rfl ⟨opd0, trivial⟩, trivial⟩ (by kernel_rfl) ?_
    clear hAt; intro a w hAt; replace hAt : At B h0 (mkG [(2, fRef GRat.rep x0), (3, fRef GRat.rep x1), (12, fV Rep.bool v3)]) (mkO [(4, boxE 32 GRat.rep (⟨(⟨false, []⟩ : GInt), (⟨false, []⟩ : GInt)⟩ : GRat))]) F 32 a w := hAt; refine then_n ?_; refine wp_if hAt (by rfl) ?_ ?_
    · intro hb12; have H := iteT hb12 H; refine wp_seq ?_; obtain ⟨v4, hv4, H⟩ := bindE H
      refine reg [⟨fV GRat.rep x0, [], [(2, none)], []⟩,
          ⟨fV GRat.rep v4, [], [(13, some 0)], []⟩,
          ⟨Fact.triv, [(4, some (boxE 32 GRat.rep v4))], [(14, some 1)], [(4, none)]⟩] [] [4] hAt
          ⟨ok_load ty32 rfl opd0,
          ok_call (ok_f_exact_lowest N x0 _ hv4) Try.func62 (by kernel_rfl) (by kernel_rfl) rfl ⟨opd0, trivial⟩,
          ok_storeBox ty32 rfl rfl opd0, trivial⟩ (by kernel_rfl) ?_
      clear hAt; intro a w hAt; replace hAt : At B h0 (mkG []) (mkO [(4, boxE 32 GRat.rep v4)]) F 32 a w := hAt; refine then_n ?_; refine wp_ret ?_; refine then_r ?_
      cases H
      exact ret1 rfl (rv_cell ty32 rfl) hAt
    · intro hb12; have H := iteF hb12 H; refine wp_skip ?_; refine then_n ?_; refine wp_seq ?_; obtain ⟨v5, hv5, H⟩ := bindE H; obtain ⟨v6, hv6, H⟩ := bindE H
      refine regd [⟨fV GRat.rep x0, [], [(2, none)], []⟩,
          ⟨fV GInt.rep v5, [], [(15, some 0)], []⟩,
          ⟨fV GRat.rep x1, [], [(3, none)], []⟩,
          ⟨fV GInt.rep v6, [], [(17, some 2)], []⟩,
          ⟨Fact.triv, [(5, some (boxE 30 GInt.rep (⟨false, []⟩ : GInt)))], [], []⟩,
          ⟨Fact.triv, [(6, some (boxE 30 GInt.rep (⟨false, []⟩ : GInt)))], [], []⟩,
          ⟨Fact.triv, [(5, some (boxE 30 GInt.rep v5))], [(16, some 1)], [(5, some 4)]⟩,
          ⟨Fact.triv, [(6, some (boxE 30 GInt.rep v6))], [(18, some 3)], [(6, some 5)]⟩] [0, 1, 2, 3, 4, 5, 6, 7] [0, 1, 2, 3, 4, 5, 6, 7] [2, 3] [4, 5, 6] hAt
          ⟨ok_load ty32 rfl opd0,
          ok_call (ok_f_exact_below N x0 _ hv5) Try.func63 (by kernel_rfl) (by kernel_rfl) rfl ⟨opd0, trivial⟩,
          ok_load ty32 rfl opd0,
          ok_call (ok_f_exact_below N x1 _ hv6) Try.func63 (by kernel_rfl) (by kernel_rfl) rfl ⟨opd0, trivial⟩,
          ok_alloc ty30 rfl rfl,
          ok_alloc ty30 rfl rfl,
          ok_storeBox ty30 rfl rfl opd0,
          ok_storeBox ty30 rfl rfl opd0, trivial⟩ (by kernel_rfl) ?_
      clear hAt; intro a w hAt; replace hAt : At B h0 (mkG [(2, fRef GRat.rep x0), (3, fRef GRat.rep x1)]) (mkO [(4, boxE 32 GRat.rep (⟨(⟨false, []⟩ : GInt), (⟨false, []⟩ : GInt)⟩ : GRat)), (5, boxE 30 GInt.rep v5), (6, boxE 30 GInt.rep v6)]) F 32 a w := hAt; refine then_n ?_; refine wp_seq ?_; obtain ⟨v7, hv7, H⟩ := bindE H; obtain ⟨v8, hv8, H⟩ := bindE H; obtain ⟨v9, hv9, H⟩ := bindE H
      obtain ⟨v10, hv10, H⟩ := bindE H; obtain ⟨v11, hv11, H⟩ := bindE H
      refine regd [⟨fRef GInt.rep x0.Num, [], [(2, none)], []⟩,
          ⟨fV GInt.rep x0.Num, [], [(19, some 0)], []⟩,
          ⟨fV GInt.rep v6, [], [], [(6, none)]⟩,
          ⟨fV GInt.rep v7, [], [(20, some 1), (21, some 2)], []⟩,
          ⟨fRef GInt.rep x1.Num, [], [(3, none)], []⟩,
          ⟨fV GInt.rep x1.Num, [], [(23, some 4)], []⟩,
          ⟨fV GInt.rep v5, [], [], [(5, none)]⟩,
          ⟨fV GInt.rep v8, [], [(24, some 5), (25, some 6)], []⟩,
          ⟨fV GInt.rep v9, [], [(22, some 3), (26, some 7)], []⟩,
          ⟨fV GInt.rep v5, [], [], [(5, none)]⟩,
          ⟨fV GInt.rep v6, [], [], [(6, none)]⟩,
          ⟨fV GInt.rep v10, [], [(28, some 9), (29, some 10)], []⟩,
          ⟨fV GRat.rep v11, [], [(27, some 8), (30, some 11)], []⟩,
          ⟨Fact.triv, [(4, some (boxE 32 GRat.rep v11))], [(31, some 12)], [(4, none)]⟩] [0, 1, 2, 3, 4, 5, 6, 7, 8, 9, 10, 11, 12, 13] [0, 1, 2, 3, 4, 5, 6, 7, 8, 9, 10, 11, 12, 13] [] [4] hAt
          ⟨ok_field GRat.l0 fo32_0 rfl opd0,
          ok_load ty30 rfl opd0,
          ok_loadBox ty30 rfl,
          ok_call (ok_f_exact_Mul N x0.Num v6 _ hv7) Try.func66 (by kernel_rfl) (by kernel_rfl) rfl ⟨opd0, ⟨opd1, trivial⟩⟩,
          ok_field GRat.l0 fo32_0 rfl opd0,
          ok_load ty30 rfl opd0,
          ok_loadBox ty30 rfl,
          ok_call (ok_f_exact_Mul N x1.Num v5 _ hv8) Try.func66 (by kernel_rfl) (by kernel_rfl) rfl ⟨opd0, ⟨opd1, trivial⟩⟩,
          ok_call (ok_f_exact_Add N v7 v8 _ hv9) Try.func65 (by kernel_rfl) (by kernel_rfl) rfl ⟨opd0, ⟨opd1, trivial⟩⟩,
          ok_loadBox ty30 rfl,
          ok_loadBox ty30 rfl,
          ok_call (ok_f_exact_Mul N v5 v6 _ hv10) Try.func66 (by kernel_rfl) (by kernel_rfl) rfl ⟨opd0, ⟨opd1, trivial⟩⟩,
          ok_call (ok_f_exact_fraction N v9 v10 _ hv11) Try.func64 (by kernel_rfl) (by kernel_rfl) rfl ⟨opd0, ⟨opd1, trivial⟩⟩,
          ok_storeBox ty32 rfl rfl opd0, trivial⟩ (by kernel_rfl) ?_
      clear hAt; intro a w hAt; replace hAt : At B h0 (mkG []) (mkO [(4, boxE 32 GRat.rep v11)]) F 32 a w := hAt; refine then_n ?_; refine wp_ret ?_
      cases H
      exact ret1 rfl (rv_cell ty32 rfl) hAt
theorem ok_f_hull_Immersion (N : Nat) (x0 : GAttitude) (x1 : Int) (r : GRat) (H : f_hull_Immersion N x0 x1 = some r) : FnOk Try.prog 25 [fV GAttitude.rep x0, fV r_i64 x1] (fV GRat.rep r) := by
  unfold f_hull_Immersion at H; refine fn_enter Try.func25 rfl rfl (by kernel_rfl) ?_; intro κ B h0 F a w hAt; refine wp_seq ?_
  refine reg [⟨fRef GAttitude.rep x0, [], [(0, none)], []⟩,
      ⟨Fact.triv, [(4, some (boxE 32 GRat.rep (⟨(⟨false, []⟩ : GInt), (⟨false, []⟩ : GInt)⟩ : GRat)))], [], []⟩] [1, 2] [4] hAt
      ⟨ok_box rfl opd0,
      ok_alloc ty32 rfl rfl, trivial⟩ (by kernel_rfl) ?_
  clear hAt; intro a w hAt; replace hAt : At B h0 (mkG [(1, fV r_i64 x1), (2, fRef GAttitude.rep x0)]) (mkO [(4, boxE 32 GRat.rep (⟨(⟨false, []⟩ : GInt), (⟨false, []⟩ : GInt)⟩ : GRat))]) F 13 a w := hAt; refine then_n ?_; refine wp_seq ?_; obtain ⟨v1, hv1, H⟩ := bindE H; obtain ⟨v2, hv2, H⟩ := bindE H; obtain ⟨v3, hv3, H⟩ := bindE H
  refine regd [⟨fRef GRat.rep x0.Sink, [], [(2, none)], []⟩,
      ⟨fV GRat.rep x0.Sink, [], [(5, some 0)], []⟩,
      ⟨fRef GRat.rep x0.Slope, [], [(2, none)], []⟩,
      ⟨fV GRat.rep x0.Slope, [], [(7, some 2)], []⟩,
      ⟨fV r_i64 x1, [], [(1, none)], []⟩,
      ⟨fV GRat.rep v1, [], [(9, some 4)], []⟩,
      ⟨fV GRat.rep v2, [], [(8, some 3), (10, some 5)], []⟩,
      ⟨fV GRat.rep v3, [], [(6, some 1), (11, some 6)], []⟩,
      ⟨Fact.triv, [(4, some (boxE 32 GRat.rep v3))], [(12, some 7)], [(4, none)]⟩] [0, 1, 2, 3, 4, 5, 6, 7, 8] [0, 1, 2, 3, 4, 5, 6, 7, 8] [] [4] hAt
      ⟨ok_field GAttitude.l0 fo34_0 rfl opd0,
      ok_load ty32 rfl opd0,
      ok_field GAttitude.l1 fo34_1 rfl opd0,
      ok_load ty32 rfl opd0,
      ok_move rfl opd0,
      ok_call (ok_f_hull_whole N x1 _ hv1) Try.func42 (by kernel_rfl) (by kernel_rfl) rfl ⟨opd0, trivial⟩,
      ok_call (ok_f_exact_MulRat N x0.Slope v1 _ hv2) Try.func26 (by kernel_rfl) (by kernel_rfl) rfl ⟨opd0, ⟨opd1, trivial⟩⟩,
      ok_call (ok_f_exact_AddRat N x0.Sink v2 _ hv3) Try.func22 (by kernel_rfl) (by kernel_rfl) rfl ⟨opd0, ⟨opd1, trivial⟩⟩,
      ok_storeBox ty32 rfl rfl opd0, trivial⟩ (by kernel_rfl) ?_
  clear hAt; intro a w hAt; replace hAt : At B h0 (mkG []) (mkO [(4, boxE 32 GRat.rep v3)]) F 13 a w := hAt; refine then_n ?_; refine wp_ret ?_
  cases H
  exact ret1 rfl (rv_cell ty32 rfl) hAt
theorem ok_f_exact_opposite (N : Nat) (x0 : GInt) (r : GInt) (H : f_exact_opposite N x0 = some r) : FnOk Try.prog 103 [fV GInt.rep x0] (fV GInt.rep r) := by
  unfold f_exact_opposite at H; refine fn_enter Try.func103 rfl rfl (by kernel_rfl) ?_; intro κ B h0 F a w hAt; refine wp_seq ?_
  refine reg [⟨fRef GInt.rep x0, [], [(0, none)], []⟩,
      ⟨Fact.triv, [(2, some (boxE 30 GInt.rep (⟨false, []⟩ : GInt)))], [], []⟩] [1] [2] hAt
      ⟨ok_box rfl opd0,
      ok_alloc ty30 rfl rfl, trivial⟩ (by kernel_rfl) ?_
  clear hAt; intro a w hAt; replace hAt : At B h0 (mkG [(1, fRef GInt.rep x0)]) (mkO [(2, boxE 30 GInt.rep (⟨false, []⟩ : GInt))]) F 9 a w := hAt; refine then_n ?_; refine wp_seq ?_
  refine reg [⟨fRef Rep.bool x0.Neg, [], [(1, none)], []⟩,
      ⟨fV Rep.bool x0.Neg, [], [(3, some 0)], []⟩,
      ⟨fV Rep.bool (!x0.Neg), [], [(4, some 1)], []⟩,
      ⟨fRef (Rep.slice r_u16) x0.Limbs, [], [(1, none)], []⟩,
      ⟨fV (Rep.slice r_u16) x0.Limbs, [], [(6, some 3)], []⟩,
      ⟨fV GInt.rep (⟨(!x0.Neg), x0.Limbs⟩ : GInt), [], [(5, some 2), (7, some 4)], []⟩,
      ⟨Fact.triv, [(2, some (boxE 30 GInt.rep (⟨(!x0.Neg), x0.Limbs⟩ : GInt)))], [(8, some 5)], [(2, none)]⟩] [] [2] hAt
      ⟨ok_field GInt.l0 fo30_0 rfl opd0,
      ok_load ty4 rfl opd0,
      ok_not rfl opd0,
      ok_field GInt.l1 fo30_1 rfl opd0,
      ok_load ty28 rfl opd0,
      ok_build ty30 rfl pl30 rfl (fillC GInt.l0 rfl opd0 (fillC GInt.l1 rfl opd1 fillN)),
      ok_storeBox ty30 rfl rfl opd0, trivial⟩ (by kernel_rfl) ?_
  clear hAt; intro a w hAt; replace hAt : At B h0 (mkG []) (mkO [(2, boxE 30 GInt.rep (⟨(!x0.Neg), x0.Limbs⟩ : GInt))]) F 9 a w := hAt; refine then_n ?_; refine wp_ret ?_
  cases H
  exact ret1 rfl (rv_cell ty30 rfl) hAt
theorem ok_f_exact_negative (N : Nat) (x0 : GRat) (r : GRat) (H : f_exact_negative N x0 = some r) : FnOk Try.prog 68 [fV GRat.rep x0] (fV GRat.rep r) := by
  unfold f_exact_negative at H; refine fn_enter Try.func68 rfl rfl (by kernel_rfl) ?_; intro κ B h0 F a w hAt; refine wp_seq ?_
  refine reg [⟨fRef GRat.rep x0, [], [(0, none)], []⟩,
      ⟨Fact.triv, [(2, some (boxE 32 GRat.rep (⟨(⟨false, []⟩ : GInt), (⟨false, []⟩ : GInt)⟩ : GRat)))], [], []⟩] [1] [2] hAt
      ⟨ok_box rfl opd0,
      ok_alloc ty32 rfl rfl, trivial⟩ (by kernel_rfl) ?_
  clear hAt; intro a w hAt; replace hAt : At B h0 (mkG [(1, fRef GRat.rep x0)]) (mkO [(2, boxE 32 GRat.rep (⟨(⟨false, []⟩ : GInt), (⟨false, []⟩ : GInt)⟩ : GRat))]) F 9 a w := hAt; refine then_n ?_; refine wp_seq ?_; obtain ⟨v1, hv1, H⟩ := bindE H; obtain ⟨v2, hv2, H⟩ := bindE H; obtain ⟨v3, hv3, H⟩ := bindE H
  refine regd [⟨fRef GInt.rep x0.Num, [], [(1, none)], []⟩,
      ⟨fV GInt.rep x0.Num, [], [(3, some 0)], []⟩,
      ⟨fV GInt.rep v1, [], [(4, some 1)], []⟩,
      ⟨fV GRat.rep x0, [], [(1, none)], []⟩,
      ⟨fV GInt.rep v2, [], [(6, some 3)], []⟩,
      ⟨fV GRat.rep v3, [], [(5, some 2), (7, some 4)], []⟩,
      ⟨Fact.triv, [(2, some (boxE 32 GRat.rep v3))], [(8, some 5)], [(2, none)]⟩] [0, 1, 2, 3, 4, 5, 6] [0, 1, 2, 3, 4, 5, 6] [] [2] hAt
      ⟨ok_field GRat.l0 fo32_0 rfl opd0,
      ok_load ty30 rfl opd0,
      ok_call (ok_f_exact_opposite N x0.Num _ hv1) Try.func103 (by kernel_rfl) (by kernel_rfl) rfl ⟨opd0, trivial⟩,
      ok_load ty32 rfl opd0,
      ok_call (ok_f_exact_below N x0 _ hv2) Try.func63 (by kernel_rfl) (by kernel_rfl) rfl ⟨opd0, trivial⟩,
      ok_call (ok_f_exact_fraction N v1 v2 _ hv3) Try.func64 (by kernel_rfl) (by kernel_rfl) rfl ⟨opd0, ⟨opd1, trivial⟩⟩,
      ok_storeBox ty32 rfl rfl opd0, trivial⟩ (by kernel_rfl) ?_
  clear hAt; intro a w hAt; replace hAt : At B h0 (mkG []) (mkO [(2, boxE 32 GRat.rep v3)]) F 9 a w := hAt; refine then_n ?_; refine wp_ret ?_
  cases H
  exact ret1 rfl (rv_cell ty32 rfl) hAt
theorem ok_f_exact_SubRat (N : Nat) (x0 : GRat) (x1 : GRat) (r : GRat) (H : f_exact_SubRat N x0 x1 = some r) : FnOk Try.prog 27 [fV GRat.rep x0, fV GRat.rep x1] (fV GRat.rep r) := by
  unfold f_exact_SubRat at H; refine fn_enter Try.func27 rfl rfl (by kernel_rfl) ?_; intro κ B h0 F a w hAt; refine wp_seq ?_
  refine reg [⟨fRef GRat.rep x0, [], [(0, none)], []⟩,
      ⟨fRef GRat.rep x1, [], [(1, none)], []⟩,
      ⟨Fact.triv, [(4, some (boxE 32 GRat.rep (⟨(⟨false, []⟩ : GInt), (⟨false, []⟩ : GInt)⟩ : GRat)))], [], []⟩] [2, 3] [4] hAt
      ⟨ok_box rfl opd0,
      ok_box rfl opd0,
      ok_alloc ty32 rfl rfl, trivial⟩ (by kernel_rfl) ?_
  clear hAt; intro a w hAt; replace hAt : At B h0 (mkG [(2, fRef GRat.rep x0), (3, fRef GRat.rep x1)]) (mkO [(4, boxE 32 GRat.rep (⟨(⟨false, []⟩ : GInt), (⟨false, []⟩ : GInt)⟩ : GRat))]) F 9 a w := hAt; refine then_n ?_; refine wp_seq ?_; obtain ⟨v1, hv1, H⟩ := bindE H; obtain ⟨v2, hv2, H⟩ := bindE H
  refine regd [⟨fV GRat.rep x0, [], [(2, none)], []⟩,
      ⟨fV GRat.rep x1, [], [(3, none)], []⟩,
      ⟨fV GRat.rep v1, [], [(6, some 1)], []⟩,
      ⟨fV GRat.rep v2, [], [(5, some 0), (7, some 2)], []⟩,
      ⟨Fact.triv, [(4, some (boxE 32 GRat.rep v2))], [(8, some 3)], [(4, none)]⟩] [0, 1, 2, 3, 4] [0, 1, 2, 3, 4] [] [4] hAt
      ⟨ok_load ty32 rfl opd0,
      ok_load ty32 rfl opd0,
      ok_call (ok_f_exact_negative N x1 _ hv1) Try.func68 (by kernel_rfl) (by kernel_rfl) rfl ⟨opd0, trivial⟩,
      ok_call (ok_f_exact_AddRat N x0 v1 _ hv2) Try.func22 (by kernel_rfl) (by kernel_rfl) rfl ⟨opd0, ⟨opd1, trivial⟩⟩,
      ok_storeBox ty32 rfl rfl opd0, trivial⟩ (by kernel_rfl) ?_
  clear hAt; intro a w hAt; replace hAt : At B h0 (mkG []) (mkO [(4, boxE 32 GRat.rep v2)]) F 9 a w := hAt; refine then_n ?_; refine wp_ret ?_
  cases H
  exact ret1 rfl (rv_cell ty32 rfl) hAt
theorem ok_f_exact_signOf (N : Nat) (x0 : GRat) (r : Int) (H : f_exact_signOf N x0 = some r) : FnOk Try.prog 67 [fV GRat.rep x0] (fV r_i64 r) := by
  unfold f_exact_signOf at H; refine fn_enter Try.func67 rfl rfl (by kernel_rfl) ?_; intro κ B h0 F a w hAt; refine wp_seq ?_
  refine reg [⟨fRef GRat.rep x0, [], [(0, none)], []⟩,
      ⟨fV r_i64 0, [], [], []⟩] [1] [] hAt
      ⟨ok_box rfl opd0,
      ok_assign rfl opdI, trivial⟩ (by kernel_rfl) ?_
  clear hAt; intro a w hAt; replace hAt : At B h0 (mkG [(1, fRef GRat.rep x0)]) (mkO []) F 10 a w := hAt; refine then_n ?_; refine wp_seq ?_; obtain ⟨v1, hv1, H⟩ := bindE H; obtain ⟨v2, hv2, H⟩ := bindE H; obtain ⟨v3, hv3, H⟩ := bindE H
  refine regd [⟨fRef GInt.rep x0.Num, [], [(1, none)], []⟩,
      ⟨fV GInt.rep x0.Num, [], [(3, some 0)], []⟩,
      ⟨fV r_i64 v1, [], [(4, some 1)], []⟩,
      ⟨fV GRat.rep x0, [], [(1, none)], []⟩,
      ⟨fV GInt.rep v2, [], [(6, some 3)], []⟩,
      ⟨fV r_i64 v3, [], [(7, some 4)], []⟩,
      ⟨fV r_i64 (IntKind.i64.wrap (v1 * v3)), [], [(5, some 2), (8, some 5)], []⟩,
      ⟨fV r_i64 (IntKind.i64.wrap (v1 * v3)), [], [(9, some 6)], []⟩] [0, 1, 2, 3, 4, 5, 6, 7] [0, 1, 2, 3, 4, 5, 6, 7] [2] [] hAt
      ⟨ok_field GRat.l0 fo32_0 rfl opd0,
      ok_load ty30 rfl opd0,
      ok_call (ok_f_exact_sign N x0.Num _ hv1) Try.func95 (by kernel_rfl) (by kernel_rfl) rfl ⟨opd0, trivial⟩,
      ok_load ty32 rfl opd0,
      ok_call (ok_f_exact_below N x0 _ hv2) Try.func63 (by kernel_rfl) (by kernel_rfl) rfl ⟨opd0, trivial⟩,
      ok_call (ok_f_exact_sign N v2 _ hv3) Try.func95 (by kernel_rfl) (by kernel_rfl) rfl ⟨opd0, trivial⟩,
      ok_mul rfl opd0 opd1,
      ok_assign rfl opd0, trivial⟩ (by kernel_rfl) ?_
  clear hAt; intro a w hAt; replace hAt : At B h0 (mkG [(2, fV r_i64 (IntKind.i64.wrap (v1 * v3)))]) (mkO []) F 10 a w := hAt; refine then_n ?_; refine wp_ret ?_
  cases H
  exact ret1 rfl (rv_tmp rfl rfl) hAt
theorem ok_f_exact_CmpRat (N : Nat) (x0 : GRat) (x1 : GRat) (r : Int) (H : f_exact_CmpRat N x0 x1 = some r) : FnOk Try.prog 24 [fV GRat.rep x0, fV GRat.rep x1] (fV r_i64 r) := by
  unfold f_exact_CmpRat at H; refine fn_enter Try.func24 rfl rfl (by kernel_rfl) ?_; intro κ B h0 F a w hAt; refine wp_seq ?_
  refine reg [⟨fRef GRat.rep x0, [], [(0, none)], []⟩,
      ⟨fRef GRat.rep x1, [], [(1, none)], []⟩,
      ⟨fV r_i64 0, [], [], []⟩] [2, 3] [] hAt
      ⟨ok_box rfl opd0,
      ok_box rfl opd0,
      ok_assign rfl opdI, trivial⟩ (by kernel_rfl) ?_
  clear hAt; intro a w hAt; replace hAt : At B h0 (mkG [(2, fRef GRat.rep x0), (3, fRef GRat.rep x1)]) (mkO []) F 9 a w := hAt; refine then_n ?_; refine wp_seq ?_; obtain ⟨v1, hv1, H⟩ := bindE H; obtain ⟨v2, hv2, H⟩ := bindE H
  refine reg [⟨fV GRat.rep x0, [], [(2, none)], []⟩,
      ⟨fV GRat.rep x1, [], [(3, none)], []⟩,
      ⟨fV GRat.rep v1, [], [(5, some 0), (6, some 1)], []⟩,
      ⟨fV r_i64 v2, [], [(7, some 2)], []⟩,
      ⟨fV r_i64 v2, [], [(8, some 3)], []⟩] [4] [] hAt
      ⟨ok_load ty32 rfl opd0,
      ok_load ty32 rfl opd0,
      ok_call (ok_f_exact_SubRat N x0 x1 _ hv1) Try.func27 (by kernel_rfl) (by kernel_rfl) rfl ⟨opd0, ⟨opd1, trivial⟩⟩,
      ok_call (ok_f_exact_signOf N v1 _ hv2) Try.func67 (by kernel_rfl) (by kernel_rfl) rfl ⟨opd0, trivial⟩,
      ok_assign rfl opd0, trivial⟩ (by kernel_rfl) ?_
  clear hAt; intro a w hAt; replace hAt : At B h0 (mkG [(4, fV r_i64 v2)]) (mkO []) F 9 a w := hAt; refine then_n ?_; refine wp_ret ?_
  cases H
  exact ret1 rfl (rv_tmp rfl rfl) hAt
theorem ok_f_hull_times (N : Nat) (x0 : (List GRat)) (r : GRat) (H : f_hull_times N x0 = some r) : FnOk Try.prog 43 [fV (Rep.slice GRat.rep) x0] (fV GRat.rep r) := by
  unfold f_hull_times at H; refine fn_enter Try.func43 rfl rfl (by kernel_rfl) ?_; intro κ B h0 F a w hAt; refine wp_seq ?_
  refine reg [⟨Fact.triv, [(2, some (boxE 32 GRat.rep (⟨(⟨false, []⟩ : GInt), (⟨false, []⟩ : GInt)⟩ : GRat)))], [], []⟩] [0] [2] hAt
      ⟨ok_alloc ty32 rfl rfl, trivial⟩ (by kernel_rfl) ?_
  clear hAt; intro a w hAt; replace hAt : At B h0 (mkG [(0, fV (Rep.slice GRat.rep) x0)]) (mkO [(2, boxE 32 GRat.rep (⟨(⟨false, []⟩ : GInt), (⟨false, []⟩ : GInt)⟩ : GRat))]) F 18 a w := hAt; refine then_n ?_; refine wp_seq ?_; obtain ⟨v1, hv1, H⟩ := bindE H
  refine reg [⟨fV GRat.rep v1, [], [], []⟩,
      ⟨Fact.triv, [(3, some (boxE 32 GRat.rep (⟨(⟨false, []⟩ : GInt), (⟨false, []⟩ : GInt)⟩ : GRat)))], [], []⟩,
      ⟨Fact.triv, [(3, some (boxE 32 GRat.rep v1))], [(6, some 0)], [(3, some 1)]⟩] [0] [2, 3] hAt
      ⟨ok_call (ok_f_hull_whole N 1 _ hv1) Try.func42 (by kernel_rfl) (by kernel_rfl) rfl ⟨opdI, trivial⟩,
      ok_alloc ty32 rfl rfl,
      ok_storeBox ty32 rfl rfl opd0, trivial⟩ (by kernel_rfl) ?_
  clear hAt; intro a w hAt; replace hAt : At B h0 (mkG [(0, fV (Rep.slice GRat.rep) x0)]) (mkO [(2, boxE 32 GRat.rep (⟨(⟨false, []⟩ : GInt), (⟨false, []⟩ : GInt)⟩ : GRat)), (3, boxE 32 GRat.rep v1)]) F 18 a w := hAt; refine then_n ?_; refine wp_seq ?_; refine wp_seq ?_
  refine reg [⟨fV (Rep.slice GRat.rep) x0, [], [(0, none)], []⟩,
      ⟨fV r_i64 (List.length x0 : Int), [], [(7, some 0)], []⟩,
      ⟨fV r_i64 0, [], [], []⟩] [7, 8, 9] [2, 3] hAt
      ⟨ok_move rfl opd0,
      ok_len un126 rfl opd0,
      ok_move rfl opdI, trivial⟩ (by kernel_rfl) ?_
  clear hAt; intro a w hAt; replace hAt : At B h0 (mkG [(7, fV (Rep.slice GRat.rep) x0), (8, fV r_i64 (List.length x0 : Int)), (9, fV r_i64 0)]) (mkO [(2, boxE 32 GRat.rep (⟨(⟨false, []⟩ : GInt), (⟨false, []⟩ : GInt)⟩ : GRat)), (3, boxE 32 GRat.rep v1)]) F 18 a w := hAt; refine then_n ?_; refine wp_block ?_; obtain ⟨o6, hl7, H⟩ := bindE H
  refine wp_mono (wp_loopN (f := f_hull_times_L1 N x0) (fun (s2 : (GRat × Int)) a w => At B h0 (mkG [(7, fV (Rep.slice GRat.rep) x0), (8, fV r_i64 (List.length x0 : Int)), (9, fV r_i64 s2.2)]) (mkO [(2, boxE 32 GRat.rep (⟨(⟨false, []⟩ : GInt), (⟨false, []⟩ : GInt)⟩ : GRat)), (3, boxE 32 GRat.rep s2.1)]) F 18 a w) (fun o e a w => (fun v => e = .exit 0 ∧ At B h0 (mkG []) (mkO [(2, boxE 32 GRat.rep (⟨(⟨false, []⟩ : GInt), (⟨false, []⟩ : GInt)⟩ : GRat)), (3, boxE 32 GRat.rep v)]) F 18 a w) o) ?_ N (v1, 0) o6 _ _ hl7 ?_) ?_
  · clear H hAt hl7; intro s2 r8 a w H hAt; unfold f_hull_times_L1 at H; refine wp_seq ?_
    refine reg [⟨fV Rep.bool (cmpI .lss s2.2 (List.length x0 : Int)), [], [(9, none), (8, none)], []⟩] [7, 8, 9, 10] [2, 3] hAt
        ⟨ok_cmp (op := .lss) (by simp) rfl rfl opd0 opd1, trivial⟩ (by kernel_rfl) ?_
    clear hAt; intro a w hAt; replace hAt : At B h0 (mkG [(7, fV (Rep.slice GRat.rep) x0), (8, fV r_i64 (List.length x0 : Int)), (9, fV r_i64 s2.2), (10, fV Rep.bool (cmpI .lss s2.2 (List.length x0 : Int)))]) (mkO [(2, boxE 32 GRat.rep (⟨(⟨false, []⟩ : GInt), (⟨false, []⟩ : GInt)⟩ : GRat)), (3, boxE 32 GRat.rep s2.1)]) F 18 a w := hAt; refine then_n ?_; refine wp_seq ?_; refine wp_if hAt (by rfl) ?_ ?_
    · intro hb5; have H := iteT hb5 H; refine wp_skip ?_; refine then_n ?_; refine wp_seq ?_; refine wp_block ?_; refine wp_seq ?_; obtain ⟨v3, hv3, H⟩ := bindE H
      refine reg [⟨fRef GRat.rep v3, [], [(7, none), (9, none)], []⟩,
          ⟨fV GRat.rep v3, [], [(11, some 0)], []⟩,
          ⟨Fact.triv, [(5, some (boxE 32 GRat.rep (⟨(⟨false, []⟩ : GInt), (⟨false, []⟩ : GInt)⟩ : GRat)))], [], []⟩,
          ⟨Fact.triv, [(5, some (boxE 32 GRat.rep v3))], [(12, some 1)], [(5, some 2)]⟩] [7, 8, 9] [2, 3, 5] hAt
          ⟨ok_index ty32 un126 hv3 rfl opd0 opd1,
          ok_load ty32 rfl opd0,
          ok_alloc ty32 rfl rfl,
          ok_storeBox ty32 rfl rfl opd0, trivial⟩ (by kernel_rfl) ?_
      clear hAt; intro a w hAt; replace hAt : At B h0 (mkG [(7, fV (Rep.slice GRat.rep) x0), (8, fV r_i64 (List.length x0 : Int)), (9, fV r_i64 s2.2)]) (mkO [(2, boxE 32 GRat.rep (⟨(⟨false, []⟩ : GInt), (⟨false, []⟩ : GInt)⟩ : GRat)), (3, boxE 32 GRat.rep s2.1), (5, boxE 32 GRat.rep v3)]) F 18 a w := hAt; refine then_n ?_; obtain ⟨v4, hv4, H⟩ := bindE H
      refine reg [⟨fV GRat.rep s2.1, [], [], [(3, none)]⟩,
          ⟨fV GRat.rep v3, [], [], [(5, none)]⟩,
          ⟨fV GRat.rep v4, [], [(13, some 0), (14, some 1)], []⟩,
          ⟨Fact.triv, [(3, some (boxE 32 GRat.rep v4))], [(15, some 2)], [(3, none)]⟩] [7, 8, 9] [2, 3] hAt
          ⟨ok_loadBox ty32 rfl,
          ok_loadBox ty32 rfl,
          ok_call (ok_f_exact_MulRat N s2.1 v3 _ hv4) Try.func26 (by kernel_rfl) (by kernel_rfl) rfl ⟨opd0, ⟨opd1, trivial⟩⟩,
          ok_storeBox ty32 rfl rfl opd0, trivial⟩ (by kernel_rfl) ?_
      clear hAt; intro a w hAt; replace hAt : At B h0 (mkG [(7, fV (Rep.slice GRat.rep) x0), (8, fV r_i64 (List.length x0 : Int)), (9, fV r_i64 s2.2)]) (mkO [(2, boxE 32 GRat.rep (⟨(⟨false, []⟩ : GInt), (⟨false, []⟩ : GInt)⟩ : GRat)), (3, boxE 32 GRat.rep v4)]) F 18 a w := hAt; refine blk_n ?_; refine then_n ?_
      refine reg [⟨fV r_i64 (IntKind.i64.wrap (s2.2 + 1)), [], [(9, none)], []⟩,
          ⟨fV r_i64 (IntKind.i64.wrap (s2.2 + 1)), [], [(16, some 0)], []⟩] [7, 8, 9] [2, 3] hAt
          ⟨ok_add rfl opd0 opdI,
          ok_move rfl opd0, trivial⟩ (by kernel_rfl) ?_
      clear hAt; intro a w hAt; replace hAt : At B h0 (mkG [(7, fV (Rep.slice GRat.rep) x0), (8, fV r_i64 (List.length x0 : Int)), (9, fV r_i64 (IntKind.i64.wrap (s2.2 + 1)))]) (mkO [(2, boxE 32 GRat.rep (⟨(⟨false, []⟩ : GInt), (⟨false, []⟩ : GInt)⟩ : GRat)), (3, boxE 32 GRat.rep v4)]) F 18 a w := hAt
      cases H
      exact ⟨rfl, hAt.pick [7, 8, 9] [2, 3]⟩
    · intro hb5; have H := iteF hb5 H; refine wp_exit ?_; refine then_x ?_
      cases H
      exact ⟨ex_ne, rfl, hAt.pick [] [2, 3]⟩
  · exact hAt.pick [7, 8, 9] [2, 3]
  · clear hAt; intro e a w hp; obtain ⟨rfl, hAt⟩ := hp; refine blk_eq ?_; refine then_n ?_; refine wp_seq ?_
    refine reg [⟨fV GRat.rep o6, [], [], [(3, none)]⟩,
        ⟨Fact.triv, [(2, some (boxE 32 GRat.rep o6))], [(17, some 0)], [(2, none)]⟩] [] [2] hAt
        ⟨ok_loadBox ty32 rfl,
        ok_storeBox ty32 rfl rfl opd0, trivial⟩ (by kernel_rfl) ?_
    clear hAt; intro a w hAt; replace hAt : At B h0 (mkG []) (mkO [(2, boxE 32 GRat.rep o6)]) F 18 a w := hAt; refine then_n ?_; refine wp_ret ?_
    cases H
    exact ret1 rfl (rv_cell ty32 rfl) hAt
theorem ok_f_exact_over (N : Nat) (x0 : GRat) (x1 : GRat) (r : GRat) (H : f_exact_over N x0 x1 = some r) : FnOk Try.prog 109 [fV GRat.rep x0, fV GRat.rep x1] (fV GRat.rep r) := by
  unfold f_exact_over at H; refine fn_enter Try.func109 rfl rfl (by kernel_rfl) ?_; intro κ B h0 F a w hAt; refine wp_seq ?_
  refine reg [⟨fRef GRat.rep x0, [], [(0, none)], []⟩,
      ⟨fRef GRat.rep x1, [], [(1, none)], []⟩,
      ⟨Fact.triv, [(4, some (boxE 32 GRat.rep (⟨(⟨false, []⟩ : GInt), (⟨false, []⟩ : GInt)⟩ : GRat)))], [], []⟩] [2, 3] [4] hAt
      ⟨ok_box rfl opd0,
      ok_box rfl opd0,
      ok_alloc ty32 rfl rfl, trivial⟩ (by kernel_rfl) ?_
  clear hAt; intro a w hAt; replace hAt : At B h0 (mkG [(2, fRef GRat.rep x0), (3, fRef GRat.rep x1)]) (mkO [(4, boxE 32 GRat.rep (⟨(⟨false, []⟩ : GInt), (⟨false, []⟩ : GInt)⟩ : GRat))]) F 16 a w := hAt; refine then_n ?_; refine wp_seq ?_; obtain ⟨v1, hv1, H⟩ := bindE H; obtain ⟨v2, hv2, H⟩ := bindE H; obtain ⟨v3, hv3, H⟩ := bindE H; obtain ⟨v4, hv4, H⟩ := bindE H; obtain ⟨v5, hv5, H⟩ := bindE H
  refine regd [⟨fRef GInt.rep x0.Num, [], [(2, none)], []⟩,
      ⟨fV GInt.rep x0.Num, [], [(5, some 0)], []⟩,
      ⟨fV GRat.rep x1, [], [(3, none)], []⟩,
      ⟨fV GInt.rep v1, [], [(7, some 2)], []⟩,
      ⟨fV GInt.rep v2, [], [(6, some 1), (8, some 3)], []⟩,
      ⟨fV GRat.rep x0, [], [(2, none)], []⟩,
      ⟨fV GInt.rep v3, [], [(10, some 5)], []⟩,
      ⟨fRef GInt.rep x1.Num, [], [(3, none)], []⟩,
      ⟨fV GInt.rep x1.Num, [], [(12, some 7)], []⟩,
      ⟨fV GInt.rep v4, [], [(11, some 6), (13, some 8)], []⟩,
      ⟨fV GRat.rep v5, [], [(9, some 4), (14, some 9)], []⟩,
      ⟨Fact.triv, [(4, some (boxE 32 GRat.rep v5))], [(15, some 10)], [(4, none)]⟩] [0, 1, 2, 3, 4, 5, 6, 7, 8, 9, 10, 11] [0, 1, 2, 3, 4, 5, 6, 7, 8, 9, 10, 11] [] [4] hAt
      ⟨ok_field GRat.l0 fo32_0 rfl opd0,
      ok_load ty30 rfl opd0,
      ok_load ty32 rfl opd0,
      ok_call (ok_f_exact_below N x1 _ hv1) Try.func63 (by kernel_rfl) (by kernel_rfl) rfl ⟨opd0, trivial⟩,
      ok_call (ok_f_exact_Mul N x0.Num v1 _ hv2) Try.func66 (by kernel_rfl) (by kernel_rfl) rfl ⟨opd0, ⟨opd1, trivial⟩⟩,
      ok_load ty32 rfl opd0,
      ok_call (ok_f_exact_below N x0 _ hv3) Try.func63 (by kernel_rfl) (by kernel_rfl) rfl ⟨opd0, trivial⟩,
      ok_field GRat.l0 fo32_0 rfl opd0,
      ok_load ty30 rfl opd0,
      ok_call (ok_f_exact_Mul N v3 x1.Num _ hv4) Try.func66 (by kernel_rfl) (by kernel_rfl) rfl ⟨opd0, ⟨opd1, trivial⟩⟩,
      ok_call (ok_f_exact_fraction N v2 v4 _ hv5) Try.func64 (by kernel_rfl) (by kernel_rfl) rfl ⟨opd0, ⟨opd1, trivial⟩⟩,
      ok_storeBox ty32 rfl rfl opd0, trivial⟩ (by kernel_rfl) ?_
  clear hAt; intro a w hAt; replace hAt : At B h0 (mkG []) (mkO [(4, boxE 32 GRat.rep v5)]) F 16 a w := hAt; refine then_n ?_; refine wp_ret ?_
  cases H
  exact ret1 rfl (rv_cell ty32 rfl) hAt
theorem ok_f_exact_QuoRat (N : Nat) (x0 : GRat) (x1 : GRat) (r : GRat × Int) (H : f_exact_QuoRat N x0 x1 = some r) : FnOk Try.prog 84 [fV GRat.rep x0, fV GRat.rep x1] (fT2 (fV GRat.rep (r.1)) (fV r_i64 (r.2))) := by
  unfold f_exact_QuoRat at H; refine fn_enter Try.func84 rfl rfl (by kernel_rfl) ?_; intro κ B h0 F a w hAt; refine wp_seq ?_
  refine reg [⟨fRef GRat.rep x0, [], [(0, none)], []⟩,
      ⟨fRef GRat.rep x1, [], [(1, none)], []⟩,
      ⟨Fact.triv, [(4, some (boxE 32 GRat.rep (⟨(⟨false, []⟩ : GInt), (⟨false, []⟩ : GInt)⟩ : GRat)))], [], []⟩,
      ⟨fV r_i64 0, [], [], []⟩] [2, 3] [4] hAt
      ⟨ok_box rfl opd0,
      ok_box rfl opd0,
      ok_alloc ty32 rfl rfl,
      ok_assign rfl opdI, trivial⟩ (by kernel_rfl) ?_
  clear hAt; intro a w hAt; replace hAt : At B h0 (mkG [(2, fRef GRat.rep x0), (3, fRef GRat.rep x1)]) (mkO [(4, boxE 32 GRat.rep (⟨(⟨false, []⟩ : GInt), (⟨false, []⟩ : GInt)⟩ : GRat))]) F 12 a w := hAt; refine then_n ?_; refine wp_seq ?_; refine wp_seq ?_; obtain ⟨v1, hv1, H⟩ := bindE H
  refine reg [⟨fV GRat.rep x1, [], [(3, none)], []⟩,
      ⟨fV Rep.bool v1, [], [(6, some 0)], []⟩] [2, 3, 7] [4] hAt
      ⟨ok_load ty32 rfl opd0,
      ok_call (ok_f_exact_isZero N x1 _ hv1) Try.func61 (by kernel_rfl) (by kernel_rfl) rfl ⟨opd0, trivial⟩, trivial⟩ (by kernel_rfl) ?_
  clear hAt; intro a w hAt; replace hAt : At B h0 (mkG [(2, fRef GRat.rep x0), (3, fRef GRat.rep x1), (7, fV Rep.bool v1)]) (mkO [(4, boxE 32 GRat.rep (⟨(⟨false, []⟩ : GInt), (⟨false, []⟩ : GInt)⟩ : GRat))]) F 12 a w := hAt; refine then_n ?_; refine wp_if hAt (by rfl) ?_ ?_
  · intro hb3; have H := iteT hb3 H; refine wp_seq ?_
    refine reg [⟨fV GRat.rep (⟨(⟨false, []⟩ : GInt), (⟨false, []⟩ : GInt)⟩ : GRat), [], [], []⟩,
        ⟨Fact.triv, [(4, some (boxE 32 GRat.rep (⟨(⟨false, []⟩ : GInt), (⟨false, []⟩ : GInt)⟩ : GRat)))], [(8, some 0)], [(4, none)]⟩,
        ⟨fV r_i64 9, [], [], []⟩] [5] [4] hAt
        ⟨ok_build ty32 rfl pl32 rfl fillN,
        ok_storeBox ty32 rfl rfl opd0,
        ok_assign rfl opdI, trivial⟩ (by kernel_rfl) ?_
    clear hAt; intro a w hAt; replace hAt : At B h0 (mkG [(5, fV r_i64 9)]) (mkO [(4, boxE 32 GRat.rep (⟨(⟨false, []⟩ : GInt), (⟨false, []⟩ : GInt)⟩ : GRat))]) F 12 a w := hAt; refine then_n ?_; refine wp_ret ?_; refine then_r ?_
    cases H
    exact ret2 rfl (rv_cell ty32 rfl) (rv_tmp rfl rfl) hAt
  · intro hb3; have H := iteF hb3 H; refine wp_skip ?_; refine then_n ?_; refine wp_seq ?_; obtain ⟨v2, hv2, H⟩ := bindE H
    refine reg [⟨fV GRat.rep x0, [], [(2, none)], []⟩,
        ⟨fV GRat.rep x1, [], [(3, none)], []⟩,
        ⟨fV GRat.rep v2, [], [(9, some 0), (10, some 1)], []⟩,
        ⟨Fact.triv, [(4, some (boxE 32 GRat.rep v2))], [(11, some 2)], [(4, none)]⟩,
        ⟨fV r_i64 0, [], [], []⟩] [5] [4] hAt
        ⟨ok_load ty32 rfl opd0,
        ok_load ty32 rfl opd0,
        ok_call (ok_f_exact_over N x0 x1 _ hv2) Try.func109 (by kernel_rfl) (by kernel_rfl) rfl ⟨opd0, ⟨opd1, trivial⟩⟩,
        ok_storeBox ty32 rfl rfl opd0,
        ok_assign rfl opdI, trivial⟩ (by kernel_rfl) ?_
    clear hAt; intro a w hAt; replace hAt : At B h0 (mkG [(5, fV r_i64 0)]) (mkO [(4, boxE 32 GRat.rep v2)]) F 12 a w := hAt; refine then_n ?_; refine wp_ret ?_
    cases H
    exact ret2 rfl (rv_cell ty32 rfl) (rv_tmp rfl rfl) hAt
theorem ok_f_hull_over (N : Nat) (x0 : GRat) (x1 : GRat) (r : GRat) (H : f_hull_over N x0 x1 = some r) : FnOk Try.prog 44 [fV GRat.rep x0, fV GRat.rep x1] (fV GRat.rep r) := by
  unfold f_hull_over at H; refine fn_enter Try.func44 rfl rfl (by kernel_rfl) ?_; intro κ B h0 F a w hAt; refine wp_seq ?_
  refine reg [⟨fRef GRat.rep x0, [], [(0, none)], []⟩,
      ⟨fRef GRat.rep x1, [], [(1, none)], []⟩,
      ⟨Fact.triv, [(4, some (boxE 32 GRat.rep (⟨(⟨false, []⟩ : GInt), (⟨false, []⟩ : GInt)⟩ : GRat)))], [], []⟩] [2, 3] [4] hAt
      ⟨ok_box rfl opd0,
      ok_box rfl opd0,
      ok_alloc ty32 rfl rfl, trivial⟩ (by kernel_rfl) ?_
  clear hAt; intro a w hAt; replace hAt : At B h0 (mkG [(2, fRef GRat.rep x0), (3, fRef GRat.rep x1)]) (mkO [(4, boxE 32 GRat.rep (⟨(⟨false, []⟩ : GInt), (⟨false, []⟩ : GInt)⟩ : GRat))]) F 14 a w := hAt; refine then_n ?_; refine wp_seq ?_; obtain ⟨v1, hv1, H⟩ := bindE H
  refine reg [⟨fV GRat.rep x0, [], [(2, none)], []⟩,
      ⟨fV GRat.rep x1, [], [(3, none)], []⟩,
      ⟨fT2 (fV GRat.rep v1.1) (fV r_i64 v1.2), [], [(8, some 0), (9, some 1)], []⟩,
      ⟨fT2 (fV GRat.rep v1.1) (fV r_i64 v1.2), [], [(10, some 2)], []⟩,
      ⟨fV GRat.rep v1.1, [], [(7, some 3)], []⟩,
      ⟨fV r_i64 v1.2, [], [(7, some 3)], []⟩,
      ⟨Fact.triv, [(5, some (boxE 32 GRat.rep (⟨(⟨false, []⟩ : GInt), (⟨false, []⟩ : GInt)⟩ : GRat)))], [], []⟩,
      ⟨Fact.triv, [(5, some (boxE 32 GRat.rep v1.1))], [(11, some 4)], [(5, some 6)]⟩,
      ⟨fV r_i64 v1.2, [], [(12, some 5)], []⟩] [] [4, 5] hAt
      ⟨ok_load ty32 rfl opd0,
      ok_load ty32 rfl opd0,
      ok_call (ok_f_exact_QuoRat N x0 x1 _ hv1) Try.func84 (by kernel_rfl) (by kernel_rfl) rfl ⟨opd0, ⟨opd1, trivial⟩⟩,
      ok_move rfl opd0,
      ok_ext20 rfl rfl opd0,
      ok_ext21 rfl rfl opd0,
      ok_alloc ty32 rfl rfl,
      ok_storeBox ty32 rfl rfl opd0,
      ok_assign rfl opd0, trivial⟩ (by kernel_rfl) ?_
  clear hAt; intro a w hAt; replace hAt : At B h0 (mkG []) (mkO [(4, boxE 32 GRat.rep (⟨(⟨false, []⟩ : GInt), (⟨false, []⟩ : GInt)⟩ : GRat)), (5, boxE 32 GRat.rep v1.1)]) F 14 a w := hAt; refine then_n ?_; refine wp_seq ?_
  refine reg [⟨fV GRat.rep v1.1, [], [], [(5, none)]⟩,
      ⟨Fact.triv, [(4, some (boxE 32 GRat.rep v1.1))], [(13, some 0)], [(4, none)]⟩] [] [4] hAt
      ⟨ok_loadBox ty32 rfl,
      ok_storeBox ty32 rfl rfl opd0, trivial⟩ (by kernel_rfl) ?_
  clear hAt; intro a w hAt; replace hAt : At B h0 (mkG []) (mkO [(4, boxE 32 GRat.rep v1.1)]) F 14 a w := hAt; refine then_n ?_; refine wp_ret ?_
  cases H
  exact ret1 rfl (rv_cell ty32 rfl) hAt
theorem ok_f_hull_immersed (N : Nat) (x0 : GStation) (x1 : GRat) (r : Ghull_section) (H : f_hull_immersed N x0 x1 = some r) : FnOk Try.prog 78 [fV GStation.rep x0, fV GRat.rep x1] (fV Ghull_section.rep r) := by
  unfold f_hull_immersed at H; refine fn_enter Try.func78 rfl rfl (by kernel_rfl) ?_; intro κ B h0 F a w hAt; refine wp_seq ?_
  refine reg [⟨fRef GStation.rep x0, [], [(0, none)], []⟩,
      ⟨fRef GRat.rep x1, [], [(1, none)], []⟩,
      ⟨Fact.triv, [(4, some (boxE 120 Ghull_section.rep (⟨(⟨(⟨false, []⟩ : GInt), (⟨false, []⟩ : GInt)⟩ : GRat), (⟨(⟨false, []⟩ : GInt), (⟨false, []⟩ : GInt)⟩ : GRat)⟩ : Ghull_section)))], [], []⟩] [2, 3] [4] hAt
      ⟨ok_box rfl opd0,
      ok_box rfl opd0,
      ok_alloc ty120 rfl rfl, trivial⟩ (by kernel_rfl) ?_
  clear hAt; intro a w hAt; replace hAt : At B h0 (mkG [(2, fRef GStation.rep x0), (3, fRef GRat.rep x1)]) (mkO [(4, boxE 120 Ghull_section.rep (⟨(⟨(⟨false, []⟩ : GInt), (⟨false, []⟩ : GInt)⟩ : GRat), (⟨(⟨false, []⟩ : GInt), (⟨false, []⟩ : GInt)⟩ : GRat)⟩ : Ghull_section))]) F 71 a w := hAt; refine then_n ?_; refine wp_seq ?_; obtain ⟨v1, hv1, H⟩ := bindE H; obtain ⟨v2, hv2, H⟩ := bindE H
  refine reg [⟨fV GRat.rep v1, [], [], []⟩,
      ⟨fV GRat.rep v2, [], [], []⟩,
      ⟨fV Ghull_section.rep (⟨v1, v2⟩ : Ghull_section), [], [(11, some 0), (12, some 1)], []⟩,
      ⟨Fact.triv, [(5, some (boxE 120 Ghull_section.rep (⟨(⟨(⟨false, []⟩ : GInt), (⟨false, []⟩ : GInt)⟩ : GRat), (⟨(⟨false, []⟩ : GInt), (⟨false, []⟩ : GInt)⟩ : GRat)⟩ : Ghull_section)))], [], []⟩,
      ⟨Fact.triv, [(5, some (boxE 120 Ghull_section.rep (⟨v1, v2⟩ : Ghull_section)))], [(13, some 2)], [(5, some 3)]⟩] [2, 3] [4, 5] hAt
      ⟨ok_call (ok_f_hull_whole N 0 _ hv1) Try.func42 (by kernel_rfl) (by kernel_rfl) rfl ⟨opdI, trivial⟩,
      ok_call (ok_f_hull_whole N 0 _ hv2) Try.func42 (by kernel_rfl) (by kernel_rfl) rfl ⟨opdI, trivial⟩,
      ok_build ty120 rfl pl120 rfl (fillC Ghull_section.l0 rfl opd0 (fillC Ghull_section.l1 rfl opd1 fillN)),
      ok_alloc ty120 rfl rfl,
      ok_storeBox ty120 rfl rfl opd0, trivial⟩ (by kernel_rfl) ?_
  clear hAt; intro a w hAt; replace hAt : At B h0 (mkG [(2, fRef GStation.rep x0), (3, fRef GRat.rep x1)]) (mkO [(4, boxE 120 Ghull_section.rep (⟨(⟨(⟨false, []⟩ : GInt), (⟨false, []⟩ : GInt)⟩ : GRat), (⟨(⟨false, []⟩ : GInt), (⟨false, []⟩ : GInt)⟩ : GRat)⟩ : Ghull_section)), (5, boxE 120 Ghull_section.rep (⟨v1, v2⟩ : Ghull_section))]) F 71 a w := hAt; refine then_n ?_; refine wp_seq ?_
  refine wp_seq ?_
  refine reg [⟨fRef (Rep.slice r_i64) x0.Halves, [], [(2, none)], []⟩,
      ⟨fV (Rep.slice r_i64) x0.Halves, [], [(14, some 0)], []⟩,
      ⟨fV r_i64 (List.length x0.Halves : Int), [], [(15, some 1)], []⟩,
      ⟨fV r_i64 0, [], [], []⟩] [2, 3, 15, 16, 17] [4, 5] hAt
      ⟨ok_field GStation.l3 fo71_3 rfl opd0,
      ok_load ty69 rfl opd0,
      ok_len un69 rfl opd0,
      ok_move rfl opdI, trivial⟩ (by kernel_rfl) ?_
  clear hAt; intro a w hAt
  replace hAt : At B h0 (mkG [(2, fRef GStation.rep x0), (3, fRef GRat.rep x1), (15, fV (Rep.slice r_i64) x0.Halves), (16, fV r_i64 (List.length x0.Halves : Int)), (17, fV r_i64 0)]) (mkO [(4, boxE 120 Ghull_section.rep (⟨(⟨(⟨false, []⟩ : GInt), (⟨false, []⟩ : GInt)⟩ : GRat), (⟨(⟨false, []⟩ : GInt), (⟨false, []⟩ : GInt)⟩ : GRat)⟩ : Ghull_section)), (5, boxE 120 Ghull_section.rep (⟨v1, v2⟩ : Ghull_section))]) F 71 a w := hAt
  refine then_n ?_; refine wp_block ?_; obtain ⟨o25, hl26, H⟩ := bindE H
  refine wp_mono (wp_loopN (f := f_hull_immersed_L1 N x0 x1) (fun (s3 : (Ghull_section × Int)) a w => At B h0 (mkG [(2, fRef GStation.rep x0), (3, fRef GRat.rep x1), (15, fV (Rep.slice r_i64) x0.Halves), (16, fV r_i64 (List.length x0.Halves : Int)), (17, fV r_i64 s3.2)]) (mkO [(4, boxE 120 Ghull_section.rep (⟨(⟨(⟨false, []⟩ : GInt), (⟨false, []⟩ : GInt)⟩ : GRat), (⟨(⟨false, []⟩ : GInt), (⟨false, []⟩ : GInt)⟩ : GRat)⟩ : Ghull_section)), (5, boxE 120 Ghull_section.rep s3.1)]) F 71 a w) (fun o e a w => (fun v => e = .exit 0 ∧ At B h0 (mkG []) (mkO [(4, boxE 120 Ghull_section.rep (⟨(⟨(⟨false, []⟩ : GInt), (⟨false, []⟩ : GInt)⟩ : GRat), (⟨(⟨false, []⟩ : GInt), (⟨false, []⟩ : GInt)⟩ : GRat)⟩ : Ghull_section)), (5, boxE 120 Ghull_section.rep v)]) F 71 a w) o) ?_ N ((⟨v1, v2⟩ : Ghull_section), 0) o25 _ _ hl26 ?_) ?_
  · clear H hAt hl26; intro s3 r27 a w H hAt; unfold f_hull_immersed_L1 at H; refine wp_seq ?_
    refine reg [⟨fV Rep.bool (cmpI .lss s3.2 (List.length x0.Halves : Int)), [], [(17, none), (16, none)], []⟩] [2, 3, 15, 16, 17, 18] [4, 5] hAt
        ⟨ok_cmp (op := .lss) (by simp) rfl rfl opd0 opd1, trivial⟩ (by kernel_rfl) ?_
    clear hAt; intro a w hAt
    replace hAt : At B h0 (mkG [(2, fRef GStation.rep x0), (3, fRef GRat.rep x1), (15, fV (Rep.slice r_i64) x0.Halves), (16, fV r_i64 (List.length x0.Halves : Int)), (17, fV r_i64 s3.2), (18, fV Rep.bool (cmpI .lss s3.2 (List.length x0.Halves : Int)))]) (mkO [(4, boxE 120 Ghull_section.rep (⟨(⟨(⟨false, []⟩ : GInt), (⟨false, []⟩ : GInt)⟩ : GRat), (⟨(⟨false, []⟩ : GInt), (⟨false, []⟩ : GInt)⟩ : GRat)⟩ : Ghull_section)), (5, boxE 120 Ghull_section.rep s3.1)]) F 71 a w := hAt
    refine then_n ?_; refine wp_seq ?_; refine wp_if hAt (by rfl) ?_ ?_
    · intro hb24; have H := iteT hb24 H; refine wp_skip ?_; refine then_n ?_; refine wp_seq ?_; refine wp_block ?_; refine wp_seq ?_; obtain ⟨v4, hv4, H⟩ := bindE H
      refine reg [⟨fV r_i64 s3.2, [], [(17, none)], []⟩,
          ⟨fRef r_i64 v4, [], [(15, none), (17, none)], []⟩,
          ⟨fV r_i64 v4, [], [(20, some 1)], []⟩,
          ⟨fV r_i64 s3.2, [], [(19, some 0)], []⟩,
          ⟨fV r_i64 v4, [], [(21, some 2)], []⟩] [2, 3, 6, 7, 15, 16, 17] [4, 5] hAt
          ⟨ok_move rfl opd0,
          ok_index ty3 un69 hv4 rfl opd0 opd1,
          ok_load ty3 rfl opd0,
          ok_assign rfl opd0,
          ok_assign rfl opd0, trivial⟩ (by kernel_rfl) ?_
      clear hAt; intro a w hAt
      replace hAt : At B h0 (mkG [(2, fRef GStation.rep x0), (3, fRef GRat.rep x1), (6, fV r_i64 s3.2), (7, fV r_i64 v4), (15, fV (Rep.slice r_i64) x0.Halves), (16, fV r_i64 (List.length x0.Halves : Int)), (17, fV r_i64 s3.2)]) (mkO [(4, boxE 120 Ghull_section.rep (⟨(⟨(⟨false, []⟩ : GInt), (⟨false, []⟩ : GInt)⟩ : GRat), (⟨(⟨false, []⟩ : GInt), (⟨false, []⟩ : GInt)⟩ : GRat)⟩ : Ghull_section)), (5, boxE 120 Ghull_section.rep s3.1)]) F 71 a w := hAt
      refine then_n ?_; refine wp_seq ?_; obtain ⟨v5, hv5, H⟩ := bindE H; obtain ⟨v6, hv6, H⟩ := bindE H; obtain ⟨v7, hv7, H⟩ := bindE H; obtain ⟨v8, hv8, H⟩ := bindE H
      refine regd [⟨fRef (Rep.slice r_i64) x0.Levels, [], [(2, none)], []⟩,
          ⟨fV (Rep.slice r_i64) x0.Levels, [], [(22, some 0)], []⟩,
          ⟨fV r_i64 s3.2, [], [(6, none)], []⟩,
          ⟨fRef r_i64 v5, [], [(23, some 1), (24, some 2)], []⟩,
          ⟨fV r_i64 v5, [], [(25, some 3)], []⟩,
          ⟨fV GRat.rep v6, [], [(26, some 4)], []⟩,
          ⟨fRef (Rep.slice r_i64) x0.Levels, [], [(2, none)], []⟩,
          ⟨fV (Rep.slice r_i64) x0.Levels, [], [(28, some 6)], []⟩,
          ⟨fV r_i64 s3.2, [], [(6, none)], []⟩,
          ⟨fV r_i64 (IntKind.i64.wrap (s3.2 + 1)), [], [(30, some 8)], []⟩,
          ⟨fRef r_i64 v7, [], [(29, some 7), (31, some 9)], []⟩,
          ⟨fV r_i64 v7, [], [(32, some 10)], []⟩,
          ⟨fV GRat.rep v8, [], [(33, some 11)], []⟩,
          ⟨Fact.triv, [(8, some (boxE 32 GRat.rep (⟨(⟨false, []⟩ : GInt), (⟨false, []⟩ : GInt)⟩ : GRat)))], [], []⟩,
          ⟨Fact.triv, [(9, some (boxE 32 GRat.rep (⟨(⟨false, []⟩ : GInt), (⟨false, []⟩ : GInt)⟩ : GRat)))], [], []⟩,
          ⟨Fact.triv, [(8, some (boxE 32 GRat.rep v6))], [(27, some 5)], [(8, some 13)]⟩,
          ⟨Fact.triv, [(9, some (boxE 32 GRat.rep v8))], [(34, some 12)], [(9, some 14)]⟩] [0, 1, 2, 3, 4, 5, 6, 7, 8, 9, 10, 11, 12, 13, 14, 15, 16] [0, 1, 2, 3, 4, 5, 6, 7, 8, 9, 10, 11, 12, 13, 14, 15, 16] [2, 3, 7, 15, 16, 17] [4, 5, 8, 9] hAt
          ⟨ok_field GStation.l2 fo71_2 rfl opd0,
          ok_load ty69 rfl opd0,
          ok_move rfl opd0,
          ok_index ty3 un69 hv5 rfl opd0 opd1,
          ok_load ty3 rfl opd0,
          ok_call (ok_f_hull_whole N v5 _ hv6) Try.func42 (by kernel_rfl) (by kernel_rfl) rfl ⟨opd0, trivial⟩,
          ok_field GStation.l2 fo71_2 rfl opd0,
          ok_load ty69 rfl opd0,
          ok_move rfl opd0,
          ok_add rfl opd0 opdI,
          ok_index ty3 un69 hv7 rfl opd0 opd1,
          ok_load ty3 rfl opd0,
          ok_call (ok_f_hull_whole N v7 _ hv8) Try.func42 (by kernel_rfl) (by kernel_rfl) rfl ⟨opd0, trivial⟩,
          ok_alloc ty32 rfl rfl,
          ok_alloc ty32 rfl rfl,
          ok_storeBox ty32 rfl rfl opd0,
          ok_storeBox ty32 rfl rfl opd0, trivial⟩ (by kernel_rfl) ?_
      clear hAt; intro a w hAt
      replace hAt : At B h0 (mkG [(2, fRef GStation.rep x0), (3, fRef GRat.rep x1), (7, fV r_i64 v4), (15, fV (Rep.slice r_i64) x0.Halves), (16, fV r_i64 (List.length x0.Halves : Int)), (17, fV r_i64 s3.2)]) (mkO [(4, boxE 120 Ghull_section.rep (⟨(⟨(⟨false, []⟩ : GInt), (⟨false, []⟩ : GInt)⟩ : GRat), (⟨(⟨false, []⟩ : GInt), (⟨false, []⟩ : GInt)⟩ : GRat)⟩ : Ghull_section)), (5, boxE 120 Ghull_section.rep s3.1), (8, boxE 32 GRat.rep v6), (9, boxE 32 GRat.rep v8)]) F 71 a w := hAt
      refine then_n ?_; refine wp_seq ?_; refine wp_seq ?_; obtain ⟨v9, hv9, H⟩ := bindE H
      refine reg [⟨fV GRat.rep x1, [], [(3, none)], []⟩,
          ⟨fV GRat.rep v6, [], [], [(8, none)]⟩,
          ⟨fV r_i64 v9, [], [(35, some 0), (36, some 1)], []⟩,
          ⟨fV Rep.bool (cmpI .leq v9 0), [], [(37, some 2)], []⟩] [2, 3, 7, 15, 16, 17, 38] [4, 5, 8, 9] hAt
          ⟨ok_load ty32 rfl opd0,
          ok_loadBox ty32 rfl,
          ok_call (ok_f_exact_CmpRat N x1 v6 _ hv9) Try.func24 (by kernel_rfl) (by kernel_rfl) rfl ⟨opd0, ⟨opd1, trivial⟩⟩,
          ok_cmp (op := .leq) (by simp) rfl rfl opd0 opdI, trivial⟩ (by kernel_rfl) ?_
      clear hAt; intro a w hAt
      replace hAt : At B h0 (mkG [(2, fRef GStation.rep x0), (3, fRef GRat.rep x1), (7, fV r_i64 v4), (15, fV (Rep.slice r_i64) x0.Halves), (16, fV r_i64 (List.length x0.Halves : Int)), (17, fV r_i64 s3.2), (38, fV Rep.bool (cmpI .leq v9 0))]) (mkO [(4, boxE 120 Ghull_section.rep (⟨(⟨(⟨false, []⟩ : GInt), (⟨false, []⟩ : GInt)⟩ : GRat), (⟨(⟨false, []⟩ : GInt), (⟨false, []⟩ : GInt)⟩ : GRat)⟩ : Ghull_section)), (5, boxE 120 Ghull_section.rep s3.1), (8, boxE 32 GRat.rep v6), (9, boxE 32 GRat.rep v8)]) F 71 a w := hAt
      refine then_n ?_; refine wp_if hAt (by rfl) ?_ ?_
      · intro hb23; have H := iteT hb23 H; refine wp_exit ?_; refine then_x ?_; refine blk_ne rfl ?_; refine then_x ?_
        cases H
        exact ⟨ex_ne, rfl, hAt.pick [] [4, 5]⟩
      · intro hb23; have H := iteF hb23 H; refine wp_skip ?_; refine then_n ?_; refine wp_seq ?_; obtain ⟨o12, hl13, H⟩ := bindE H
        refine wp_mono (Q := (fun o e a w => (fun v => e = .normal ∧ At B h0 (mkG [(2, fRef GStation.rep x0), (3, fRef GRat.rep x1), (7, fV r_i64 v4), (15, fV (Rep.slice r_i64) x0.Halves), (16, fV r_i64 (List.length x0.Halves : Int)), (17, fV r_i64 s3.2)]) (mkO [(4, boxE 120 Ghull_section.rep (⟨(⟨(⟨false, []⟩ : GInt), (⟨false, []⟩ : GInt)⟩ : GRat), (⟨(⟨false, []⟩ : GInt), (⟨false, []⟩ : GInt)⟩ : GRat)⟩ : Ghull_section)), (5, boxE 120 Ghull_section.rep s3.1), (8, boxE 32 GRat.rep v6), (9, boxE 32 GRat.rep v)]) F 71 a w) o) o12) ?_ ?_
        · clear H; have H := hl13; clear hl13; refine wp_seq ?_; obtain ⟨v10, hv10, H⟩ := bindE H
          refine reg [⟨fV GRat.rep x1, [], [(3, none)], []⟩,
              ⟨fV GRat.rep v8, [], [], [(9, none)]⟩,
              ⟨fV r_i64 v10, [], [(39, some 0), (40, some 1)], []⟩,
              ⟨fV Rep.bool (cmpI .lss v10 0), [], [(41, some 2)], []⟩] [2, 3, 7, 15, 16, 17, 42] [4, 5, 8, 9] hAt
              ⟨ok_load ty32 rfl opd0,
              ok_loadBox ty32 rfl,
              ok_call (ok_f_exact_CmpRat N x1 v8 _ hv10) Try.func24 (by kernel_rfl) (by kernel_rfl) rfl ⟨opd0, ⟨opd1, trivial⟩⟩,
              ok_cmp (op := .lss) (by simp) rfl rfl opd0 opdI, trivial⟩ (by kernel_rfl) ?_
          clear hAt; intro a w hAt
          replace hAt : At B h0 (mkG [(2, fRef GStation.rep x0), (3, fRef GRat.rep x1), (7, fV r_i64 v4), (15, fV (Rep.slice r_i64) x0.Halves), (16, fV r_i64 (List.length x0.Halves : Int)), (17, fV r_i64 s3.2), (42, fV Rep.bool (cmpI .lss v10 0))]) (mkO [(4, boxE 120 Ghull_section.rep (⟨(⟨(⟨false, []⟩ : GInt), (⟨false, []⟩ : GInt)⟩ : GRat), (⟨(⟨false, []⟩ : GInt), (⟨false, []⟩ : GInt)⟩ : GRat)⟩ : Ghull_section)), (5, boxE 120 Ghull_section.rep s3.1), (8, boxE 32 GRat.rep v6), (9, boxE 32 GRat.rep v8)]) F 71 a w := hAt
          refine then_n ?_; refine wp_if hAt (by rfl) ?_ ?_
          · intro hb11; have H := iteT hb11 H
            refine reg [⟨fV GRat.rep x1, [], [(3, none)], []⟩,
                ⟨Fact.triv, [(9, some (boxE 32 GRat.rep x1))], [(43, some 0)], [(9, none)]⟩] [2, 3, 7, 15, 16, 17] [4, 5, 8, 9] hAt
                ⟨ok_load ty32 rfl opd0,
                ok_storeBox ty32 rfl rfl opd0, trivial⟩ (by kernel_rfl) ?_
            clear hAt; intro a w hAt
            replace hAt : At B h0 (mkG [(2, fRef GStation.rep x0), (3, fRef GRat.rep x1), (7, fV r_i64 v4), (15, fV (Rep.slice r_i64) x0.Halves), (16, fV r_i64 (List.length x0.Halves : Int)), (17, fV r_i64 s3.2)]) (mkO [(4, boxE 120 Ghull_section.rep (⟨(⟨(⟨false, []⟩ : GInt), (⟨false, []⟩ : GInt)⟩ : GRat), (⟨(⟨false, []⟩ : GInt), (⟨false, []⟩ : GInt)⟩ : GRat)⟩ : Ghull_section)), (5, boxE 120 Ghull_section.rep s3.1), (8, boxE 32 GRat.rep v6), (9, boxE 32 GRat.rep x1)]) F 71 a w := hAt
            cases H
            exact ⟨rfl, hAt.pick [2, 3, 7, 15, 16, 17] [4, 5, 8, 9]⟩
          · intro hb11; have H := iteF hb11 H; refine wp_skip ?_
            cases H
            exact ⟨rfl, hAt.pick [2, 3, 7, 15, 16, 17] [4, 5, 8, 9]⟩
        · clear hAt; intro e a w hp; obtain ⟨rfl, hAt⟩ := hp; refine then_n ?_; refine wp_seq ?_; obtain ⟨v14, hv14, H⟩ := bindE H; obtain ⟨v15, hv15, H⟩ := bindE H; obtain ⟨v16, hv16, H⟩ := bindE H
          refine regd [⟨fV r_i64 v4, [], [(7, none)], []⟩,
              ⟨fV r_i64 (IntKind.i64.wrap (2 * v4)), [], [(44, some 0)], []⟩,
              ⟨fV GRat.rep v14, [], [(45, some 1)], []⟩,
              ⟨fV GRat.rep o12, [], [], [(9, none)]⟩,
              ⟨fV GRat.rep v6, [], [], [(8, none)]⟩,
              ⟨fV GRat.rep v15, [], [(47, some 3), (48, some 4)], []⟩,
              ⟨fV (Rep.slice GRat.rep) [v14, v15], [], [(46, some 2), (49, some 5)], []⟩,
              ⟨fV GRat.rep v16, [], [(50, some 6)], []⟩,
              ⟨Fact.triv, [(10, some (boxE 32 GRat.rep (⟨(⟨false, []⟩ : GInt), (⟨false, []⟩ : GInt)⟩ : GRat)))], [], []⟩,
              ⟨Fact.triv, [(10, some (boxE 32 GRat.rep v16))], [(51, some 7)], [(10, some 8)]⟩] [0, 1, 2, 3, 4, 5, 6, 7, 8, 9] [0, 1, 2, 3, 4, 5, 6, 7, 8, 9] [2, 3, 15, 16, 17] [4, 5, 8, 9, 10] hAt
              ⟨ok_move rfl opd0,
              ok_mul rfl opdI opd0,
              ok_call (ok_f_hull_whole N (IntKind.i64.wrap (2 * v4)) _ hv14) Try.func42 (by kernel_rfl) (by kernel_rfl) rfl ⟨opd0, trivial⟩,
              ok_loadBox ty32 rfl,
              ok_loadBox ty32 rfl,
              ok_call (ok_f_exact_SubRat N o12 v6 _ hv15) Try.func27 (by kernel_rfl) (by kernel_rfl) rfl ⟨opd0, ⟨opd1, trivial⟩⟩,
              ok_buildSlice ty32 un126 rfl rfl (fillC (Lens.arr _ _ 0 (by decide)) rfl opd0 (fillC (Lens.arr _ _ 1 (by decide)) rfl opd1 fillN)),
              ok_call (ok_f_hull_times N [v14, v15] _ hv16) Try.func43 (by kernel_rfl) (by kernel_rfl) rfl ⟨opd0, trivial⟩,
              ok_alloc ty32 rfl rfl,
              ok_storeBox ty32 rfl rfl opd0, trivial⟩ (by kernel_rfl) ?_
          clear hAt; intro a w hAt
          replace hAt : At B h0 (mkG [(2, fRef GStation.rep x0), (3, fRef GRat.rep x1), (15, fV (Rep.slice r_i64) x0.Halves), (16, fV r_i64 (List.length x0.Halves : Int)), (17, fV r_i64 s3.2)]) (mkO [(4, boxE 120 Ghull_section.rep (⟨(⟨(⟨false, []⟩ : GInt), (⟨false, []⟩ : GInt)⟩ : GRat), (⟨(⟨false, []⟩ : GInt), (⟨false, []⟩ : GInt)⟩ : GRat)⟩ : Ghull_section)), (5, boxE 120 Ghull_section.rep s3.1), (8, boxE 32 GRat.rep v6), (9, boxE 32 GRat.rep o12), (10, boxE 32 GRat.rep v16)]) F 71 a w := hAt
          refine then_n ?_; refine wp_seq ?_; obtain ⟨v17, hv17, H⟩ := bindE H
          refine reg [⟨fOff 5 0, [], [], [(5, none)]⟩,
              ⟨fV GRat.rep s3.1.area, [], [(52, some 0)], [(5, none)]⟩,
              ⟨fV GRat.rep v16, [], [], [(10, none)]⟩,
              ⟨fV GRat.rep v17, [], [(53, some 1), (54, some 2)], []⟩,
              ⟨fOff 5 0, [], [], [(5, none)]⟩,
              ⟨Fact.triv, [(5, some (boxE 120 Ghull_section.rep ({ s3.1 with area := v17 } : Ghull_section)))], [(56, some 4), (55, some 3)], [(5, none)]⟩] [2, 3, 15, 16, 17] [4, 5, 8, 9, 10] hAt
              ⟨ok_fieldOwn fo120_0 rfl,
              ok_loadOwn Ghull_section.l0 ty32 rfl opd0,
              ok_loadBox ty32 rfl,
              ok_call (ok_f_exact_AddRat N s3.1.area v16 _ hv17) Try.func22 (by kernel_rfl) (by kernel_rfl) rfl ⟨opd0, ⟨opd1, trivial⟩⟩,
              ok_fieldOwn fo120_0 rfl,
              ok_store Ghull_section.l0 ty32 rfl rfl opd0 opd1 rfl, trivial⟩ (by kernel_rfl) ?_
          clear hAt; intro a w hAt
          replace hAt : At B h0 (mkG [(2, fRef GStation.rep x0), (3, fRef GRat.rep x1), (15, fV (Rep.slice r_i64) x0.Halves), (16, fV r_i64 (List.length x0.Halves : Int)), (17, fV r_i64 s3.2)]) (mkO [(4, boxE 120 Ghull_section.rep (⟨(⟨(⟨false, []⟩ : GInt), (⟨false, []⟩ : GInt)⟩ : GRat), (⟨(⟨false, []⟩ : GInt), (⟨false, []⟩ : GInt)⟩ : GRat)⟩ : Ghull_section)), (5, boxE 120 Ghull_section.rep ({ s3.1 with area := v17 } : Ghull_section)), (8, boxE 32 GRat.rep v6), (9, boxE 32 GRat.rep o12), (10, boxE 32 GRat.rep v16)]) F 71 a w := hAt
          refine then_n ?_; obtain ⟨v18, hv18, H⟩ := bindE H; obtain ⟨v19, hv19, H⟩ := bindE H; obtain ⟨v20, hv20, H⟩ := bindE H; obtain ⟨v21, hv21, H⟩ := bindE H; obtain ⟨v22, hv22, H⟩ := bindE H
          refine regd [⟨fOff 5 4, [], [], [(5, none)]⟩,
              ⟨fV GRat.rep (({ s3.1 with area := v17 } : Ghull_section).moment), [], [(57, some 0)], [(5, none)]⟩,
              ⟨fV GRat.rep v16, [], [], [(10, none)]⟩,
              ⟨fV GRat.rep v6, [], [], [(8, none)]⟩,
              ⟨fV GRat.rep o12, [], [], [(9, none)]⟩,
              ⟨fV GRat.rep v18, [], [(60, some 3), (61, some 4)], []⟩,
              ⟨fV (Rep.slice GRat.rep) [v16, v18], [], [(59, some 2), (62, some 5)], []⟩,
              ⟨fV GRat.rep v19, [], [(63, some 6)], []⟩,
              ⟨fV GRat.rep v20, [], [], []⟩,
              ⟨fV GRat.rep v21, [], [(64, some 7), (65, some 8)], []⟩,
              ⟨fV GRat.rep v22, [], [(58, some 1), (66, some 9)], []⟩,
              ⟨fOff 5 4, [], [], [(5, none)]⟩,
              ⟨Fact.triv, [(5, some (boxE 120 Ghull_section.rep ({ ({ s3.1 with area := v17 } : Ghull_section) with moment := v22 } : Ghull_section)))], [(68, some 11), (67, some 10)], [(5, none)]⟩] [0, 1, 2, 3, 4, 5, 6, 7, 8, 9, 10, 11, 12] [0, 1, 2, 3, 4, 5, 6, 7, 8, 9, 10, 11, 12] [2, 3, 15, 16, 17] [4, 5] hAt
              ⟨ok_fieldOwn fo120_1 rfl,
              ok_loadOwn Ghull_section.l1 ty32 rfl opd0,
              ok_loadBox ty32 rfl,
              ok_loadBox ty32 rfl,
              ok_loadBox ty32 rfl,
              ok_call (ok_f_exact_AddRat N v6 o12 _ hv18) Try.func22 (by kernel_rfl) (by kernel_rfl) rfl ⟨opd0, ⟨opd1, trivial⟩⟩,
              ok_buildSlice ty32 un126 rfl rfl (fillC (Lens.arr _ _ 0 (by decide)) rfl opd0 (fillC (Lens.arr _ _ 1 (by decide)) rfl opd1 fillN)),
              ok_call (ok_f_hull_times N [v16, v18] _ hv19) Try.func43 (by kernel_rfl) (by kernel_rfl) rfl ⟨opd0, trivial⟩,
              ok_call (ok_f_hull_whole N 2 _ hv20) Try.func42 (by kernel_rfl) (by kernel_rfl) rfl ⟨opdI, trivial⟩,
              ok_call (ok_f_hull_over N v19 v20 _ hv21) Try.func44 (by kernel_rfl) (by kernel_rfl) rfl ⟨opd0, ⟨opd1, trivial⟩⟩,
              ok_call (ok_f_exact_AddRat N (({ s3.1 with area := v17 } : Ghull_section).moment) v21 _ hv22) Try.func22 (by kernel_rfl) (by kernel_rfl) rfl ⟨opd0, ⟨opd1, trivial⟩⟩,
              ok_fieldOwn fo120_1 rfl,
              ok_store Ghull_section.l1 ty32 rfl rfl opd0 opd1 rfl, trivial⟩ (by kernel_rfl) ?_
          clear hAt; intro a w hAt
          replace hAt : At B h0 (mkG [(2, fRef GStation.rep x0), (3, fRef GRat.rep x1), (15, fV (Rep.slice r_i64) x0.Halves), (16, fV r_i64 (List.length x0.Halves : Int)), (17, fV r_i64 s3.2)]) (mkO [(4, boxE 120 Ghull_section.rep (⟨(⟨(⟨false, []⟩ : GInt), (⟨false, []⟩ : GInt)⟩ : GRat), (⟨(⟨false, []⟩ : GInt), (⟨false, []⟩ : GInt)⟩ : GRat)⟩ : Ghull_section)), (5, boxE 120 Ghull_section.rep ({ ({ s3.1 with area := v17 } : Ghull_section) with moment := v22 } : Ghull_section))]) F 71 a w := hAt
          refine blk_n ?_; refine then_n ?_
          refine reg [⟨fV r_i64 (IntKind.i64.wrap (s3.2 + 1)), [], [(17, none)], []⟩,
              ⟨fV r_i64 (IntKind.i64.wrap (s3.2 + 1)), [], [(69, some 0)], []⟩] [2, 3, 15, 16, 17] [4, 5] hAt
              ⟨ok_add rfl opd0 opdI,
              ok_move rfl opd0, trivial⟩ (by kernel_rfl) ?_
          clear hAt; intro a w hAt
          replace hAt : At B h0 (mkG [(2, fRef GStation.rep x0), (3, fRef GRat.rep x1), (15, fV (Rep.slice r_i64) x0.Halves), (16, fV r_i64 (List.length x0.Halves : Int)), (17, fV r_i64 (IntKind.i64.wrap (s3.2 + 1)))]) (mkO [(4, boxE 120 Ghull_section.rep (⟨(⟨(⟨false, []⟩ : GInt), (⟨false, []⟩ : GInt)⟩ : GRat), (⟨(⟨false, []⟩ : GInt), (⟨false, []⟩ : GInt)⟩ : GRat)⟩ : Ghull_section)), (5, boxE 120 Ghull_section.rep ({ ({ s3.1 with area := v17 } : Ghull_section) with moment := v22 } : Ghull_section))]) F 71 a w := hAt
          cases H
          exact ⟨rfl, hAt.pick [2, 3, 15, 16, 17] [4, 5]⟩
    · intro hb24; have H := iteF hb24 H; refine wp_exit ?_; refine then_x ?_
      cases H
      exact ⟨ex_ne, rfl, hAt.pick [] [4, 5]⟩
  · exact hAt.pick [2, 3, 15, 16, 17] [4, 5]
  · clear hAt; intro e a w hp; obtain ⟨rfl, hAt⟩ := hp; refine blk_eq ?_; refine then_n ?_; refine wp_seq ?_
    refine reg [⟨fV Ghull_section.rep o25, [], [], [(5, none)]⟩,
        ⟨Fact.triv, [(4, some (boxE 120 Ghull_section.rep o25))], [(70, some 0)], [(4, none)]⟩] [] [4] hAt
        ⟨ok_loadBox ty120 rfl,
        ok_storeBox ty120 rfl rfl opd0, trivial⟩ (by kernel_rfl) ?_
    clear hAt; intro a w hAt; replace hAt : At B h0 (mkG []) (mkO [(4, boxE 120 Ghull_section.rep o25)]) F 71 a w := hAt; refine then_n ?_; refine wp_ret ?_
    cases H
    exact ret1 rfl (rv_cell ty120 rfl) hAt
theorem ok_f_hull_atWater (N : Nat) (x0 : GStation) (x1 : GRat) (r : Int) (H : f_hull_atWater N x0 x1 = some r) : FnOk Try.prog 79 [fV GStation.rep x0, fV GRat.rep x1] (fV r_i64 r) := by
  unfold f_hull_atWater at H; refine fn_enter Try.func79 rfl rfl (by kernel_rfl) ?_; intro κ B h0 F a w hAt; refine wp_seq ?_
  refine reg [⟨fRef GStation.rep x0, [], [(0, none)], []⟩,
      ⟨fRef GRat.rep x1, [], [(1, none)], []⟩,
      ⟨fV r_i64 0, [], [], []⟩] [2, 3] [] hAt
      ⟨ok_box rfl opd0,
      ok_box rfl opd0,
      ok_assign rfl opdI, trivial⟩ (by kernel_rfl) ?_
  clear hAt; intro a w hAt; replace hAt : At B h0 (mkG [(2, fRef GStation.rep x0), (3, fRef GRat.rep x1)]) (mkO []) F 38 a w := hAt; refine then_n ?_; refine wp_seq ?_; refine wp_seq ?_
  refine reg [⟨fRef (Rep.slice r_i64) x0.Halves, [], [(2, none)], []⟩,
      ⟨fV (Rep.slice r_i64) x0.Halves, [], [(7, some 0)], []⟩,
      ⟨fV r_i64 (List.length x0.Halves : Int), [], [(8, some 1)], []⟩,
      ⟨fV r_i64 0, [], [], []⟩] [2, 3, 8, 9, 10] [] hAt
      ⟨ok_field GStation.l3 fo71_3 rfl opd0,
      ok_load ty69 rfl opd0,
      ok_len un69 rfl opd0,
      ok_move rfl opdI, trivial⟩ (by kernel_rfl) ?_
  clear hAt; intro a w hAt; replace hAt : At B h0 (mkG [(2, fRef GStation.rep x0), (3, fRef GRat.rep x1), (8, fV (Rep.slice r_i64) x0.Halves), (9, fV r_i64 (List.length x0.Halves : Int)), (10, fV r_i64 0)]) (mkO []) F 38 a w := hAt; refine then_n ?_; refine wp_block ?_; obtain ⟨o11, hl12, H⟩ := bindE H
  refine wp_mono (wp_loopN (f := f_hull_atWater_L1 N x0 x1) (fun (s1 : Int) a w => At B h0 (mkG [(2, fRef GStation.rep x0), (3, fRef GRat.rep x1), (8, fV (Rep.slice r_i64) x0.Halves), (9, fV r_i64 (List.length x0.Halves : Int)), (10, fV r_i64 s1)]) (mkO []) F 38 a w) (fun o e a w => (Sum.elim (fun v => e = .exit 0 ∧ At B h0 (mkG []) (mkO []) F 38 a w) (fun v => e = .ret ∧ At B h0 (mkG [(4, fV r_i64 v)]) (mkO []) F 38 a w)) o) ?_ N 0 o11 _ _ hl12 ?_) ?_
  · clear H hAt hl12; intro s1 r15 a w H hAt; unfold f_hull_atWater_L1 at H; refine wp_seq ?_
    refine reg [⟨fV Rep.bool (cmpI .lss s1 (List.length x0.Halves : Int)), [], [(10, none), (9, none)], []⟩] [2, 3, 8, 9, 10, 11] [] hAt
        ⟨ok_cmp (op := .lss) (by simp) rfl rfl opd0 opd1, trivial⟩ (by kernel_rfl) ?_
    clear hAt; intro a w hAt; replace hAt : At B h0 (mkG [(2, fRef GStation.rep x0), (3, fRef GRat.rep x1), (8, fV (Rep.slice r_i64) x0.Halves), (9, fV r_i64 (List.length x0.Halves : Int)), (10, fV r_i64 s1), (11, fV Rep.bool (cmpI .lss s1 (List.length x0.Halves : Int)))]) (mkO []) F 38 a w := hAt; refine then_n ?_; refine wp_seq ?_; refine wp_if hAt (by rfl) ?_ ?_
    · intro hb10; have H := iteT hb10 H; refine wp_skip ?_; refine then_n ?_; refine wp_seq ?_; refine wp_block ?_; refine wp_seq ?_; obtain ⟨v2, hv2, H⟩ := bindE H
      refine reg [⟨fV r_i64 s1, [], [(10, none)], []⟩,
          ⟨fRef r_i64 v2, [], [(8, none), (10, none)], []⟩,
          ⟨fV r_i64 v2, [], [(13, some 1)], []⟩,
          ⟨fV r_i64 s1, [], [(12, some 0)], []⟩,
          ⟨fV r_i64 v2, [], [(14, some 2)], []⟩] [2, 3, 5, 6, 8, 9, 10] [] hAt
          ⟨ok_move rfl opd0,
          ok_index ty3 un69 hv2 rfl opd0 opd1,
          ok_load ty3 rfl opd0,
          ok_assign rfl opd0,
          ok_assign rfl opd0, trivial⟩ (by kernel_rfl) ?_
      clear hAt; intro a w hAt; replace hAt : At B h0 (mkG [(2, fRef GStation.rep x0), (3, fRef GRat.rep x1), (5, fV r_i64 s1), (6, fV r_i64 v2), (8, fV (Rep.slice r_i64) x0.Halves), (9, fV r_i64 (List.length x0.Halves : Int)), (10, fV r_i64 s1)]) (mkO []) F 38 a w := hAt; refine then_n ?_; refine wp_seq ?_; obtain ⟨v3, hv3, H⟩ := bindE H; obtain ⟨v4, hv4, H⟩ := bindE H; obtain ⟨v5, hv5, H⟩ := bindE H
      obtain ⟨v6, hv6, H⟩ := bindE H; obtain ⟨v7, hv7, H⟩ := bindE H; obtain ⟨v8, hv8, H⟩ := bindE H
      refine regd [⟨fV GRat.rep x1, [], [(3, none)], []⟩,
          ⟨fRef (Rep.slice r_i64) x0.Levels, [], [(2, none)], []⟩,
          ⟨fV (Rep.slice r_i64) x0.Levels, [], [(16, some 1)], []⟩,
          ⟨fV r_i64 s1, [], [(5, none)], []⟩,
          ⟨fRef r_i64 v3, [], [(17, some 2), (18, some 3)], []⟩,
          ⟨fV r_i64 v3, [], [(19, some 4)], []⟩,
          ⟨fV GRat.rep v4, [], [(20, some 5)], []⟩,
          ⟨fV r_i64 v5, [], [(15, some 0), (21, some 6)], []⟩,
          ⟨fV Rep.bool (cmpI .geq v5 0), [], [(22, some 7)], []⟩,
          ⟨fV Rep.bool (cmpI .geq v5 0), [], [(23, some 8)], []⟩,
          ⟨Fact.when ((cmpI .geq v5 0) = true) (fV GRat.rep x1), [], [(24, some 9), (3, none)], []⟩,
          ⟨Fact.when ((cmpI .geq v5 0) = true) (fRef (Rep.slice r_i64) x0.Levels), [], [(24, some 9), (2, none)], []⟩,
          ⟨Fact.when ((cmpI .geq v5 0) = true) (fV (Rep.slice r_i64) x0.Levels), [], [(24, some 9), (26, some 11)], []⟩,
          ⟨Fact.when ((cmpI .geq v5 0) = true) (fV r_i64 s1), [], [(24, some 9), (5, none)], []⟩,
          ⟨Fact.when ((cmpI .geq v5 0) = true) (fV r_i64 (IntKind.i64.wrap (s1 + 1))), [], [(24, some 9), (28, some 13)], []⟩,
          ⟨Fact.when ((cmpI .geq v5 0) = true) (fRef r_i64 v6), [], [(24, some 9), (27, some 12), (29, some 14)], []⟩,
          ⟨Fact.when ((cmpI .geq v5 0) = true) (fV r_i64 v6), [], [(24, some 9), (30, some 15)], []⟩,
          ⟨Fact.when ((cmpI .geq v5 0) = true) (fV GRat.rep v7), [], [(24, some 9), (31, some 16)], []⟩,
          ⟨Fact.when ((cmpI .geq v5 0) = true) (fV r_i64 v8), [], [(24, some 9), (25, some 10), (32, some 17)], []⟩,
          ⟨Fact.when ((cmpI .geq v5 0) = true) (fV Rep.bool (cmpI .lss v8 0)), [], [(24, some 9), (33, some 18)], []⟩,
          ⟨fV Rep.bool ((cmpI .geq v5 0) && (cmpI .lss v8 0)), [], [(24, some 9), (34, some 19)], []⟩] [0, 1, 2, 3, 4, 5, 6, 7, 8, 9, 10, 11, 12, 13, 14, 15, 16, 17, 18, 19, 20] [0, 1, 2, 3, 4, 5, 6, 7, 8, 9, 10, 11, 12, 13, 14, 15, 16, 17, 18, 19, 20] [2, 3, 6, 8, 9, 10, 35] [] hAt
          ⟨ok_load ty32 rfl opd0,
          ok_field GStation.l2 fo71_2 rfl opd0,
          ok_load ty69 rfl opd0,
          ok_move rfl opd0,
          ok_index ty3 un69 hv3 rfl opd0 opd1,
          ok_load ty3 rfl opd0,
          ok_call (ok_f_hull_whole N v3 _ hv4) Try.func42 (by kernel_rfl) (by kernel_rfl) rfl ⟨opd0, trivial⟩,
          ok_call (ok_f_exact_CmpRat N x1 v4 _ hv5) Try.func24 (by kernel_rfl) (by kernel_rfl) rfl ⟨opd0, ⟨opd1, trivial⟩⟩,
          ok_cmp (op := .geq) (by simp) rfl rfl opd0 opdI,
          ok_move rfl opd0,
          obl_tt rfl rfl rfl rfl rfl rfl rfl (fun hg => ok_load ty32 rfl opd1),
          obl_tt rfl rfl rfl rfl rfl rfl rfl (fun hg => ok_field GStation.l2 fo71_2 rfl opd1),
          obl_tt rfl rfl rfl rfl rfl rfl rfl (fun hg => ok_load ty69 rfl (opd1.on hg)),
          obl_tt rfl rfl rfl rfl rfl rfl rfl (fun hg => ok_move rfl opd1),
          obl_tt rfl rfl rfl rfl rfl rfl rfl (fun hg => ok_add rfl (opd1.on hg) opdI),
          obl_tt rfl rfl rfl rfl rfl rfl rfl (fun hg => ok_index ty3 un69 (iteT hg hv6) rfl (opd1.on hg) (opd2.on hg)),
          obl_tt rfl rfl rfl rfl rfl rfl rfl (fun hg => ok_load ty3 rfl (opd1.on hg)),
          obl_tt rfl rfl rfl rfl rfl rfl rfl (fun hg => ok_call (ok_f_hull_whole N v6 _ (iteT hg hv7)) Try.func42 (by kernel_rfl) (by kernel_rfl) rfl ⟨(opd1.on hg), trivial⟩),
          obl_tt rfl rfl rfl rfl rfl rfl rfl (fun hg => ok_call (ok_f_exact_CmpRat N x1 v7 _ (iteT hg hv8)) Try.func24 (by kernel_rfl) (by kernel_rfl) rfl ⟨(opd1.on hg), ⟨(opd2.on hg), trivial⟩⟩),
          obl_tt rfl rfl rfl rfl rfl rfl rfl (fun hg => ok_cmp (op := .lss) (by simp) rfl rfl (opd1.on hg) opdI),
          ok_and rfl opd0 (fun e => (opd1.on e)), trivial⟩ (by kernel_rfl) ?_
      clear hAt; intro a w hAt; replace hAt : At B h0 (mkG [(2, fRef GStation.rep x0), (3, fRef GRat.rep x1), (6, fV r_i64 v2), (8, fV (Rep.slice r_i64) x0.Halves), (9, fV r_i64 (List.length x0.Halves : Int)), (10, fV r_i64 s1), (35, fV Rep.bool ((cmpI .geq v5 0) && (cmpI .lss v8 0)))]) (mkO []) F 38 a w := hAt; refine then_n ?_; refine wp_if hAt (by rfl) ?_ ?_
      · intro hb9; have H := iteT hb9 H; refine wp_seq ?_
        refine reg [⟨fV r_i64 v2, [], [(6, none)], []⟩,
            ⟨fV r_i64 v2, [], [(36, some 0)], []⟩] [4] [] hAt
            ⟨ok_move rfl opd0,
            ok_assign rfl opd0, trivial⟩ (by kernel_rfl) ?_
        clear hAt; intro a w hAt; replace hAt : At B h0 (mkG [(4, fV r_i64 v2)]) (mkO []) F 38 a w := hAt; refine then_n ?_; refine wp_ret ?_; refine blk_r ?_; refine then_r ?_
        cases H
        exact ⟨ret_ne, rfl, hAt.pick [4] []⟩
      · intro hb9; have H := iteF hb9 H; refine wp_skip ?_; refine blk_n ?_; refine then_n ?_
        refine reg [⟨fV r_i64 (IntKind.i64.wrap (s1 + 1)), [], [(10, none)], []⟩,
            ⟨fV r_i64 (IntKind.i64.wrap (s1 + 1)), [], [(37, some 0)], []⟩] [2, 3, 8, 9, 10] [] hAt
            ⟨ok_add rfl opd0 opdI,
            ok_move rfl opd0, trivial⟩ (by kernel_rfl) ?_
        clear hAt; intro a w hAt; replace hAt : At B h0 (mkG [(2, fRef GStation.rep x0), (3, fRef GRat.rep x1), (8, fV (Rep.slice r_i64) x0.Halves), (9, fV r_i64 (List.length x0.Halves : Int)), (10, fV r_i64 (IntKind.i64.wrap (s1 + 1)))]) (mkO []) F 38 a w := hAt
        cases H
        exact ⟨rfl, hAt.pick [2, 3, 8, 9, 10] []⟩
    · intro hb10; have H := iteF hb10 H; refine wp_exit ?_; refine then_x ?_
      cases H
      exact ⟨ex_ne, rfl, hAt.pick [] []⟩
  · exact hAt.pick [2, 3, 8, 9, 10] []
  · clear hAt; intro e a w hp
    cases o11 with
    | inl l13 =>
      rw [Sum.elim_inl] at H; obtain ⟨rfl, hAt⟩ := hp; refine blk_eq ?_; refine then_n ?_; refine wp_seq ?_
      refine reg [⟨fV r_i64 0, [], [], []⟩] [4] [] hAt
          ⟨ok_assign rfl opdI, trivial⟩ (by kernel_rfl) ?_
      clear hAt; intro a w hAt; replace hAt : At B h0 (mkG [(4, fV r_i64 0)]) (mkO []) F 38 a w := hAt; refine then_n ?_; refine wp_ret ?_
      cases H
      exact ret1 rfl (rv_tmp rfl rfl) hAt
    | inr r14 =>
      rw [Sum.elim_inr] at H; replace hp := hp; obtain ⟨rfl, hAt⟩ := hp; refine blk_r ?_; refine then_r ?_
      cases H
      exact ret1 rfl (rv_tmp rfl rfl) hAt
theorem ok_f_hull_isZero (N : Nat) (x0 : GRat) (r : Bool) (H : f_hull_isZero N x0 = some r) : FnOk Try.prog 72 [fV GRat.rep x0] (fV Rep.bool r) := by
  unfold f_hull_isZero at H; refine fn_enter Try.func72 rfl rfl (by kernel_rfl) ?_; intro κ B h0 F a w hAt; refine wp_seq ?_
  refine reg [⟨fRef GRat.rep x0, [], [(0, none)], []⟩,
      ⟨fV Rep.bool false, [], [], []⟩] [1] [] hAt
      ⟨ok_box rfl opd0,
      ok_assign rfl opdB, trivial⟩ (by kernel_rfl) ?_
  clear hAt; intro a w hAt; replace hAt : At B h0 (mkG [(1, fRef GRat.rep x0)]) (mkO []) F 7 a w := hAt; refine then_n ?_; refine wp_seq ?_; obtain ⟨v1, hv1, H⟩ := bindE H; obtain ⟨v2, hv2, H⟩ := bindE H
  refine regd [⟨fV GRat.rep x0, [], [(1, none)], []⟩,
      ⟨fV GRat.rep v1, [], [], []⟩,
      ⟨fV r_i64 v2, [], [(3, some 0), (4, some 1)], []⟩,
      ⟨fV Rep.bool (cmpI .eql v2 0), [], [(5, some 2)], []⟩,
      ⟨fV Rep.bool (cmpI .eql v2 0), [], [(6, some 3)], []⟩] [0, 1, 2, 3, 4] [0, 1, 2, 3, 4] [2] [] hAt
      ⟨ok_load ty32 rfl opd0,
      ok_call (ok_f_hull_whole N 0 _ hv1) Try.func42 (by kernel_rfl) (by kernel_rfl) rfl ⟨opdI, trivial⟩,
      ok_call (ok_f_exact_CmpRat N x0 v1 _ hv2) Try.func24 (by kernel_rfl) (by kernel_rfl) rfl ⟨opd0, ⟨opd1, trivial⟩⟩,
      ok_cmp (op := .eql) (by simp) rfl rfl opd0 opdI,
      ok_assign rfl opd0, trivial⟩ (by kernel_rfl) ?_
  clear hAt; intro a w hAt; replace hAt : At B h0 (mkG [(2, fV Rep.bool (cmpI .eql v2 0))]) (mkO []) F 7 a w := hAt; refine then_n ?_; refine wp_ret ?_
  cases H
  exact ret1 rfl (rv_tmp rfl rfl) hAt
theorem ok_f_hull_mass (N : Nat) (x0 : GRat) (x1 : Int) (r : GRat) (H : f_hull_mass N x0 x1 = some r) : FnOk Try.prog 80 [fV GRat.rep x0, fV r_i64 x1] (fV GRat.rep r) := by
  unfold f_hull_mass at H; refine fn_enter Try.func80 rfl rfl (by kernel_rfl) ?_; intro κ B h0 F a w hAt; refine wp_seq ?_
  refine reg [⟨fRef GRat.rep x0, [], [(0, none)], []⟩,
      ⟨Fact.triv, [(4, some (boxE 32 GRat.rep (⟨(⟨false, []⟩ : GInt), (⟨false, []⟩ : GInt)⟩ : GRat)))], [], []⟩] [1, 2] [4] hAt
      ⟨ok_box rfl opd0,
      ok_alloc ty32 rfl rfl, trivial⟩ (by kernel_rfl) ?_
  clear hAt; intro a w hAt; replace hAt : At B h0 (mkG [(1, fV r_i64 x1), (2, fRef GRat.rep x0)]) (mkO [(4, boxE 32 GRat.rep (⟨(⟨false, []⟩ : GInt), (⟨false, []⟩ : GInt)⟩ : GRat))]) F 12 a w := hAt; refine then_n ?_; refine wp_seq ?_; obtain ⟨v1, hv1, H⟩ := bindE H; obtain ⟨v2, hv2, H⟩ := bindE H; obtain ⟨v3, hv3, H⟩ := bindE H; obtain ⟨v4, hv4, H⟩ := bindE H
  refine regd [⟨fV GRat.rep x0, [], [(2, none)], []⟩,
      ⟨fV r_i64 x1, [], [(1, none)], []⟩,
      ⟨fV GRat.rep v1, [], [(6, some 1)], []⟩,
      ⟨fV (Rep.slice GRat.rep) [x0, v1], [], [(5, some 0), (7, some 2)], []⟩,
      ⟨fV GRat.rep v2, [], [(8, some 3)], []⟩,
      ⟨fV GRat.rep v3, [], [], []⟩,
      ⟨fV GRat.rep v4, [], [(9, some 4), (10, some 5)], []⟩,
      ⟨Fact.triv, [(4, some (boxE 32 GRat.rep v4))], [(11, some 6)], [(4, none)]⟩] [0, 1, 2, 3, 4, 5, 6, 7] [0, 1, 2, 3, 4, 5, 6, 7] [] [4] hAt
      ⟨ok_load ty32 rfl opd0,
      ok_move rfl opd0,
      ok_call (ok_f_hull_whole N x1 _ hv1) Try.func42 (by kernel_rfl) (by kernel_rfl) rfl ⟨opd0, trivial⟩,
      ok_buildSlice ty32 un126 rfl rfl (fillC (Lens.arr _ _ 0 (by decide)) rfl opd0 (fillC (Lens.arr _ _ 1 (by decide)) rfl opd1 fillN)),
      ok_call (ok_f_hull_times N [x0, v1] _ hv2) Try.func43 (by kernel_rfl) (by kernel_rfl) rfl ⟨opd0, trivial⟩,
      ok_call (ok_f_hull_whole N 1000000000 _ hv3) Try.func42 (by kernel_rfl) (by kernel_rfl) rfl ⟨opdI, trivial⟩,
      ok_call (ok_f_hull_over N v2 v3 _ hv4) Try.func44 (by kernel_rfl) (by kernel_rfl) rfl ⟨opd0, ⟨opd1, trivial⟩⟩,
      ok_storeBox ty32 rfl rfl opd0, trivial⟩ (by kernel_rfl) ?_
  clear hAt; intro a w hAt; replace hAt : At B h0 (mkG []) (mkO [(4, boxE 32 GRat.rep v4)]) F 12 a w := hAt; refine then_n ?_; refine wp_ret ?_
  cases H
  exact ret1 rfl (rv_cell ty32 rfl) hAt
end Go.KB
