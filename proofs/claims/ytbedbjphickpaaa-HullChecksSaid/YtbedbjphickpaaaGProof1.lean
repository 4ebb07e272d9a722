/- The Go functions compute what the plain functions compute. Printed by a program. No condition. -/
import Derived.Test.YtbedbjphickpaaaGProof0
namespace Go.KB
open Go.Proofs
set_option maxRecDepth 100000
set_option linter.unusedVariables false
theorem ok_f_exact_Of (N : Nat) (x0 : Int) (r : GInt) (H : f_exact_Of N x0 = some r) : FnOk Try.prog 83 [fV r_i64 x0] (fV GInt.rep r) := by
  unfold f_exact_Of at H; refine fn_enter Try.func83 rfl rfl (by kernel_rfl) ?_; intro κ B h0 F a w hAt; refine wp_seq ?_
  refine reg [⟨Fact.triv, [(2, some (boxE 30 GInt.rep (⟨false, []⟩ : GInt)))], [], []⟩] [0] [2] hAt
      ⟨ok_alloc ty30 rfl rfl, trivial⟩ (by kernel_rfl) ?_
  clear hAt; intro a w hAt; replace hAt : At B h0 (mkG [(0, fV r_i64 x0)]) (mkO [(2, boxE 30 GInt.rep (⟨false, []⟩ : GInt))]) F 14 a w := hAt; refine then_n ?_; refine wp_seq ?_; refine wp_seq ?_
  refine reg [⟨fV r_i64 x0, [], [(0, none)], []⟩,
      ⟨fV Rep.bool (cmpI .lss x0 0), [], [(3, some 0)], []⟩] [0, 4] [2] hAt
      ⟨ok_move rfl opd0,
      ok_cmp (op := .lss) (by simp) rfl rfl opd0 opdI, trivial⟩ (by kernel_rfl) ?_
  clear hAt; intro a w hAt; replace hAt : At B h0 (mkG [(0, fV r_i64 x0), (4, fV Rep.bool (cmpI .lss x0 0))]) (mkO [(2, boxE 30 GInt.rep (⟨false, []⟩ : GInt))]) F 14 a w := hAt; refine then_n ?_; refine wp_if hAt (by rfl) ?_ ?_
  · intro hb5; have H := iteT hb5 H; refine wp_seq ?_; obtain ⟨v1, hv1, H⟩ := bindE H; obtain ⟨v2, hv2, H⟩ := bindE H
    refine reg [⟨fV r_i64 x0, [], [(0, none)], []⟩,
        ⟨fV r_u64 (IntKind.u64.wrap x0), [], [(5, some 0)], []⟩,
        ⟨fV r_u64 (IntKind.u64.wrap (0 - (IntKind.u64.wrap x0))), [], [(6, some 1)], []⟩,
        ⟨fV (Rep.slice r_u16) v1, [], [(7, some 2)], []⟩,
        ⟨fV GInt.rep v2, [], [(8, some 3)], []⟩,
        ⟨Fact.triv, [(2, some (boxE 30 GInt.rep v2))], [(9, some 4)], [(2, none)]⟩] [] [2] hAt
        ⟨ok_move rfl opd0,
        ok_conv un3 un109 rfl opd0,
        ok_neg rfl opd0,
        ok_call (ok_f_exact_natural N (IntKind.u64.wrap (0 - (IntKind.u64.wrap x0))) _ hv1) Try.func108 (by kernel_rfl) (by kernel_rfl) rfl ⟨opd0, trivial⟩,
        ok_call (ok_f_exact_signed N true v1 _ hv2) Try.func98 (by kernel_rfl) (by kernel_rfl) rfl ⟨opdB, ⟨opd0, trivial⟩⟩,
        ok_storeBox ty30 rfl rfl opd0, trivial⟩ (by kernel_rfl) ?_
    clear hAt; intro a w hAt; replace hAt : At B h0 (mkG []) (mkO [(2, boxE 30 GInt.rep v2)]) F 14 a w := hAt; refine then_n ?_; refine wp_ret ?_; refine then_r ?_
    cases H
    exact ret1 rfl (rv_cell ty30 rfl) hAt
  · intro hb5; have H := iteF hb5 H; refine wp_skip ?_; refine then_n ?_; refine wp_seq ?_; obtain ⟨v3, hv3, H⟩ := bindE H; obtain ⟨v4, hv4, H⟩ := bindE H
    refine reg [⟨fV r_i64 x0, [], [(0, none)], []⟩,
        ⟨fV r_u64 (IntKind.u64.wrap x0), [], [(10, some 0)], []⟩,
        ⟨fV (Rep.slice r_u16) v3, [], [(11, some 1)], []⟩,
        ⟨fV GInt.rep v4, [], [(12, some 2)], []⟩,
        ⟨Fact.triv, [(2, some (boxE 30 GInt.rep v4))], [(13, some 3)], [(2, none)]⟩] [] [2] hAt
        ⟨ok_move rfl opd0,
        ok_conv un3 un109 rfl opd0,
        ok_call (ok_f_exact_natural N (IntKind.u64.wrap x0) _ hv3) Try.func108 (by kernel_rfl) (by kernel_rfl) rfl ⟨opd0, trivial⟩,
        ok_call (ok_f_exact_signed N false v3 _ hv4) Try.func98 (by kernel_rfl) (by kernel_rfl) rfl ⟨opdB, ⟨opd0, trivial⟩⟩,
        ok_storeBox ty30 rfl rfl opd0, trivial⟩ (by kernel_rfl) ?_
    clear hAt; intro a w hAt; replace hAt : At B h0 (mkG []) (mkO [(2, boxE 30 GInt.rep v4)]) F 14 a w := hAt; refine then_n ?_; refine wp_ret ?_
    cases H
    exact ret1 rfl (rv_cell ty30 rfl) hAt
theorem ok_f_exact_word (N : Nat) (x0 : (List Int)) (r : Int × Bool) (H : f_exact_word N x0 = some r) : FnOk Try.prog 70 [fV (Rep.slice r_u16) x0] (fT2 (fV r_u64 (r.1)) (fV Rep.bool (r.2))) := by
  unfold f_exact_word at H; refine fn_enter Try.func70 rfl rfl (by kernel_rfl) ?_; intro κ B h0 F a w hAt; refine wp_seq ?_
  refine reg [⟨fV r_u64 0, [], [], []⟩,
      ⟨fV Rep.bool false, [], [], []⟩] [0] [] hAt
      ⟨ok_assign rfl opdI,
      ok_assign rfl opdB, trivial⟩ (by kernel_rfl) ?_
  clear hAt; intro a w hAt; replace hAt : At B h0 (mkG [(0, fV (Rep.slice r_u16) x0)]) (mkO []) F 25 a w := hAt; refine then_n ?_; refine wp_seq ?_; refine wp_seq ?_
  refine reg [⟨fV (Rep.slice r_u16) x0, [], [(0, none)], []⟩,
      ⟨fV r_i64 (List.length x0 : Int), [], [(6, some 0)], []⟩,
      ⟨fV Rep.bool (cmpI .gtr (List.length x0 : Int) 4), [], [(7, some 1)], []⟩] [0, 8] [] hAt
      ⟨ok_move rfl opd0,
      ok_len un28 rfl opd0,
      ok_cmp (op := .gtr) (by simp) rfl rfl opd0 opdI, trivial⟩ (by kernel_rfl) ?_
  clear hAt; intro a w hAt; replace hAt : At B h0 (mkG [(0, fV (Rep.slice r_u16) x0), (8, fV Rep.bool (cmpI .gtr (List.length x0 : Int) 4))]) (mkO []) F 25 a w := hAt; refine then_n ?_; refine wp_if hAt (by rfl) ?_ ?_
  · intro hb8; have H := iteT hb8 H; refine wp_seq ?_
    refine reg [⟨fV r_u64 0, [], [], []⟩,
        ⟨fV Rep.bool false, [], [], []⟩] [2, 3] [] hAt
        ⟨ok_assign rfl opdI,
        ok_assign rfl opdB, trivial⟩ (by kernel_rfl) ?_
    clear hAt; intro a w hAt; replace hAt : At B h0 (mkG [(2, fV r_u64 0), (3, fV Rep.bool false)]) (mkO []) F 25 a w := hAt; refine then_n ?_; refine wp_ret ?_; refine then_r ?_
    cases H
    exact ret2 rfl (rv_tmp rfl rfl) (rv_tmp rfl rfl) hAt
  · intro hb8; have H := iteF hb8 H; refine wp_skip ?_; refine then_n ?_; refine wp_seq ?_
    refine reg [⟨fV r_u64 0, [], [], []⟩] [0, 4] [] hAt
        ⟨ok_assign rfl opdI, trivial⟩ (by kernel_rfl) ?_
    clear hAt; intro a w hAt; replace hAt : At B h0 (mkG [(0, fV (Rep.slice r_u16) x0), (4, fV r_u64 0)]) (mkO []) F 25 a w := hAt; refine then_n ?_; refine wp_seq ?_; refine wp_seq ?_
    refine reg [⟨fV (Rep.slice r_u16) x0, [], [(0, none)], []⟩,
        ⟨fV r_i64 (List.length x0 : Int), [], [(9, some 0)], []⟩,
        ⟨fV r_i64 (IntKind.i64.wrap ((List.length x0 : Int) - 1)), [], [(10, some 1)], []⟩,
        ⟨fV r_i64 (IntKind.i64.wrap ((List.length x0 : Int) - 1)), [], [(11, some 2)], []⟩] [0, 4, 5] [] hAt
        ⟨ok_move rfl opd0,
        ok_len un28 rfl opd0,
        ok_sub rfl opd0 opdI,
        ok_assign rfl opd0, trivial⟩ (by kernel_rfl) ?_
    clear hAt; intro a w hAt; replace hAt : At B h0 (mkG [(0, fV (Rep.slice r_u16) x0), (4, fV r_u64 0), (5, fV r_i64 (IntKind.i64.wrap ((List.length x0 : Int) - 1)))]) (mkO []) F 25 a w := hAt; refine then_n ?_; refine wp_block ?_; obtain ⟨o5, hl6, H⟩ := bindE H
    refine wp_mono (wp_loopN (f := f_exact_word_L1 N x0) (fun (s1 : (Int × Int)) a w => At B h0 (mkG [(0, fV (Rep.slice r_u16) x0), (4, fV r_u64 s1.1), (5, fV r_i64 s1.2)]) (mkO []) F 25 a w) (fun o e a w => (fun v => e = .exit 0 ∧ At B h0 (mkG [(4, fV r_u64 v)]) (mkO []) F 25 a w) o) ?_ N (0, (IntKind.i64.wrap ((List.length x0 : Int) - 1))) o5 _ _ hl6 ?_) ?_
    · clear H hAt hl6; intro s1 r7 a w H hAt; unfold f_exact_word_L1 at H; refine wp_seq ?_; refine wp_seq ?_
      refine reg [⟨fV r_i64 s1.2, [], [(5, none)], []⟩,
          ⟨fV Rep.bool (cmpI .geq s1.2 0), [], [(12, some 0)], []⟩] [0, 4, 5, 13] [] hAt
          ⟨ok_move rfl opd0,
          ok_cmp (op := .geq) (by simp) rfl rfl opd0 opdI, trivial⟩ (by kernel_rfl) ?_
      clear hAt; intro a w hAt; replace hAt : At B h0 (mkG [(0, fV (Rep.slice r_u16) x0), (4, fV r_u64 s1.1), (5, fV r_i64 s1.2), (13, fV Rep.bool (cmpI .geq s1.2 0))]) (mkO []) F 25 a w := hAt; refine then_n ?_; refine wp_if hAt (by rfl) ?_ ?_
      · intro hb4; have H := iteT hb4 H; refine wp_skip ?_; refine then_n ?_; refine wp_seq ?_; refine wp_block ?_; obtain ⟨v2, hv2, H⟩ := bindE H; obtain ⟨v3, hv3, H⟩ := bindE H
        refine reg [⟨fV r_u64 s1.1, [], [(4, none)], []⟩,
            ⟨fV r_u64 v2, [], [(16, some 0)], []⟩,
            ⟨fV (Rep.slice r_u16) x0, [], [(0, none)], []⟩,
            ⟨fV r_i64 s1.2, [], [(5, none)], []⟩,
            ⟨fRef r_u16 v3, [], [(18, some 2), (19, some 3)], []⟩,
            ⟨fV r_u16 v3, [], [(20, some 4)], []⟩,
            ⟨fV r_u64 (IntKind.u64.wrap v3), [], [(21, some 5)], []⟩,
            ⟨fV r_u64 (bitI .or .u64 v2 (IntKind.u64.wrap v3)), [], [(17, some 1), (22, some 6)], []⟩,
            ⟨fV r_u64 (bitI .or .u64 v2 (IntKind.u64.wrap v3)), [], [(23, some 7)], []⟩] [0, 4, 5] [] hAt
            ⟨ok_move rfl opd0,
            ok_shl hv2 rfl opd0 opdI,
            ok_move rfl opd0,
            ok_move rfl opd0,
            ok_index ty35 un28 hv3 rfl opd0 opd1,
            ok_load ty35 rfl opd0,
            ok_conv un35 un109 rfl opd0,
            ok_bit (op := .or) (by simp) rfl opd0 opd1,
            ok_assign rfl opd0, trivial⟩ (by kernel_rfl) ?_
        clear hAt; intro a w hAt; replace hAt : At B h0 (mkG [(0, fV (Rep.slice r_u16) x0), (4, fV r_u64 (bitI .or .u64 v2 (IntKind.u64.wrap v3))), (5, fV r_i64 s1.2)]) (mkO []) F 25 a w := hAt; refine blk_n ?_; refine then_n ?_
        refine reg [⟨fV r_i64 s1.2, [], [(5, none)], []⟩,
            ⟨fV r_i64 (IntKind.i64.wrap (s1.2 - 1)), [], [(14, some 0)], []⟩,
            ⟨fV r_i64 (IntKind.i64.wrap (s1.2 - 1)), [], [(15, some 1)], []⟩] [0, 4, 5] [] hAt
            ⟨ok_move rfl opd0,
            ok_sub rfl opd0 opdI,
            ok_assign rfl opd0, trivial⟩ (by kernel_rfl) ?_
        clear hAt; intro a w hAt; replace hAt : At B h0 (mkG [(0, fV (Rep.slice r_u16) x0), (4, fV r_u64 (bitI .or .u64 v2 (IntKind.u64.wrap v3))), (5, fV r_i64 (IntKind.i64.wrap (s1.2 - 1)))]) (mkO []) F 25 a w := hAt
        cases H
        exact ⟨rfl, hAt.pick [0, 4, 5] []⟩
      · intro hb4; have H := iteF hb4 H; refine wp_exit ?_; refine then_x ?_
        cases H
        exact ⟨ex_ne, rfl, hAt.pick [4] []⟩
    · exact hAt.pick [0, 4, 5] []
    · clear hAt; intro e a w hp; obtain ⟨rfl, hAt⟩ := hp; refine blk_eq ?_; refine then_n ?_; refine wp_seq ?_
      refine reg [⟨fV r_u64 o5, [], [(4, none)], []⟩,
          ⟨fV r_u64 o5, [], [(24, some 0)], []⟩,
          ⟨fV Rep.bool true, [], [], []⟩] [2, 3] [] hAt
          ⟨ok_move rfl opd0,
          ok_assign rfl opd0,
          ok_assign rfl opdB, trivial⟩ (by kernel_rfl) ?_
      clear hAt; intro a w hAt; replace hAt : At B h0 (mkG [(2, fV r_u64 o5), (3, fV Rep.bool true)]) (mkO []) F 25 a w := hAt; refine then_n ?_; refine wp_ret ?_
      cases H
      exact ret2 rfl (rv_tmp rfl rfl) (rv_tmp rfl rfl) hAt
theorem ok_f_exact_compare (N : Nat) (x0 : (List Int)) (x1 : (List Int)) (r : Int) (H : f_exact_compare N x0 x1 = some r) : FnOk Try.prog 100 [fV (Rep.slice r_u16) x0, fV (Rep.slice r_u16) x1] (fV r_i64 r) := by
  unfold f_exact_compare at H; refine fn_enter Try.func100 rfl rfl (by kernel_rfl) ?_; intro κ B h0 F a w hAt; refine wp_seq ?_
  refine reg [⟨fV r_i64 0, [], [], []⟩] [0, 1] [] hAt
      ⟨ok_assign rfl opdI, trivial⟩ (by kernel_rfl) ?_
  clear hAt; intro a w hAt; replace hAt : At B h0 (mkG [(0, fV (Rep.slice r_u16) x0), (1, fV (Rep.slice r_u16) x1)]) (mkO []) F 43 a w := hAt; refine then_n ?_; refine wp_seq ?_; refine wp_seq ?_
  refine reg [⟨fV (Rep.slice r_u16) x0, [], [(0, none)], []⟩,
      ⟨fV r_i64 (List.length x0 : Int), [], [(6, some 0)], []⟩,
      ⟨fV (Rep.slice r_u16) x1, [], [(1, none)], []⟩,
      ⟨fV r_i64 (List.length x1 : Int), [], [(8, some 2)], []⟩,
      ⟨fV Rep.bool (cmpI .neq (List.length x0 : Int) (List.length x1 : Int)), [], [(7, some 1), (9, some 3)], []⟩] [0, 1, 10] [] hAt
      ⟨ok_move rfl opd0,
      ok_len un28 rfl opd0,
      ok_move rfl opd0,
      ok_len un28 rfl opd0,
      ok_cmp (op := .neq) (by simp) rfl rfl opd0 opd1, trivial⟩ (by kernel_rfl) ?_
  clear hAt; intro a w hAt; replace hAt : At B h0 (mkG [(0, fV (Rep.slice r_u16) x0), (1, fV (Rep.slice r_u16) x1), (10, fV Rep.bool (cmpI .neq (List.length x0 : Int) (List.length x1 : Int)))]) (mkO []) F 43 a w := hAt; refine then_n ?_; refine wp_if hAt (by rfl) ?_ ?_
  · intro hb13; have H := iteT hb13 H; refine wp_seq ?_
    refine reg [⟨fV (Rep.slice r_u16) x0, [], [(0, none)], []⟩,
        ⟨fV r_i64 (List.length x0 : Int), [], [(11, some 0)], []⟩,
        ⟨fV (Rep.slice r_u16) x1, [], [(1, none)], []⟩,
        ⟨fV r_i64 (List.length x1 : Int), [], [(13, some 2)], []⟩,
        ⟨fV r_i64 (IntKind.i64.wrap ((List.length x0 : Int) - (List.length x1 : Int))), [], [(12, some 1), (14, some 3)], []⟩,
        ⟨fV r_i64 (IntKind.i64.wrap ((List.length x0 : Int) - (List.length x1 : Int))), [], [(15, some 4)], []⟩] [4] [] hAt
        ⟨ok_move rfl opd0,
        ok_len un28 rfl opd0,
        ok_move rfl opd0,
        ok_len un28 rfl opd0,
        ok_sub rfl opd0 opd1,
        ok_assign rfl opd0, trivial⟩ (by kernel_rfl) ?_
    clear hAt; intro a w hAt; replace hAt : At B h0 (mkG [(4, fV r_i64 (IntKind.i64.wrap ((List.length x0 : Int) - (List.length x1 : Int))))]) (mkO []) F 43 a w := hAt; refine then_n ?_; refine wp_ret ?_; refine then_r ?_
    cases H
    exact ret1 rfl (rv_tmp rfl rfl) hAt
  · intro hb13; have H := iteF hb13 H; refine wp_skip ?_; refine then_n ?_; refine wp_seq ?_; refine wp_seq ?_
    refine reg [⟨fV (Rep.slice r_u16) x0, [], [(0, none)], []⟩,
        ⟨fV r_i64 (List.length x0 : Int), [], [(16, some 0)], []⟩,
        ⟨fV r_i64 (IntKind.i64.wrap ((List.length x0 : Int) - 1)), [], [(17, some 1)], []⟩,
        ⟨fV r_i64 (IntKind.i64.wrap ((List.length x0 : Int) - 1)), [], [(18, some 2)], []⟩] [0, 1, 5] [] hAt
        ⟨ok_move rfl opd0,
        ok_len un28 rfl opd0,
        ok_sub rfl opd0 opdI,
        ok_assign rfl opd0, trivial⟩ (by kernel_rfl) ?_
    clear hAt; intro a w hAt; replace hAt : At B h0 (mkG [(0, fV (Rep.slice r_u16) x0), (1, fV (Rep.slice r_u16) x1), (5, fV r_i64 (IntKind.i64.wrap ((List.length x0 : Int) - 1)))]) (mkO []) F 43 a w := hAt; refine then_n ?_; refine wp_block ?_; obtain ⟨o8, hl9, H⟩ := bindE H
    refine wp_mono (wp_loopN (f := f_exact_compare_L1 N x0 x1) (fun (s1 : Int) a w => At B h0 (mkG [(0, fV (Rep.slice r_u16) x0), (1, fV (Rep.slice r_u16) x1), (5, fV r_i64 s1)]) (mkO []) F 43 a w) (fun o e a w => (Sum.elim (fun v => e = .exit 0 ∧ At B h0 (mkG []) (mkO []) F 43 a w) (fun v => e = .ret ∧ At B h0 (mkG [(4, fV r_i64 v)]) (mkO []) F 43 a w)) o) ?_ N (IntKind.i64.wrap ((List.length x0 : Int) - 1)) o8 _ _ hl9 ?_) ?_
    · clear H hAt hl9; intro s1 r12 a w H hAt; unfold f_exact_compare_L1 at H; refine wp_seq ?_; refine wp_seq ?_
      refine reg [⟨fV r_i64 s1, [], [(5, none)], []⟩,
          ⟨fV Rep.bool (cmpI .geq s1 0), [], [(19, some 0)], []⟩] [0, 1, 5, 20] [] hAt
          ⟨ok_move rfl opd0,
          ok_cmp (op := .geq) (by simp) rfl rfl opd0 opdI, trivial⟩ (by kernel_rfl) ?_
      clear hAt; intro a w hAt; replace hAt : At B h0 (mkG [(0, fV (Rep.slice r_u16) x0), (1, fV (Rep.slice r_u16) x1), (5, fV r_i64 s1), (20, fV Rep.bool (cmpI .geq s1 0))]) (mkO []) F 43 a w := hAt; refine then_n ?_; refine wp_if hAt (by rfl) ?_ ?_
      · intro hb7; have H := iteT hb7 H; refine wp_skip ?_; refine then_n ?_; refine wp_seq ?_; refine wp_block ?_; refine wp_seq ?_; obtain ⟨v2, hv2, H⟩ := bindE H; obtain ⟨v3, hv3, H⟩ := bindE H
        refine regd [⟨fV (Rep.slice r_u16) x0, [], [(0, none)], []⟩,
            ⟨fV r_i64 s1, [], [(5, none)], []⟩,
            ⟨fRef r_u16 v2, [], [(23, some 0), (24, some 1)], []⟩,
            ⟨fV r_u16 v2, [], [(25, some 2)], []⟩,
            ⟨fV (Rep.slice r_u16) x1, [], [(1, none)], []⟩,
            ⟨fV r_i64 s1, [], [(5, none)], []⟩,
            ⟨fRef r_u16 v3, [], [(27, some 4), (28, some 5)], []⟩,
            ⟨fV r_u16 v3, [], [(29, some 6)], []⟩,
            ⟨fV Rep.bool (cmpI .neq v2 v3), [], [(26, some 3), (30, some 7)], []⟩] [0, 1, 2, 3, 4, 5, 6, 7, 8] [0, 1, 2, 3, 4, 5, 6, 7, 8] [0, 1, 5, 31] [] hAt
            ⟨ok_move rfl opd0,
            ok_move rfl opd0,
            ok_index ty35 un28 hv2 rfl opd0 opd1,
            ok_load ty35 rfl opd0,
            ok_move rfl opd0,
            ok_move rfl opd0,
            ok_index ty35 un28 hv3 rfl opd0 opd1,
            ok_load ty35 rfl opd0,
            ok_cmp (op := .neq) (by simp) rfl rfl opd0 opd1, trivial⟩ (by kernel_rfl) ?_
        clear hAt; intro a w hAt; replace hAt : At B h0 (mkG [(0, fV (Rep.slice r_u16) x0), (1, fV (Rep.slice r_u16) x1), (5, fV r_i64 s1), (31, fV Rep.bool (cmpI .neq v2 v3))]) (mkO []) F 43 a w := hAt; refine then_n ?_; refine wp_if hAt (by rfl) ?_ ?_
        · intro hb6; have H := iteT hb6 H; refine wp_seq ?_; obtain ⟨v4, hv4, H⟩ := bindE H; obtain ⟨v5, hv5, H⟩ := bindE H
          refine regd [⟨fV (Rep.slice r_u16) x0, [], [(0, none)], []⟩,
              ⟨fV r_i64 s1, [], [(5, none)], []⟩,
              ⟨fRef r_u16 v4, [], [(32, some 0), (33, some 1)], []⟩,
              ⟨fV r_u16 v4, [], [(34, some 2)], []⟩,
              ⟨fV r_i64 (IntKind.i64.wrap v4), [], [(35, some 3)], []⟩,
              ⟨fV (Rep.slice r_u16) x1, [], [(1, none)], []⟩,
              ⟨fV r_i64 s1, [], [(5, none)], []⟩,
              ⟨fRef r_u16 v5, [], [(37, some 5), (38, some 6)], []⟩,
              ⟨fV r_u16 v5, [], [(39, some 7)], []⟩,
              ⟨fV r_i64 (IntKind.i64.wrap v5), [], [(40, some 8)], []⟩,
              ⟨fV r_i64 (IntKind.i64.wrap ((IntKind.i64.wrap v4) - (IntKind.i64.wrap v5))), [], [(36, some 4), (41, some 9)], []⟩,
              ⟨fV r_i64 (IntKind.i64.wrap ((IntKind.i64.wrap v4) - (IntKind.i64.wrap v5))), [], [(42, some 10)], []⟩] [0, 1, 2, 3, 4, 5, 6, 7, 8, 9, 10, 11] [0, 1, 2, 3, 4, 5, 6, 7, 8, 9, 10, 11] [4] [] hAt
              ⟨ok_move rfl opd0,
              ok_move rfl opd0,
              ok_index ty35 un28 hv4 rfl opd0 opd1,
              ok_load ty35 rfl opd0,
              ok_conv un35 un3 rfl opd0,
              ok_move rfl opd0,
              ok_move rfl opd0,
              ok_index ty35 un28 hv5 rfl opd0 opd1,
              ok_load ty35 rfl opd0,
              ok_conv un35 un3 rfl opd0,
              ok_sub rfl opd0 opd1,
              ok_assign rfl opd0, trivial⟩ (by kernel_rfl) ?_
          clear hAt; intro a w hAt; replace hAt : At B h0 (mkG [(4, fV r_i64 (IntKind.i64.wrap ((IntKind.i64.wrap v4) - (IntKind.i64.wrap v5))))]) (mkO []) F 43 a w := hAt; refine then_n ?_; refine wp_ret ?_; refine blk_r ?_; refine then_r ?_
          cases H
          exact ⟨ret_ne, rfl, hAt.pick [4] []⟩
        · intro hb6; have H := iteF hb6 H; refine wp_skip ?_; refine blk_n ?_; refine then_n ?_
          refine reg [⟨fV r_i64 s1, [], [(5, none)], []⟩,
              ⟨fV r_i64 (IntKind.i64.wrap (s1 - 1)), [], [(21, some 0)], []⟩,
              ⟨fV r_i64 (IntKind.i64.wrap (s1 - 1)), [], [(22, some 1)], []⟩] [0, 1, 5] [] hAt
              ⟨ok_move rfl opd0,
              ok_sub rfl opd0 opdI,
              ok_assign rfl opd0, trivial⟩ (by kernel_rfl) ?_
          clear hAt; intro a w hAt; replace hAt : At B h0 (mkG [(0, fV (Rep.slice r_u16) x0), (1, fV (Rep.slice r_u16) x1), (5, fV r_i64 (IntKind.i64.wrap (s1 - 1)))]) (mkO []) F 43 a w := hAt
          cases H
          exact ⟨rfl, hAt.pick [0, 1, 5] []⟩
      · intro hb7; have H := iteF hb7 H; refine wp_exit ?_; refine then_x ?_
        cases H
        exact ⟨ex_ne, rfl, hAt.pick [] []⟩
    · exact hAt.pick [0, 1, 5] []
    · clear hAt; intro e a w hp
      cases o8 with
      | inl l10 =>
        rw [Sum.elim_inl] at H; obtain ⟨rfl, hAt⟩ := hp; refine blk_eq ?_; refine then_n ?_; refine wp_seq ?_
        refine reg [⟨fV r_i64 0, [], [], []⟩] [4] [] hAt
            ⟨ok_assign rfl opdI, trivial⟩ (by kernel_rfl) ?_
        clear hAt; intro a w hAt; replace hAt : At B h0 (mkG [(4, fV r_i64 0)]) (mkO []) F 43 a w := hAt; refine then_n ?_; refine wp_ret ?_
        cases H
        exact ret1 rfl (rv_tmp rfl rfl) hAt
      | inr r11 =>
        rw [Sum.elim_inr] at H; replace hp := hp; obtain ⟨rfl, hAt⟩ := hp; refine blk_r ?_; refine then_r ?_
        cases H
        exact ret1 rfl (rv_tmp rfl rfl) hAt
theorem ok_f_exact_short (N : Nat) (x0 : (List Int)) (x1 : Int) (r : (List Int) × Int) (H : f_exact_short N x0 x1 = some r) : FnOk Try.prog 118 [fV (Rep.slice r_u16) x0, fV r_u16 x1] (fT2 (fV (Rep.slice r_u16) (r.1)) (fV r_u16 (r.2))) := by
  unfold f_exact_short at H; refine fn_enter Try.func118 rfl rfl (by kernel_rfl) ?_; intro κ B h0 F a w hAt; refine wp_seq ?_
  refine reg [⟨fV (Rep.slice r_u16) [], [(4, some (tipE 35 r_u16.sz))], [], []⟩,
      ⟨fV r_u16 0, [], [], []⟩] [0, 1] [] hAt
      ⟨ok_nilTip rfl (.inl rfl),
      ok_assign rfl opdI, trivial⟩ (by kernel_rfl) ?_
  clear hAt; intro a w hAt; replace hAt : At B h0 (mkG [(0, fV (Rep.slice r_u16) x0), (1, fV r_u16 x1)]) (mkO []) F 43 a w := hAt; refine then_n ?_; refine wp_seq ?_; obtain ⟨v1, hv1, H⟩ := bindE H
  refine reg [⟨fV (Rep.slice r_u16) x0, [], [(0, none)], []⟩,
      ⟨fV r_i64 (List.length x0 : Int), [], [(9, some 0)], []⟩,
      ⟨Fact.triv, [(11, some (arrE 35 r_u16 v1))], [(10, some 1)], []⟩,
      ⟨Fact.triv, [(11, none), (6, some (arrE 35 r_u16 v1))], [], [(11, some 2)]⟩] [0, 1] [6] hAt
      ⟨ok_move rfl opd0,
      ok_len un28 rfl opd0,
      ok_makeArr hv1 el35 ty35 un28 rfl rfl opd0 opd0,
      (ok_moveOwn (f := Fact.triv) rfl rfl (.inr rfl) (fun _ _ _ => trivial)), trivial⟩ (by kernel_rfl) ?_
  clear hAt; intro a w hAt; replace hAt : At B h0 (mkG [(0, fV (Rep.slice r_u16) x0), (1, fV r_u16 x1)]) (mkO [(6, arrE 35 r_u16 v1)]) F 43 a w := hAt; refine then_n ?_; refine wp_seq ?_
  refine reg [⟨fV r_u32 0, [], [], []⟩] [0, 1, 7] [6] hAt
      ⟨ok_assign rfl opdI, trivial⟩ (by kernel_rfl) ?_
  clear hAt; intro a w hAt; replace hAt : At B h0 (mkG [(0, fV (Rep.slice r_u16) x0), (1, fV r_u16 x1), (7, fV r_u32 0)]) (mkO [(6, arrE 35 r_u16 v1)]) F 43 a w := hAt; refine then_n ?_; refine wp_seq ?_; refine wp_seq ?_
  refine reg [⟨fV (Rep.slice r_u16) x0, [], [(0, none)], []⟩,
      ⟨fV r_i64 (List.length x0 : Int), [], [(12, some 0)], []⟩,
      ⟨fV r_i64 (IntKind.i64.wrap ((List.length x0 : Int) - 1)), [], [(13, some 1)], []⟩,
      ⟨fV r_i64 (IntKind.i64.wrap ((List.length x0 : Int) - 1)), [], [(14, some 2)], []⟩] [0, 1, 7, 8] [6] hAt
      ⟨ok_move rfl opd0,
      ok_len un28 rfl opd0,
      ok_sub rfl opd0 opdI,
      ok_assign rfl opd0, trivial⟩ (by kernel_rfl) ?_
  clear hAt; intro a w hAt; replace hAt : At B h0 (mkG [(0, fV (Rep.slice r_u16) x0), (1, fV r_u16 x1), (7, fV r_u32 0), (8, fV r_i64 (IntKind.i64.wrap ((List.length x0 : Int) - 1)))]) (mkO [(6, arrE 35 r_u16 v1)]) F 43 a w := hAt; refine then_n ?_; refine wp_block ?_; obtain ⟨o9, hl10, H⟩ := bindE H
  refine wp_mono (wp_loopN (f := f_exact_short_L1 N x0 x1) (fun (s2 : ((List Int) × Int × Int)) a w => At B h0 (mkG [(0, fV (Rep.slice r_u16) x0), (1, fV r_u16 x1), (7, fV r_u32 s2.2.1), (8, fV r_i64 s2.2.2)]) (mkO [(6, arrE 35 r_u16 s2.1)]) F 43 a w) (fun o e a w => (fun v => e = .exit 0 ∧ At B h0 (mkG [(7, fV r_u32 v.2)]) (mkO [(6, arrE 35 r_u16 v.1)]) F 43 a w) o) ?_ N (v1, 0, (IntKind.i64.wrap ((List.length x0 : Int) - 1))) o9 _ _ hl10 ?_) ?_
  · clear H hAt hl10; intro s2 r12 a w H hAt; unfold f_exact_short_L1 at H; refine wp_seq ?_; refine wp_seq ?_
    refine reg [⟨fV r_i64 s2.2.2, [], [(8, none)], []⟩,
        ⟨fV Rep.bool (cmpI .geq s2.2.2 0), [], [(15, some 0)], []⟩] [0, 1, 7, 8, 16] [6] hAt
        ⟨ok_move rfl opd0,
        ok_cmp (op := .geq) (by simp) rfl rfl opd0 opdI, trivial⟩ (by kernel_rfl) ?_
    clear hAt; intro a w hAt; replace hAt : At B h0 (mkG [(0, fV (Rep.slice r_u16) x0), (1, fV r_u16 x1), (7, fV r_u32 s2.2.1), (8, fV r_i64 s2.2.2), (16, fV Rep.bool (cmpI .geq s2.2.2 0))]) (mkO [(6, arrE 35 r_u16 s2.1)]) F 43 a w := hAt; refine then_n ?_; refine wp_if hAt (by rfl) ?_ ?_
    · intro hb8; have H := iteT hb8 H; refine wp_skip ?_; refine then_n ?_; refine wp_seq ?_; refine wp_block ?_; refine wp_seq ?_; obtain ⟨v3, hv3, H⟩ := bindE H; obtain ⟨v4, hv4, H⟩ := bindE H
      refine reg [⟨fV r_u32 s2.2.1, [], [(7, none)], []⟩,
          ⟨fV r_u32 v3, [], [(19, some 0)], []⟩,
          ⟨fV (Rep.slice r_u16) x0, [], [(0, none)], []⟩,
          ⟨fV r_i64 s2.2.2, [], [(8, none)], []⟩,
          ⟨fRef r_u16 v4, [], [(21, some 2), (22, some 3)], []⟩,
          ⟨fV r_u16 v4, [], [(23, some 4)], []⟩,
          ⟨fV r_u32 (IntKind.u32.wrap v4), [], [(24, some 5)], []⟩,
          ⟨fV r_u32 (bitI .or .u32 v3 (IntKind.u32.wrap v4)), [], [(20, some 1), (25, some 6)], []⟩,
          ⟨fV r_u32 (bitI .or .u32 v3 (IntKind.u32.wrap v4)), [], [(26, some 7)], []⟩] [0, 1, 7, 8] [6] hAt
          ⟨ok_move rfl opd0,
          ok_shl hv3 rfl opd0 opdI,
          ok_move rfl opd0,
          ok_move rfl opd0,
          ok_index ty35 un28 hv4 rfl opd0 opd1,
          ok_load ty35 rfl opd0,
          ok_conv un35 un154 rfl opd0,
          ok_bit (op := .or) (by simp) rfl opd0 opd1,
          ok_assign rfl opd0, trivial⟩ (by kernel_rfl) ?_
      clear hAt; intro a w hAt; replace hAt : At B h0 (mkG [(0, fV (Rep.slice r_u16) x0), (1, fV r_u16 x1), (7, fV r_u32 (bitI .or .u32 v3 (IntKind.u32.wrap v4))), (8, fV r_i64 s2.2.2)]) (mkO [(6, arrE 35 r_u16 s2.1)]) F 43 a w := hAt; refine then_n ?_; refine wp_seq ?_; obtain ⟨v5, hv5, H⟩ := bindE H; obtain ⟨v6, hv6, H⟩ := bindE H
      refine reg [⟨fCp 6, [], [], []⟩,
          ⟨fV r_i64 s2.2.2, [], [(8, none)], []⟩,
          ⟨fV r_u32 (bitI .or .u32 v3 (IntKind.u32.wrap v4)), [], [(7, none)], []⟩,
          ⟨fV r_u16 x1, [], [(1, none)], []⟩,
          ⟨fV r_u32 (IntKind.u32.wrap x1), [], [(30, some 3)], []⟩,
          ⟨fV r_u32 v5, [], [(29, some 2), (31, some 4)], []⟩,
          ⟨fV r_u16 (IntKind.u16.wrap v5), [], [(32, some 5)], []⟩,
          ⟨fEl 6 ((Int.toNat s2.2.2) * r_u16.sz + 0), [], [(27, some 0), (28, some 1)], [(6, none)]⟩,
          ⟨Fact.triv, [(6, some (arrE 35 r_u16 (List.set s2.1 (Int.toNat s2.2.2) (IntKind.u16.wrap v5))))], [(34, some 7), (33, some 6)], [(6, none)]⟩] [0, 1, 7, 8] [6] hAt
          ⟨ok_cp rfl,
          ok_move rfl opd0,
          ok_move rfl opd0,
          ok_move rfl opd0,
          ok_conv un35 un154 rfl opd0,
          ok_quo hv5 rfl opd0 opd1,
          ok_conv un154 un35 rfl opd0,
          ok_elArr hv6 ty35 un28 rfl opd0 opd1,
          ok_storeArr (idx_spec hv6).2.2 (Lens.refl _) ty35 rfl rfl opd0 opd1 rfl, trivial⟩ (by kernel_rfl) ?_
      clear hAt; intro a w hAt; replace hAt : At B h0 (mkG [(0, fV (Rep.slice r_u16) x0), (1, fV r_u16 x1), (7, fV r_u32 (bitI .or .u32 v3 (IntKind.u32.wrap v4))), (8, fV r_i64 s2.2.2)]) (mkO [(6, arrE 35 r_u16 (List.set s2.1 (Int.toNat s2.2.2) (IntKind.u16.wrap v5)))]) F 43 a w := hAt; refine then_n ?_; obtain ⟨v7, hv7, H⟩ := bindE H
      refine reg [⟨fV r_u32 (bitI .or .u32 v3 (IntKind.u32.wrap v4)), [], [(7, none)], []⟩,
          ⟨fV r_u16 x1, [], [(1, none)], []⟩,
          ⟨fV r_u32 (IntKind.u32.wrap x1), [], [(36, some 1)], []⟩,
          ⟨fV r_u32 v7, [], [(35, some 0), (37, some 2)], []⟩,
          ⟨fV r_u32 v7, [], [(38, some 3)], []⟩] [0, 1, 7, 8] [6] hAt
          ⟨ok_move rfl opd0,
          ok_move rfl opd0,
          ok_conv un35 un154 rfl opd0,
          ok_rem hv7 rfl opd0 opd1,
          ok_assign rfl opd0, trivial⟩ (by kernel_rfl) ?_
      clear hAt; intro a w hAt; replace hAt : At B h0 (mkG [(0, fV (Rep.slice r_u16) x0), (1, fV r_u16 x1), (7, fV r_u32 v7), (8, fV r_i64 s2.2.2)]) (mkO [(6, arrE 35 r_u16 (List.set s2.1 (Int.toNat s2.2.2) (IntKind.u16.wrap v5)))]) F 43 a w := hAt; refine blk_n ?_; refine then_n ?_
      refine reg [⟨fV r_i64 s2.2.2, [], [(8, none)], []⟩,
          ⟨fV r_i64 (IntKind.i64.wrap (s2.2.2 - 1)), [], [(17, some 0)], []⟩,
          ⟨fV r_i64 (IntKind.i64.wrap (s2.2.2 - 1)), [], [(18, some 1)], []⟩] [0, 1, 7, 8] [6] hAt
          ⟨ok_move rfl opd0,
          ok_sub rfl opd0 opdI,
          ok_assign rfl opd0, trivial⟩ (by kernel_rfl) ?_
      clear hAt; intro a w hAt; replace hAt : At B h0 (mkG [(0, fV (Rep.slice r_u16) x0), (1, fV r_u16 x1), (7, fV r_u32 v7), (8, fV r_i64 (IntKind.i64.wrap (s2.2.2 - 1)))]) (mkO [(6, arrE 35 r_u16 (List.set s2.1 (Int.toNat s2.2.2) (IntKind.u16.wrap v5)))]) F 43 a w := hAt
      cases H
      exact ⟨rfl, hAt.pick [0, 1, 7, 8] [6]⟩
    · intro hb8; have H := iteF hb8 H; refine wp_exit ?_; refine then_x ?_
      cases H
      exact ⟨ex_ne, rfl, hAt.pick [7] [6]⟩
  · exact hAt.pick [0, 1, 7, 8] [6]
  · clear hAt; intro e a w hp; obtain ⟨rfl, hAt⟩ := hp; refine blk_eq ?_; refine then_n ?_; refine wp_seq ?_; have hAt := At.freeze 6 hAt rfl; replace hAt := hAt.pick [6, 7] []; replace hAt : At B h0 (mkG [(6, fV (Rep.slice r_u16) o9.1), (7, fV r_u32 o9.2)]) (mkO []) F 43 a w := hAt; obtain ⟨v11, hv11, H⟩ := bindE H
    refine reg [⟨fV (Rep.slice r_u16) o9.1, [], [(6, none)], []⟩,
        ⟨fV (Rep.slice r_u16) v11, [], [(39, some 0)], []⟩,
        ⟨fV r_u32 o9.2, [], [(7, none)], []⟩,
        ⟨fV r_u16 (IntKind.u16.wrap o9.2), [], [(41, some 2)], []⟩,
        ⟨fV (Rep.slice r_u16) v11, [], [(40, some 1)], []⟩,
        ⟨fV r_u16 (IntKind.u16.wrap o9.2), [], [(42, some 3)], []⟩] [4, 5] [] hAt
        ⟨ok_move rfl opd0,
        ok_call (ok_f_exact_trim N o9.1 _ hv11) Try.func71 (by kernel_rfl) (by kernel_rfl) rfl ⟨opd0, trivial⟩,
        ok_move rfl opd0,
        ok_conv un154 un35 rfl opd0,
        ok_assign rfl opd0,
        ok_assign rfl opd0, trivial⟩ (by kernel_rfl) ?_
    clear hAt; intro a w hAt; replace hAt : At B h0 (mkG [(4, fV (Rep.slice r_u16) v11), (5, fV r_u16 (IntKind.u16.wrap o9.2))]) (mkO []) F 43 a w := hAt; refine then_n ?_; refine wp_ret ?_
    cases H
    exact ret2 rfl (rv_tmp rfl rfl) (rv_tmp rfl rfl) hAt
theorem ok_f_bits_Len16 (N : Nat) (x0 : Int) (r : Int) (H : f_bits_Len16 N x0 = some r) : FnOk Try.prog 125 [fV r_u16 x0] (fV r_i64 r) := by
  unfold f_bits_Len16 at H; refine fn_enter Try.func125 rfl rfl (by kernel_rfl) ?_; intro κ B h0 F a w hAt; refine wp_seq ?_
  refine reg [⟨fV r_i64 0, [], [], []⟩] [0, 2] [] hAt
      ⟨ok_assign rfl opdI, trivial⟩ (by kernel_rfl) ?_
  clear hAt; intro a w hAt; replace hAt : At B h0 (mkG [(0, fV r_u16 x0), (2, fV r_i64 0)]) (mkO []) F 13 a w := hAt; refine then_n ?_; refine wp_seq ?_; refine wp_seq ?_
  refine reg [⟨fV r_u16 x0, [], [(0, none)], []⟩,
      ⟨fV Rep.bool (cmpI .geq x0 256), [], [(3, some 0)], []⟩] [0, 2, 4] [] hAt
      ⟨ok_move rfl opd0,
      ok_cmp (op := .geq) (by simp) rfl rfl opd0 opdI, trivial⟩ (by kernel_rfl) ?_
  clear hAt; intro a w hAt; replace hAt : At B h0 (mkG [(0, fV r_u16 x0), (2, fV r_i64 0), (4, fV Rep.bool (cmpI .geq x0 256))]) (mkO []) F 13 a w := hAt; refine then_n ?_; refine wp_if hAt (by rfl) ?_ ?_
  · intro hb4; have H := iteT hb4 H; refine wp_seq ?_; obtain ⟨v1, hv1, H⟩ := bindE H
    refine reg [⟨fV r_u16 x0, [], [(0, none)], []⟩,
        ⟨fV r_u16 v1, [], [(5, some 0)], []⟩,
        ⟨fV r_u16 v1, [], [(6, some 1)], []⟩] [0] [] hAt
        ⟨ok_move rfl opd0,
        ok_shr hv1 rfl opd0 opdI,
        ok_assign rfl opd0, trivial⟩ (by kernel_rfl) ?_
    clear hAt; intro a w hAt; replace hAt : At B h0 (mkG [(0, fV r_u16 v1)]) (mkO []) F 13 a w := hAt; refine then_n ?_
    refine reg [⟨fV r_i64 8, [], [], []⟩] [0, 2] [] hAt
        ⟨ok_assign rfl opdI, trivial⟩ (by kernel_rfl) ?_
    clear hAt; intro a w hAt; replace hAt : At B h0 (mkG [(0, fV r_u16 v1), (2, fV r_i64 8)]) (mkO []) F 13 a w := hAt; refine then_n ?_; refine wp_seq ?_; obtain ⟨v2, hv2, H⟩ := bindE H
    refine reg [⟨fV r_i64 8, [], [(2, none)], []⟩,
        ⟨fV r_u16 v1, [], [(0, none)], []⟩,
        ⟨fV r_u8 (IntKind.u8.wrap v1), [], [(8, some 1)], []⟩,
        ⟨fV r_u8 ((UInt8.toNat v2 : Nat) : Int), [], [(9, some 2)], []⟩,
        ⟨fV r_i64 (IntKind.i64.wrap ((UInt8.toNat v2 : Nat) : Int)), [], [(10, some 3)], []⟩,
        ⟨fV r_i64 (IntKind.i64.wrap (8 + (IntKind.i64.wrap ((UInt8.toNat v2 : Nat) : Int)))), [], [(7, some 0), (11, some 4)], []⟩,
        ⟨fV r_i64 (IntKind.i64.wrap (8 + (IntKind.i64.wrap ((UInt8.toNat v2 : Nat) : Int)))), [], [(12, some 5)], []⟩] [2] [] hAt
        ⟨ok_move rfl opd0,
        ok_move rfl opd0,
        ok_conv un35 un5 rfl opd0,
        ok_indexS hv2 un9 rfl (opdS rfl) opd0,
        ok_conv un5 un3 rfl opd0,
        ok_add rfl opd0 opd1,
        ok_assign rfl opd0, trivial⟩ (by kernel_rfl) ?_
    clear hAt; intro a w hAt; replace hAt : At B h0 (mkG [(2, fV r_i64 (IntKind.i64.wrap (8 + (IntKind.i64.wrap ((UInt8.toNat v2 : Nat) : Int)))))]) (mkO []) F 13 a w := hAt; refine then_n ?_; refine wp_ret ?_
    cases H
    exact ret1 rfl (rv_tmp rfl rfl) hAt
  · intro hb4; have H := iteF hb4 H; refine wp_skip ?_; refine then_n ?_; refine wp_seq ?_; obtain ⟨v3, hv3, H⟩ := bindE H
    refine reg [⟨fV r_i64 0, [], [(2, none)], []⟩,
        ⟨fV r_u16 x0, [], [(0, none)], []⟩,
        ⟨fV r_u8 (IntKind.u8.wrap x0), [], [(8, some 1)], []⟩,
        ⟨fV r_u8 ((UInt8.toNat v3 : Nat) : Int), [], [(9, some 2)], []⟩,
        ⟨fV r_i64 (IntKind.i64.wrap ((UInt8.toNat v3 : Nat) : Int)), [], [(10, some 3)], []⟩,
        ⟨fV r_i64 (IntKind.i64.wrap (0 + (IntKind.i64.wrap ((UInt8.toNat v3 : Nat) : Int)))), [], [(7, some 0), (11, some 4)], []⟩,
        ⟨fV r_i64 (IntKind.i64.wrap (0 + (IntKind.i64.wrap ((UInt8.toNat v3 : Nat) : Int)))), [], [(12, some 5)], []⟩] [2] [] hAt
        ⟨ok_move rfl opd0,
        ok_move rfl opd0,
        ok_conv un35 un5 rfl opd0,
        ok_indexS hv3 un9 rfl (opdS rfl) opd0,
        ok_conv un5 un3 rfl opd0,
        ok_add rfl opd0 opd1,
        ok_assign rfl opd0, trivial⟩ (by kernel_rfl) ?_
    clear hAt; intro a w hAt; replace hAt : At B h0 (mkG [(2, fV r_i64 (IntKind.i64.wrap (0 + (IntKind.i64.wrap ((UInt8.toNat v3 : Nat) : Int)))))]) (mkO []) F 13 a w := hAt; refine then_n ?_; refine wp_ret ?_
    cases H
    exact ret1 rfl (rv_tmp rfl rfl) hAt
theorem ok_f_bits_LeadingZeros16 (N : Nat) (x0 : Int) (r : Int) (H : f_bits_LeadingZeros16 N x0 = some r) : FnOk Try.prog 119 [fV r_u16 x0] (fV r_i64 r) := by
  unfold f_bits_LeadingZeros16 at H; refine fn_enter Try.func119 rfl rfl (by kernel_rfl) ?_; intro κ B h0 F a w hAt; refine wp_seq ?_
  refine reg [⟨fV r_i64 0, [], [], []⟩] [0] [] hAt
      ⟨ok_assign rfl opdI, trivial⟩ (by kernel_rfl) ?_
  clear hAt; intro a w hAt; replace hAt : At B h0 (mkG [(0, fV r_u16 x0)]) (mkO []) F 6 a w := hAt; refine then_n ?_; refine wp_seq ?_; obtain ⟨v1, hv1, H⟩ := bindE H
  refine reg [⟨fV r_u16 x0, [], [(0, none)], []⟩,
      ⟨fV r_i64 v1, [], [(3, some 0)], []⟩,
      ⟨fV r_i64 (IntKind.i64.wrap (16 - v1)), [], [(4, some 1)], []⟩,
      ⟨fV r_i64 (IntKind.i64.wrap (16 - v1)), [], [(5, some 2)], []⟩] [2] [] hAt
      ⟨ok_move rfl opd0,
      ok_call (ok_f_bits_Len16 N x0 _ hv1) Try.func125 (by kernel_rfl) (by kernel_rfl) rfl ⟨opd0, trivial⟩,
      ok_sub rfl opdI opd0,
      ok_assign rfl opd0, trivial⟩ (by kernel_rfl) ?_
  clear hAt; intro a w hAt; replace hAt : At B h0 (mkG [(2, fV r_i64 (IntKind.i64.wrap (16 - v1)))]) (mkO []) F 6 a w := hAt; refine then_n ?_; refine wp_ret ?_
  cases H
  exact ret1 rfl (rv_tmp rfl rfl) hAt
theorem ok_f_exact_shifted (N : Nat) (x0 : (List Int)) (x1 : Int) (r : (List Int)) (H : f_exact_shifted N x0 x1 = some r) : FnOk Try.prog 120 [fV (Rep.slice r_u16) x0, fV r_i64 x1] (fV (Rep.slice r_u16) r) := by
  unfold f_exact_shifted at H; refine fn_enter Try.func120 rfl rfl (by kernel_rfl) ?_; intro κ B h0 F a w hAt; refine wp_seq ?_
  refine reg [⟨fV (Rep.slice r_u16) [], [(4, some (tipE 35 r_u16.sz))], [], []⟩] [0, 1] [] hAt
      ⟨ok_nilTip rfl (.inl rfl), trivial⟩ (by kernel_rfl) ?_
  clear hAt; intro a w hAt; replace hAt : At B h0 (mkG [(0, fV (Rep.slice r_u16) x0), (1, fV r_i64 x1)]) (mkO []) F 41 a w := hAt; refine then_n ?_; refine wp_seq ?_; obtain ⟨v1, hv1, H⟩ := bindE H
  refine reg [⟨fV (Rep.slice r_u16) x0, [], [(0, none)], []⟩,
      ⟨fV r_i64 (List.length x0 : Int), [], [(9, some 0)], []⟩,
      ⟨fV r_i64 (IntKind.i64.wrap ((List.length x0 : Int) + 1)), [], [(10, some 1)], []⟩,
      ⟨Fact.triv, [(12, some (arrE 35 r_u16 v1))], [(11, some 2)], []⟩,
      ⟨Fact.triv, [(12, none), (5, some (arrE 35 r_u16 v1))], [], [(12, some 3)]⟩] [0, 1] [5] hAt
      ⟨ok_move rfl opd0,
      ok_len un28 rfl opd0,
      ok_add rfl opd0 opdI,
      ok_makeArr hv1 el35 ty35 un28 rfl rfl opd0 opd0,
      (ok_moveOwn (f := Fact.triv) rfl rfl (.inr rfl) (fun _ _ _ => trivial)), trivial⟩ (by kernel_rfl) ?_
  clear hAt; intro a w hAt; replace hAt : At B h0 (mkG [(0, fV (Rep.slice r_u16) x0), (1, fV r_i64 x1)]) (mkO [(5, arrE 35 r_u16 v1)]) F 41 a w := hAt; refine then_n ?_; refine wp_seq ?_; refine wp_seq ?_
  refine reg [⟨fV (Rep.slice r_u16) x0, [], [(0, none)], []⟩,
      ⟨fV r_i64 (List.length x0 : Int), [], [(13, some 0)], []⟩,
      ⟨fV r_i64 0, [], [], []⟩] [1, 13, 14, 15] [5] hAt
      ⟨ok_move rfl opd0,
      ok_len un28 rfl opd0,
      ok_move rfl opdI, trivial⟩ (by kernel_rfl) ?_
  clear hAt; intro a w hAt; replace hAt : At B h0 (mkG [(1, fV r_i64 x1), (13, fV (Rep.slice r_u16) x0), (14, fV r_i64 (List.length x0 : Int)), (15, fV r_i64 0)]) (mkO [(5, arrE 35 r_u16 v1)]) F 41 a w := hAt; refine then_n ?_; refine wp_block ?_; obtain ⟨o10, hl11, H⟩ := bindE H
  refine wp_mono (wp_loopN (f := f_exact_shifted_L1 N x0 x1) (fun (s2 : ((List Int) × Int)) a w => At B h0 (mkG [(1, fV r_i64 x1), (13, fV (Rep.slice r_u16) x0), (14, fV r_i64 (List.length x0 : Int)), (15, fV r_i64 s2.2)]) (mkO [(5, arrE 35 r_u16 s2.1)]) F 41 a w) (fun o e a w => (fun v => e = .exit 0 ∧ At B h0 (mkG []) (mkO [(5, arrE 35 r_u16 v)]) F 41 a w) o) ?_ N (v1, 0) o10 _ _ hl11 ?_) ?_
  · clear H hAt hl11; intro s2 r12 a w H hAt; unfold f_exact_shifted_L1 at H; refine wp_seq ?_
    refine reg [⟨fV Rep.bool (cmpI .lss s2.2 (List.length x0 : Int)), [], [(15, none), (14, none)], []⟩] [1, 13, 14, 15, 16] [5] hAt
        ⟨ok_cmp (op := .lss) (by simp) rfl rfl opd0 opd1, trivial⟩ (by kernel_rfl) ?_
    clear hAt; intro a w hAt; replace hAt : At B h0 (mkG [(1, fV r_i64 x1), (13, fV (Rep.slice r_u16) x0), (14, fV r_i64 (List.length x0 : Int)), (15, fV r_i64 s2.2), (16, fV Rep.bool (cmpI .lss s2.2 (List.length x0 : Int)))]) (mkO [(5, arrE 35 r_u16 s2.1)]) F 41 a w := hAt; refine then_n ?_; refine wp_seq ?_; refine wp_if hAt (by rfl) ?_ ?_
    · intro hb9; have H := iteT hb9 H; refine wp_skip ?_; refine then_n ?_; refine wp_seq ?_; refine wp_block ?_; refine wp_seq ?_; obtain ⟨v3, hv3, H⟩ := bindE H
      refine reg [⟨fV r_i64 s2.2, [], [(15, none)], []⟩,
          ⟨fRef r_u16 v3, [], [(13, none), (15, none)], []⟩,
          ⟨fV r_u16 v3, [], [(18, some 1)], []⟩,
          ⟨fV r_i64 s2.2, [], [(17, some 0)], []⟩,
          ⟨fV r_u16 v3, [], [(19, some 2)], []⟩] [1, 6, 7, 13, 14, 15] [5] hAt
          ⟨ok_move rfl opd0,
          ok_index ty35 un28 hv3 rfl opd0 opd1,
          ok_load ty35 rfl opd0,
          ok_assign rfl opd0,
          ok_assign rfl opd0, trivial⟩ (by kernel_rfl) ?_
      clear hAt; intro a w hAt; replace hAt : At B h0 (mkG [(1, fV r_i64 x1), (6, fV r_i64 s2.2), (7, fV r_u16 v3), (13, fV (Rep.slice r_u16) x0), (14, fV r_i64 (List.length x0 : Int)), (15, fV r_i64 s2.2)]) (mkO [(5, arrE 35 r_u16 s2.1)]) F 41 a w := hAt; refine then_n ?_; refine wp_seq ?_; obtain ⟨v4, hv4, H⟩ := bindE H
      refine reg [⟨fV r_u16 v3, [], [(7, none)], []⟩,
          ⟨fV r_u32 (IntKind.u32.wrap v3), [], [(20, some 0)], []⟩,
          ⟨fV r_i64 x1, [], [(1, none)], []⟩,
          ⟨fV r_u32 v4, [], [(21, some 1), (22, some 2)], []⟩,
          ⟨fV r_u32 v4, [], [(23, some 3)], []⟩] [1, 6, 8, 13, 14, 15] [5] hAt
          ⟨ok_move rfl opd0,
          ok_conv un35 un154 rfl opd0,
          ok_move rfl opd0,
          ok_shl hv4 rfl opd0 opd1,
          ok_assign rfl opd0, trivial⟩ (by kernel_rfl) ?_
      clear hAt; intro a w hAt; replace hAt : At B h0 (mkG [(1, fV r_i64 x1), (6, fV r_i64 s2.2), (8, fV r_u32 v4), (13, fV (Rep.slice r_u16) x0), (14, fV r_i64 (List.length x0 : Int)), (15, fV r_i64 s2.2)]) (mkO [(5, arrE 35 r_u16 s2.1)]) F 41 a w := hAt; refine then_n ?_; refine wp_seq ?_; obtain ⟨v5, hv5, H⟩ := bindE H; obtain ⟨v6, hv6, H⟩ := bindE H
      refine reg [⟨fCp 5, [], [], []⟩,
          ⟨fV r_i64 s2.2, [], [(6, none)], []⟩,
          ⟨fEl 5 ((Int.toNat s2.2) * r_u16.sz + 0), [], [(24, some 0), (25, some 1)], [(5, none)]⟩,
          ⟨fV r_u16 v5, [], [(26, some 2)], [(5, none)]⟩,
          ⟨fV r_u32 v4, [], [(8, none)], []⟩,
          ⟨fV r_u16 (IntKind.u16.wrap v4), [], [(28, some 4)], []⟩,
          ⟨fV r_u16 (bitI .or .u16 v5 (IntKind.u16.wrap v4)), [], [(27, some 3), (29, some 5)], []⟩,
          ⟨fEl 5 ((Int.toNat s2.2) * r_u16.sz + 0), [], [(24, some 0), (25, some 1)], [(5, none)]⟩,
          ⟨Fact.triv, [(5, some (arrE 35 r_u16 (List.set s2.1 (Int.toNat s2.2) (bitI .or .u16 v5 (IntKind.u16.wrap v4)))))], [(31, some 7), (30, some 6)], [(5, none)]⟩] [1, 6, 8, 13, 14, 15] [5] hAt
          ⟨ok_cp rfl,
          ok_move rfl opd0,
          ok_elArr hv5 ty35 un28 rfl opd0 opd1,
          ok_loadArr (idx_spec hv5).2.2 (Lens.refl _) ty35 rfl opd0,
          ok_move rfl opd0,
          ok_conv un154 un35 rfl opd0,
          ok_bit (op := .or) (by simp) rfl opd0 opd1,
          ok_elArr hv6 ty35 un28 rfl opd0 opd1,
          ok_storeArr (idx_spec hv6).2.2 (Lens.refl _) ty35 rfl rfl opd0 opd1 rfl, trivial⟩ (by kernel_rfl) ?_
      clear hAt; intro a w hAt; replace hAt : At B h0 (mkG [(1, fV r_i64 x1), (6, fV r_i64 s2.2), (8, fV r_u32 v4), (13, fV (Rep.slice r_u16) x0), (14, fV r_i64 (List.length x0 : Int)), (15, fV r_i64 s2.2)]) (mkO [(5, arrE 35 r_u16 (List.set s2.1 (Int.toNat s2.2) (bitI .or .u16 v5 (IntKind.u16.wrap v4))))]) F 41 a w := hAt; refine then_n ?_; obtain ⟨v7, hv7, H⟩ := bindE H; obtain ⟨v8, hv8, H⟩ := bindE H
      refine reg [⟨fCp 5, [], [], []⟩,
          ⟨fV r_i64 s2.2, [], [(6, none)], []⟩,
          ⟨fV r_i64 (IntKind.i64.wrap (s2.2 + 1)), [], [(33, some 1)], []⟩,
          ⟨fV r_u32 v4, [], [(8, none)], []⟩,
          ⟨fV r_u32 v7, [], [(35, some 3)], []⟩,
          ⟨fV r_u16 (IntKind.u16.wrap v7), [], [(36, some 4)], []⟩,
          ⟨fEl 5 ((Int.toNat (IntKind.i64.wrap (s2.2 + 1))) * r_u16.sz + 0), [], [(32, some 0), (34, some 2)], [(5, none)]⟩,
          ⟨Fact.triv, [(5, some (arrE 35 r_u16 (List.set (List.set s2.1 (Int.toNat s2.2) (bitI .or .u16 v5 (IntKind.u16.wrap v4))) (Int.toNat (IntKind.i64.wrap (s2.2 + 1))) (IntKind.u16.wrap v7))))], [(38, some 6), (37, some 5)], [(5, none)]⟩] [1, 13, 14, 15] [5] hAt
          ⟨ok_cp rfl,
          ok_move rfl opd0,
          ok_add rfl opd0 opdI,
          ok_move rfl opd0,
          ok_shr hv7 rfl opd0 opdI,
          ok_conv un154 un35 rfl opd0,
          ok_elArr hv8 ty35 un28 rfl opd0 opd1,
          ok_storeArr (idx_spec hv8).2.2 (Lens.refl _) ty35 rfl rfl opd0 opd1 rfl, trivial⟩ (by kernel_rfl) ?_
      clear hAt; intro a w hAt; replace hAt : At B h0 (mkG [(1, fV r_i64 x1), (13, fV (Rep.slice r_u16) x0), (14, fV r_i64 (List.length x0 : Int)), (15, fV r_i64 s2.2)]) (mkO [(5, arrE 35 r_u16 (List.set (List.set s2.1 (Int.toNat s2.2) (bitI .or .u16 v5 (IntKind.u16.wrap v4))) (Int.toNat (IntKind.i64.wrap (s2.2 + 1))) (IntKind.u16.wrap v7)))]) F 41 a w := hAt; refine blk_n ?_; refine then_n ?_
      refine reg [⟨fV r_i64 (IntKind.i64.wrap (s2.2 + 1)), [], [(15, none)], []⟩,
          ⟨fV r_i64 (IntKind.i64.wrap (s2.2 + 1)), [], [(39, some 0)], []⟩] [1, 13, 14, 15] [5] hAt
          ⟨ok_add rfl opd0 opdI,
          ok_move rfl opd0, trivial⟩ (by kernel_rfl) ?_
      clear hAt; intro a w hAt; replace hAt : At B h0 (mkG [(1, fV r_i64 x1), (13, fV (Rep.slice r_u16) x0), (14, fV r_i64 (List.length x0 : Int)), (15, fV r_i64 (IntKind.i64.wrap (s2.2 + 1)))]) (mkO [(5, arrE 35 r_u16 (List.set (List.set s2.1 (Int.toNat s2.2) (bitI .or .u16 v5 (IntKind.u16.wrap v4))) (Int.toNat (IntKind.i64.wrap (s2.2 + 1))) (IntKind.u16.wrap v7)))]) F 41 a w := hAt
      cases H
      exact ⟨rfl, hAt.pick [1, 13, 14, 15] [5]⟩
    · intro hb9; have H := iteF hb9 H; refine wp_exit ?_; refine then_x ?_
      cases H
      exact ⟨ex_ne, rfl, hAt.pick [] [5]⟩
  · exact hAt.pick [1, 13, 14, 15] [5]
  · clear hAt; intro e a w hp; obtain ⟨rfl, hAt⟩ := hp; refine blk_eq ?_; refine then_n ?_; refine wp_seq ?_; have hAt := At.freeze 5 hAt rfl; replace hAt := hAt.pick [5] []; replace hAt : At B h0 (mkG [(5, fV (Rep.slice r_u16) o10)]) (mkO []) F 41 a w := hAt
    refine reg [⟨fV (Rep.slice r_u16) o10, [], [(5, none)], []⟩,
        ⟨fV (Rep.slice r_u16) o10, [], [(40, some 0)], []⟩] [4] [] hAt
        ⟨ok_move rfl opd0,
        ok_assign rfl opd0, trivial⟩ (by kernel_rfl) ?_
    clear hAt; intro a w hAt; replace hAt : At B h0 (mkG [(4, fV (Rep.slice r_u16) o10)]) (mkO []) F 41 a w := hAt; refine then_n ?_; refine wp_ret ?_
    cases H
    exact ret1 rfl (rv_tmp rfl rfl) hAt
theorem okO_f_exact_shifted (N : Nat) (x0 : (List Int)) (x1 : Int) (r : (List Int)) (H : f_exact_shifted N x0 x1 = some r) : FnOkO Try.prog 120 [fV (Rep.slice r_u16) x0, fV r_i64 x1] (arrE 35 r_u16 r) Fact.triv := by
  unfold f_exact_shifted at H; refine fn_enterO Try.func120 rfl rfl (by kernel_rfl) ?_; intro κ B h0 F a w hAt; refine wp_seq ?_
  refine reg [⟨Fact.triv, [(4, some (arrE 35 r_u16 []))], [], []⟩] [0, 1] [] hAt
      ⟨ok_nilArr rfl (.inl rfl), trivial⟩ (by kernel_rfl) ?_
  clear hAt; intro a w hAt; replace hAt : At B h0 (mkG [(0, fV (Rep.slice r_u16) x0), (1, fV r_i64 x1)]) (mkO []) F 41 a w := hAt; refine then_n ?_; refine wp_seq ?_; obtain ⟨v1, hv1, H⟩ := bindE H
  refine reg [⟨fV (Rep.slice r_u16) x0, [], [(0, none)], []⟩,
      ⟨fV r_i64 (List.length x0 : Int), [], [(9, some 0)], []⟩,
      ⟨fV r_i64 (IntKind.i64.wrap ((List.length x0 : Int) + 1)), [], [(10, some 1)], []⟩,
      ⟨Fact.triv, [(12, some (arrE 35 r_u16 v1))], [(11, some 2)], []⟩,
      ⟨Fact.triv, [(12, none), (5, some (arrE 35 r_u16 v1))], [], [(12, some 3)]⟩] [0, 1] [5] hAt
      ⟨ok_move rfl opd0,
      ok_len un28 rfl opd0,
      ok_add rfl opd0 opdI,
      ok_makeArr hv1 el35 ty35 un28 rfl rfl opd0 opd0,
      (ok_moveOwn (f := Fact.triv) rfl rfl (.inr rfl) (fun _ _ _ => trivial)), trivial⟩ (by kernel_rfl) ?_
  clear hAt; intro a w hAt; replace hAt : At B h0 (mkG [(0, fV (Rep.slice r_u16) x0), (1, fV r_i64 x1)]) (mkO [(5, arrE 35 r_u16 v1)]) F 41 a w := hAt; refine then_n ?_; refine wp_seq ?_; refine wp_seq ?_
  refine reg [⟨fV (Rep.slice r_u16) x0, [], [(0, none)], []⟩,
      ⟨fV r_i64 (List.length x0 : Int), [], [(13, some 0)], []⟩,
      ⟨fV r_i64 0, [], [], []⟩] [1, 13, 14, 15] [5] hAt
      ⟨ok_move rfl opd0,
      ok_len un28 rfl opd0,
      ok_move rfl opdI, trivial⟩ (by kernel_rfl) ?_
  clear hAt; intro a w hAt; replace hAt : At B h0 (mkG [(1, fV r_i64 x1), (13, fV (Rep.slice r_u16) x0), (14, fV r_i64 (List.length x0 : Int)), (15, fV r_i64 0)]) (mkO [(5, arrE 35 r_u16 v1)]) F 41 a w := hAt; refine then_n ?_; refine wp_block ?_; obtain ⟨o10, hl11, H⟩ := bindE H
  refine wp_mono (wp_loopN (f := f_exact_shifted_L1 N x0 x1) (fun (s2 : ((List Int) × Int)) a w => At B h0 (mkG [(1, fV r_i64 x1), (13, fV (Rep.slice r_u16) x0), (14, fV r_i64 (List.length x0 : Int)), (15, fV r_i64 s2.2)]) (mkO [(5, arrE 35 r_u16 s2.1)]) F 41 a w) (fun o e a w => (fun v => e = .exit 0 ∧ At B h0 (mkG []) (mkO [(5, arrE 35 r_u16 v)]) F 41 a w) o) ?_ N (v1, 0) o10 _ _ hl11 ?_) ?_
  · clear H hAt hl11; intro s2 r12 a w H hAt; unfold f_exact_shifted_L1 at H; refine wp_seq ?_
    refine reg [⟨fV Rep.bool (cmpI .lss s2.2 (List.length x0 : Int)), [], [(15, none), (14, none)], []⟩] [1, 13, 14, 15, 16] [5] hAt
        ⟨ok_cmp (op := .lss) (by simp) rfl rfl opd0 opd1, trivial⟩ (by kernel_rfl) ?_
    clear hAt; intro a w hAt; replace hAt : At B h0 (mkG [(1, fV r_i64 x1), (13, fV (Rep.slice r_u16) x0), (14, fV r_i64 (List.length x0 : Int)), (15, fV r_i64 s2.2), (16, fV Rep.bool (cmpI .lss s2.2 (List.length x0 : Int)))]) (mkO [(5, arrE 35 r_u16 s2.1)]) F 41 a w := hAt; refine then_n ?_; refine wp_seq ?_; refine wp_if hAt (by rfl) ?_ ?_
    · intro hb9; have H := iteT hb9 H; refine wp_skip ?_; refine then_n ?_; refine wp_seq ?_; refine wp_block ?_; refine wp_seq ?_; obtain ⟨v3, hv3, H⟩ := bindE H
      refine reg [⟨fV r_i64 s2.2, [], [(15, none)], []⟩,
          ⟨fRef r_u16 v3, [], [(13, none), (15, none)], []⟩,
          ⟨fV r_u16 v3, [], [(18, some 1)], []⟩,
          ⟨fV r_i64 s2.2, [], [(17, some 0)], []⟩,
          ⟨fV r_u16 v3, [], [(19, some 2)], []⟩] [1, 6, 7, 13, 14, 15] [5] hAt
          ⟨ok_move rfl opd0,
          ok_index ty35 un28 hv3 rfl opd0 opd1,
          ok_load ty35 rfl opd0,
          ok_assign rfl opd0,
          ok_assign rfl opd0, trivial⟩ (by kernel_rfl) ?_
      clear hAt; intro a w hAt; replace hAt : At B h0 (mkG [(1, fV r_i64 x1), (6, fV r_i64 s2.2), (7, fV r_u16 v3), (13, fV (Rep.slice r_u16) x0), (14, fV r_i64 (List.length x0 : Int)), (15, fV r_i64 s2.2)]) (mkO [(5, arrE 35 r_u16 s2.1)]) F 41 a w := hAt; refine then_n ?_; refine wp_seq ?_; obtain ⟨v4, hv4, H⟩ := bindE H
      refine reg [⟨fV r_u16 v3, [], [(7, none)], []⟩,
          ⟨fV r_u32 (IntKind.u32.wrap v3), [], [(20, some 0)], []⟩,
          ⟨fV r_i64 x1, [], [(1, none)], []⟩,
          ⟨fV r_u32 v4, [], [(21, some 1), (22, some 2)], []⟩,
          ⟨fV r_u32 v4, [], [(23, some 3)], []⟩] [1, 6, 8, 13, 14, 15] [5] hAt
          ⟨ok_move rfl opd0,
          ok_conv un35 un154 rfl opd0,
          ok_move rfl opd0,
          ok_shl hv4 rfl opd0 opd1,
          ok_assign rfl opd0, trivial⟩ (by kernel_rfl) ?_
      clear hAt; intro a w hAt; replace hAt : At B h0 (mkG [(1, fV r_i64 x1), (6, fV r_i64 s2.2), (8, fV r_u32 v4), (13, fV (Rep.slice r_u16) x0), (14, fV r_i64 (List.length x0 : Int)), (15, fV r_i64 s2.2)]) (mkO [(5, arrE 35 r_u16 s2.1)]) F 41 a w := hAt; refine then_n ?_; refine wp_seq ?_; obtain ⟨v5, hv5, H⟩ := bindE H; obtain ⟨v6, hv6, H⟩ := bindE H
      refine reg [⟨fCp 5, [], [], []⟩,
          ⟨fV r_i64 s2.2, [], [(6, none)], []⟩,
          ⟨fEl 5 ((Int.toNat s2.2) * r_u16.sz + 0), [], [(24, some 0), (25, some 1)], [(5, none)]⟩,
          ⟨fV r_u16 v5, [], [(26, some 2)], [(5, none)]⟩,
          ⟨fV r_u32 v4, [], [(8, none)], []⟩,
          ⟨fV r_u16 (IntKind.u16.wrap v4), [], [(28, some 4)], []⟩,
          ⟨fV r_u16 (bitI .or .u16 v5 (IntKind.u16.wrap v4)), [], [(27, some 3), (29, some 5)], []⟩,
          ⟨fEl 5 ((Int.toNat s2.2) * r_u16.sz + 0), [], [(24, some 0), (25, some 1)], [(5, none)]⟩,
          ⟨Fact.triv, [(5, some (arrE 35 r_u16 (List.set s2.1 (Int.toNat s2.2) (bitI .or .u16 v5 (IntKind.u16.wrap v4)))))], [(31, some 7), (30, some 6)], [(5, none)]⟩] [1, 6, 8, 13, 14, 15] [5] hAt
          ⟨ok_cp rfl,
          ok_move rfl opd0,
          ok_elArr hv5 ty35 un28 rfl opd0 opd1,
          ok_loadArr (idx_spec hv5).2.2 (Lens.refl _) ty35 rfl opd0,
          ok_move rfl opd0,
          ok_conv un154 un35 rfl opd0,
          ok_bit (op := .or) (by simp) rfl opd0 opd1,
          ok_elArr hv6 ty35 un28 rfl opd0 opd1,
          ok_storeArr (idx_spec hv6).2.2 (Lens.refl _) ty35 rfl rfl opd0 opd1 rfl, trivial⟩ (by kernel_rfl) ?_
      clear hAt; intro a w hAt; replace hAt : At B h0 (mkG [(1, fV r_i64 x1), (6, fV r_i64 s2.2), (8, fV r_u32 v4), (13, fV (Rep.slice r_u16) x0), (14, fV r_i64 (List.length x0 : Int)), (15, fV r_i64 s2.2)]) (mkO [(5, arrE 35 r_u16 (List.set s2.1 (Int.toNat s2.2) (bitI .or .u16 v5 (IntKind.u16.wrap v4))))]) F 41 a w := hAt; refine then_n ?_; obtain ⟨v7, hv7, H⟩ := bindE H; obtain ⟨v8, hv8, H⟩ := bindE H
      refine reg [⟨fCp 5, [], [], []⟩,
          ⟨fV r_i64 s2.2, [], [(6, none)], []⟩,
          ⟨fV r_i64 (IntKind.i64.wrap (s2.2 + 1)), [], [(33, some 1)], []⟩,
          ⟨fV r_u32 v4, [], [(8, none)], []⟩,
          ⟨fV r_u32 v7, [], [(35, some 3)], []⟩,
          ⟨fV r_u16 (IntKind.u16.wrap v7), [], [(36, some 4)], []⟩,
          ⟨fEl 5 ((Int.toNat (IntKind.i64.wrap (s2.2 + 1))) * r_u16.sz + 0), [], [(32, some 0), (34, some 2)], [(5, none)]⟩,
          ⟨Fact.triv, [(5, some (arrE 35 r_u16 (List.set (List.set s2.1 (Int.toNat s2.2) (bitI .or .u16 v5 (IntKind.u16.wrap v4))) (Int.toNat (IntKind.i64.wrap (s2.2 + 1))) (IntKind.u16.wrap v7))))], [(38, some 6), (37, some 5)], [(5, none)]⟩] [1, 13, 14, 15] [5] hAt
          ⟨ok_cp rfl,
          ok_move rfl opd0,
          ok_add rfl opd0 opdI,
          ok_move rfl opd0,
          ok_shr hv7 rfl opd0 opdI,
          ok_conv un154 un35 rfl opd0,
          ok_elArr hv8 ty35 un28 rfl opd0 opd1,
          ok_storeArr (idx_spec hv8).2.2 (Lens.refl _) ty35 rfl rfl opd0 opd1 rfl, trivial⟩ (by kernel_rfl) ?_
      clear hAt; intro a w hAt; replace hAt : At B h0 (mkG [(1, fV r_i64 x1), (13, fV (Rep.slice r_u16) x0), (14, fV r_i64 (List.length x0 : Int)), (15, fV r_i64 s2.2)]) (mkO [(5, arrE 35 r_u16 (List.set (List.set s2.1 (Int.toNat s2.2) (bitI .or .u16 v5 (IntKind.u16.wrap v4))) (Int.toNat (IntKind.i64.wrap (s2.2 + 1))) (IntKind.u16.wrap v7)))]) F 41 a w := hAt; refine blk_n ?_; refine then_n ?_
      refine reg [⟨fV r_i64 (IntKind.i64.wrap (s2.2 + 1)), [], [(15, none)], []⟩,
          ⟨fV r_i64 (IntKind.i64.wrap (s2.2 + 1)), [], [(39, some 0)], []⟩] [1, 13, 14, 15] [5] hAt
          ⟨ok_add rfl opd0 opdI,
          ok_move rfl opd0, trivial⟩ (by kernel_rfl) ?_
      clear hAt; intro a w hAt; replace hAt : At B h0 (mkG [(1, fV r_i64 x1), (13, fV (Rep.slice r_u16) x0), (14, fV r_i64 (List.length x0 : Int)), (15, fV r_i64 (IntKind.i64.wrap (s2.2 + 1)))]) (mkO [(5, arrE 35 r_u16 (List.set (List.set s2.1 (Int.toNat s2.2) (bitI .or .u16 v5 (IntKind.u16.wrap v4))) (Int.toNat (IntKind.i64.wrap (s2.2 + 1))) (IntKind.u16.wrap v7)))]) F 41 a w := hAt
      cases H
      exact ⟨rfl, hAt.pick [1, 13, 14, 15] [5]⟩
    · intro hb9; have H := iteF hb9 H; refine wp_exit ?_; refine then_x ?_
      cases H
      exact ⟨ex_ne, rfl, hAt.pick [] [5]⟩
  · exact hAt.pick [1, 13, 14, 15] [5]
  · clear hAt; intro e a w hp; obtain ⟨rfl, hAt⟩ := hp; refine blk_eq ?_; refine then_n ?_; refine wp_seq ?_
    refine reg [⟨fCp 5, [], [], []⟩,
        ⟨Fact.triv, [(5, none), (4, some (arrE 35 r_u16 o10))], [(40, some 0)], [(5, none)]⟩] [] [4] hAt
        ⟨ok_cp rfl,
        ok_takeCp rfl rfl (.inr rfl) opd0, trivial⟩ (by kernel_rfl) ?_
    clear hAt; intro a w hAt; replace hAt : At B h0 (mkG []) (mkO [(4, arrE 35 r_u16 o10)]) F 41 a w := hAt; refine then_n ?_; refine wp_ret ?_
    cases H
    exact ret1O rfl rfl  hAt
theorem okM_f_exact_digit (N : Nat) (K : Option SegK) (x0 : (List Int)) (x1 : (List Int)) (r : (List Int) × Int) (H : f_exact_digit N x0 x1 = some r) : FnOkM Try.prog 121 [Fact.triv, fV (Rep.slice r_u16) x1] 0 (segE K 35 r_u16 x0) (segE K 35 r_u16 r.1) (fV r_u16 r.2) := by
  unfold f_exact_digit at H; refine fn_enterM Try.func121 rfl rfl (by kernel_rfl) ?_; intro κ B h0 F a w vM hAt; refine wp_seq ?_
  refine reg [⟨fV r_u16 0, [], [], []⟩] [0, 1] [0] hAt
      ⟨ok_assign rfl opdI, trivial⟩ (by kernel_rfl) ?_
  clear hAt; intro a w hAt; replace hAt : At B h0 (mkG [(0, fIs vM), (1, fV (Rep.slice r_u16) x1)]) (mkO [(0, segE K 35 r_u16 x0)]) F 161 a w := hAt; refine then_n ?_; refine wp_seq ?_
  refine reg [⟨fV (Rep.slice r_u16) x1, [], [(1, none)], []⟩,
      ⟨fV r_i64 (List.length x1 : Int), [], [(16, some 0)], []⟩,
      ⟨fV r_i64 (List.length x1 : Int), [], [(17, some 1)], []⟩] [0, 1, 5] [0] hAt
      ⟨ok_move rfl opd0,
      ok_len un28 rfl opd0,
      ok_assign rfl opd0, trivial⟩ (by kernel_rfl) ?_
  clear hAt; intro a w hAt; replace hAt : At B h0 (mkG [(0, fIs vM), (1, fV (Rep.slice r_u16) x1), (5, fV r_i64 (List.length x1 : Int))]) (mkO [(0, segE K 35 r_u16 x0)]) F 161 a w := hAt; refine then_n ?_; refine wp_seq ?_; obtain ⟨v1, hv1, H⟩ := bindE H; obtain ⟨v2, hv2, H⟩ := bindE H; obtain ⟨v3, hv3, H⟩ := bindE H
  refine regd [⟨fCp 0, [], [], []⟩,
      ⟨fV r_i64 (List.length x1 : Int), [], [(5, none)], []⟩,
      ⟨fElS 0 ((Int.toNat (List.length x1 : Int)) * r_u16.sz + 0), [], [(18, some 0), (19, some 1)], [(0, none)]⟩,
      ⟨fV r_u16 v1, [], [(20, some 2)], [(0, none)]⟩,
      ⟨fV r_u64 (IntKind.u64.wrap v1), [], [(21, some 3)], []⟩,
      ⟨fV r_u64 v2, [], [(22, some 4)], []⟩,
      ⟨fCp 0, [], [], []⟩,
      ⟨fV r_i64 (List.length x1 : Int), [], [(5, none)], []⟩,
      ⟨fV r_i64 (IntKind.i64.wrap ((List.length x1 : Int) - 1)), [], [(25, some 7)], []⟩,
      ⟨fElS 0 ((Int.toNat (IntKind.i64.wrap ((List.length x1 : Int) - 1))) * r_u16.sz + 0), [], [(24, some 6), (26, some 8)], [(0, none)]⟩,
      ⟨fV r_u16 v3, [], [(27, some 9)], [(0, none)]⟩,
      ⟨fV r_u64 (IntKind.u64.wrap v3), [], [(28, some 10)], []⟩,
      ⟨fV r_u64 (bitI .or .u64 v2 (IntKind.u64.wrap v3)), [], [(23, some 5), (29, some 11)], []⟩,
      ⟨fV r_u64 (bitI .or .u64 v2 (IntKind.u64.wrap v3)), [], [(30, some 12)], []⟩] [0, 1, 2, 3, 4, 5, 6, 7, 8, 9, 10, 11, 12, 13] [0, 1, 2, 3, 4, 5, 6, 7, 8, 9, 10, 11, 12, 13] [0, 1, 5, 6] [0] hAt
      ⟨ok_cp rfl,
      ok_move rfl opd0,
      ok_elSeg hv1 ty35 un28 rfl opd0 opd1,
      ok_loadSeg (idx_spec hv1).2.2 (Lens.refl _) ty35 rfl opd0,
      ok_conv un35 un109 rfl opd0,
      ok_shl hv2 rfl opd0 opdI,
      ok_cp rfl,
      ok_move rfl opd0,
      ok_sub rfl opd0 opdI,
      ok_elSeg hv3 ty35 un28 rfl opd0 opd1,
      ok_loadSeg (idx_spec hv3).2.2 (Lens.refl _) ty35 rfl opd0,
      ok_conv un35 un109 rfl opd0,
      ok_bit (op := .or) (by simp) rfl opd0 opd1,
      ok_assign rfl opd0, trivial⟩ (by kernel_rfl) ?_
  clear hAt; intro a w hAt; replace hAt : At B h0 (mkG [(0, fIs vM), (1, fV (Rep.slice r_u16) x1), (5, fV r_i64 (List.length x1 : Int)), (6, fV r_u64 (bitI .or .u64 v2 (IntKind.u64.wrap v3)))]) (mkO [(0, segE K 35 r_u16 x0)]) F 161 a w := hAt; refine then_n ?_; refine wp_seq ?_; obtain ⟨v4, hv4, H⟩ := bindE H; obtain ⟨v5, hv5, H⟩ := bindE H; obtain ⟨v6, hv6, H⟩ := bindE H
  obtain ⟨v7, hv7, H⟩ := bindE H
  refine regd [⟨fV r_u64 (bitI .or .u64 v2 (IntKind.u64.wrap v3)), [], [(6, none)], []⟩,
      ⟨fV (Rep.slice r_u16) x1, [], [(1, none)], []⟩,
      ⟨fV r_i64 (List.length x1 : Int), [], [(5, none)], []⟩,
      ⟨fV r_i64 (IntKind.i64.wrap ((List.length x1 : Int) - 1)), [], [(33, some 2)], []⟩,
      ⟨fRef r_u16 v4, [], [(32, some 1), (34, some 3)], []⟩,
      ⟨fV r_u16 v4, [], [(35, some 4)], []⟩,
      ⟨fV r_u64 (IntKind.u64.wrap v4), [], [(36, some 5)], []⟩,
      ⟨fV r_u64 v5, [], [(31, some 0), (37, some 6)], []⟩,
      ⟨fV r_u64 (bitI .or .u64 v2 (IntKind.u64.wrap v3)), [], [(6, none)], []⟩,
      ⟨fV (Rep.slice r_u16) x1, [], [(1, none)], []⟩,
      ⟨fV r_i64 (List.length x1 : Int), [], [(5, none)], []⟩,
      ⟨fV r_i64 (IntKind.i64.wrap ((List.length x1 : Int) - 1)), [], [(41, some 10)], []⟩,
      ⟨fRef r_u16 v6, [], [(40, some 9), (42, some 11)], []⟩,
      ⟨fV r_u16 v6, [], [(43, some 12)], []⟩,
      ⟨fV r_u64 (IntKind.u64.wrap v6), [], [(44, some 13)], []⟩,
      ⟨fV r_u64 v7, [], [(39, some 8), (45, some 14)], []⟩,
      ⟨fV r_u64 v5, [], [(38, some 7)], []⟩,
      ⟨fV r_u64 v7, [], [(46, some 15)], []⟩] [0, 1, 2, 3, 4, 5, 6, 7, 8, 9, 10, 11, 12, 13, 14, 15, 16, 17] [0, 1, 2, 3, 4, 5, 6, 7, 16, 8, 9, 10, 11, 12, 13, 14, 15, 17] [0, 1, 5, 7, 8] [0] hAt
      ⟨ok_move rfl opd0,
      ok_move rfl opd0,
      ok_move rfl opd0,
      ok_sub rfl opd0 opdI,
      ok_index ty35 un28 hv4 rfl opd0 opd1,
      ok_load ty35 rfl opd0,
      ok_conv un35 un109 rfl opd0,
      ok_quo hv5 rfl opd0 opd1,
      ok_move rfl opd0,
      ok_move rfl opd0,
      ok_move rfl opd0,
      ok_sub rfl opd0 opdI,
      ok_index ty35 un28 hv6 rfl opd0 opd1,
      ok_load ty35 rfl opd0,
      ok_conv un35 un109 rfl opd0,
      ok_rem hv7 rfl opd0 opd1,
      ok_assign rfl opd0,
      ok_assign rfl opd0, trivial⟩ (by kernel_rfl) ?_
  clear hAt; intro a w hAt; replace hAt : At B h0 (mkG [(0, fIs vM), (1, fV (Rep.slice r_u16) x1), (5, fV r_i64 (List.length x1 : Int)), (7, fV r_u64 v5), (8, fV r_u64 v7)]) (mkO [(0, segE K 35 r_u16 x0)]) F 161 a w := hAt; refine then_n ?_; refine wp_seq ?_; refine wp_block ?_; obtain ⟨o14, hl15, H⟩ := bindE H
  refine wp_mono (wp_loopN (f := f_exact_digit_L3 N x0 x1) (fun (s8 : (Int × Int)) a w => At B h0 (mkG [(0, fIs vM), (1, fV (Rep.slice r_u16) x1), (5, fV r_i64 (List.length x1 : Int)), (7, fV r_u64 s8.1), (8, fV r_u64 s8.2)]) (mkO [(0, segE K 35 r_u16 x0)]) F 161 a w) (fun o e a w => (fun v => e = .exit 0 ∧ At B h0 (mkG [(0, fIs vM), (1, fV (Rep.slice r_u16) x1), (5, fV r_i64 (List.length x1 : Int)), (7, fV r_u64 v)]) (mkO [(0, segE K 35 r_u16 x0)]) F 161 a w) o) ?_ N (v5, v7) o14 _ _ hl15 ?_) ?_
  · clear H hAt hl15; intro s8 r41 a w H hAt; unfold f_exact_digit_L3 at H; refine wp_seq ?_; refine wp_seq ?_; obtain ⟨v9, hv9, H⟩ := bindE H; obtain ⟨v10, hv10, H⟩ := bindE H; obtain ⟨v11, hv11, H⟩ := bindE H
    refine regd [⟨fV r_u64 s8.2, [], [(8, none)], []⟩,
        ⟨fV Rep.bool (cmpI .lss s8.2 65536), [], [(47, some 0)], []⟩,
        ⟨fV Rep.bool (cmpI .lss s8.2 65536), [], [(48, some 1)], []⟩,
        ⟨Fact.when ((cmpI .lss s8.2 65536) = true) (fV r_u64 s8.1), [], [(49, some 2), (7, none)], []⟩,
        ⟨Fact.when ((cmpI .lss s8.2 65536) = true) (fV Rep.bool (cmpI .gtr s8.1 65535)), [], [(49, some 2), (50, some 3)], []⟩,
        ⟨Fact.when ((cmpI .lss s8.2 65536) = true) (fV Rep.bool (cmpI .gtr s8.1 65535)), [], [(49, some 2), (51, some 4)], []⟩,
        ⟨Fact.when (((cmpI .lss s8.2 65536) && (!(cmpI .gtr s8.1 65535))) = true) (fV r_u64 s8.1), [], [(52, some 5), (7, none)], []⟩,
        ⟨Fact.when (((cmpI .lss s8.2 65536) && (!(cmpI .gtr s8.1 65535))) = true) (fV (Rep.slice r_u16) x1), [], [(52, some 5), (1, none)], []⟩,
        ⟨Fact.when (((cmpI .lss s8.2 65536) && (!(cmpI .gtr s8.1 65535))) = true) (fV r_i64 (List.length x1 : Int)), [], [(52, some 5), (5, none)], []⟩,
        ⟨Fact.when (((cmpI .lss s8.2 65536) && (!(cmpI .gtr s8.1 65535))) = true) (fV r_i64 (IntKind.i64.wrap ((List.length x1 : Int) - 2))), [], [(52, some 5), (55, some 8)], []⟩,
        ⟨Fact.when (((cmpI .lss s8.2 65536) && (!(cmpI .gtr s8.1 65535))) = true) (fRef r_u16 v9), [], [(52, some 5), (54, some 7), (56, some 9)], []⟩,
        ⟨Fact.when (((cmpI .lss s8.2 65536) && (!(cmpI .gtr s8.1 65535))) = true) (fV r_u16 v9), [], [(52, some 5), (57, some 10)], []⟩,
        ⟨Fact.when (((cmpI .lss s8.2 65536) && (!(cmpI .gtr s8.1 65535))) = true) (fV r_u64 (IntKind.u64.wrap v9)), [], [(52, some 5), (58, some 11)], []⟩,
        ⟨Fact.when (((cmpI .lss s8.2 65536) && (!(cmpI .gtr s8.1 65535))) = true) (fV r_u64 (IntKind.u64.wrap (s8.1 * (IntKind.u64.wrap v9)))), [], [(52, some 5), (53, some 6), (59, some 12)], []⟩,
        ⟨Fact.when (((cmpI .lss s8.2 65536) && (!(cmpI .gtr s8.1 65535))) = true) (fV r_u64 s8.2), [], [(52, some 5), (8, none)], []⟩,
        ⟨Fact.when (((cmpI .lss s8.2 65536) && (!(cmpI .gtr s8.1 65535))) = true) (fV r_u64 v10), [], [(52, some 5), (61, some 14)], []⟩,
        ⟨Fact.when (((cmpI .lss s8.2 65536) && (!(cmpI .gtr s8.1 65535))) = true) (fCp 0), [], [(52, some 5)], []⟩,
        ⟨Fact.when (((cmpI .lss s8.2 65536) && (!(cmpI .gtr s8.1 65535))) = true) (fV r_i64 (List.length x1 : Int)), [], [(52, some 5), (5, none)], []⟩,
        ⟨Fact.when (((cmpI .lss s8.2 65536) && (!(cmpI .gtr s8.1 65535))) = true) (fV r_i64 (IntKind.i64.wrap ((List.length x1 : Int) - 2))), [], [(52, some 5), (64, some 17)], []⟩,
        ⟨Fact.when (((cmpI .lss s8.2 65536) && (!(cmpI .gtr s8.1 65535))) = true) (fElS 0 ((Int.toNat (IntKind.i64.wrap ((List.length x1 : Int) - 2))) * r_u16.sz + 0)), [], [(52, some 5), (63, some 16), (65, some 18)], [(0, none)]⟩,
        ⟨Fact.when (((cmpI .lss s8.2 65536) && (!(cmpI .gtr s8.1 65535))) = true) (fV r_u16 v11), [], [(52, some 5), (66, some 19)], [(0, none)]⟩,
        ⟨Fact.when (((cmpI .lss s8.2 65536) && (!(cmpI .gtr s8.1 65535))) = true) (fV r_u64 (IntKind.u64.wrap v11)), [], [(52, some 5), (67, some 20)], []⟩,
        ⟨Fact.when (((cmpI .lss s8.2 65536) && (!(cmpI .gtr s8.1 65535))) = true) (fV r_u64 (bitI .or .u64 v10 (IntKind.u64.wrap v11))), [], [(52, some 5), (62, some 15), (68, some 21)], []⟩,
        ⟨Fact.when (((cmpI .lss s8.2 65536) && (!(cmpI .gtr s8.1 65535))) = true) (fV Rep.bool (cmpI .gtr (IntKind.u64.wrap (s8.1 * (IntKind.u64.wrap v9))) (bitI .or .u64 v10 (IntKind.u64.wrap v11)))), [], [(52, some 5), (60, some 13), (69, some 22)], []⟩,
        ⟨Fact.when ((cmpI .lss s8.2 65536) = true) (fV Rep.bool ((cmpI .gtr s8.1 65535) || (cmpI .gtr (IntKind.u64.wrap (s8.1 * (IntKind.u64.wrap v9))) (bitI .or .u64 v10 (IntKind.u64.wrap v11))))), [], [(49, some 2), (52, some 5), (70, some 23)], []⟩,
        ⟨fV Rep.bool ((cmpI .lss s8.2 65536) && ((cmpI .gtr s8.1 65535) || (cmpI .gtr (IntKind.u64.wrap (s8.1 * (IntKind.u64.wrap v9))) (bitI .or .u64 v10 (IntKind.u64.wrap v11))))), [], [(49, some 2), (71, some 24)], []⟩] [0, 1, 2, 3, 4, 5, 6, 7, 8, 9, 10, 11, 12, 13, 14, 15, 16, 17, 18, 19, 20, 21, 22, 23, 24, 25] [0, 1, 2, 3, 4, 5, 6, 7, 8, 9, 10, 11, 12, 13, 14, 15, 16, 17, 18, 19, 20, 21, 22, 23, 24, 25] [0, 1, 5, 7, 8, 72] [0] hAt
        ⟨ok_move rfl opd0,
        ok_cmp (op := .lss) (by simp) rfl rfl opd0 opdI,
        ok_move rfl opd0,
        obl_tt rfl rfl rfl rfl rfl rfl rfl (fun hg => ok_move rfl opd1),
        obl_tt rfl rfl rfl rfl rfl rfl rfl (fun hg => ok_cmp (op := .gtr) (by simp) rfl rfl (opd1.on hg) opdI),
        obl_tt rfl rfl rfl rfl rfl rfl rfl (fun hg => ok_move rfl (opd1.on hg)),
        obl_wf rfl rfl rfl rfl rfl rfl rfl (fun hg => ok_move rfl opd1),
        obl_wf rfl rfl rfl rfl rfl rfl rfl (fun hg => ok_move rfl opd1),
        obl_wf rfl rfl rfl rfl rfl rfl rfl (fun hg => ok_move rfl opd1),
        obl_wf rfl rfl rfl rfl rfl rfl rfl (fun hg => ok_sub rfl (opd1.on hg) opdI),
        obl_wf rfl rfl rfl rfl rfl rfl rfl (fun hg => ok_index ty35 un28 (iteT hg hv9) rfl (opd1.on hg) (opd2.on hg)),
        obl_wf rfl rfl rfl rfl rfl rfl rfl (fun hg => ok_load ty35 rfl (opd1.on hg)),
        obl_wf rfl rfl rfl rfl rfl rfl rfl (fun hg => ok_conv un35 un109 rfl (opd1.on hg)),
        obl_wf rfl rfl rfl rfl rfl rfl rfl (fun hg => ok_mul rfl (opd1.on hg) (opd2.on hg)),
        obl_wf rfl rfl rfl rfl rfl rfl rfl (fun hg => ok_move rfl opd1),
        obl_wf rfl rfl rfl rfl rfl rfl rfl (fun hg => ok_shl (iteT hg hv10) rfl (opd1.on hg) opdI),
        obl_wf rfl rfl rfl rfl rfl rfl rfl (fun hg => ok_cp rfl),
        obl_wf rfl rfl rfl rfl rfl rfl rfl (fun hg => ok_move rfl opd1),
        obl_wf rfl rfl rfl rfl rfl rfl rfl (fun hg => ok_sub rfl (opd1.on hg) opdI),
        obl_wf rfl rfl rfl rfl rfl rfl rfl (fun hg => ok_elSeg (iteT hg hv11) ty35 un28 rfl (opd1.on hg) (opd2.on hg)),
        obl_wf rfl rfl rfl rfl rfl rfl rfl (fun hg => ok_loadSeg (idx_spec (iteT hg hv11)).2.2 (Lens.refl _) ty35 rfl (opd1.on hg)),
        obl_wf rfl rfl rfl rfl rfl rfl rfl (fun hg => ok_conv un35 un109 rfl (opd1.on hg)),
        obl_wf rfl rfl rfl rfl rfl rfl rfl (fun hg => ok_bit (op := .or) (by simp) rfl (opd1.on hg) (opd2.on hg)),
        obl_wf rfl rfl rfl rfl rfl rfl rfl (fun hg => ok_cmp (op := .gtr) (by simp) rfl rfl (opd1.on hg) (opd2.on hg)),
        obl_tt rfl rfl rfl rfl rfl rfl rfl (fun hg => ok_or rfl (opd1.on hg) (fun e => (opd2.on (andT hg (notT e))))),
        ok_and rfl opd0 (fun e => (opd1.on e)), trivial⟩ (by kernel_rfl) ?_
    clear hAt; intro a w hAt
    replace hAt : At B h0 (mkG [(0, fIs vM), (1, fV (Rep.slice r_u16) x1), (5, fV r_i64 (List.length x1 : Int)), (7, fV r_u64 s8.1), (8, fV r_u64 s8.2), (72, fV Rep.bool ((cmpI .lss s8.2 65536) && ((cmpI .gtr s8.1 65535) || (cmpI .gtr (IntKind.u64.wrap (s8.1 * (IntKind.u64.wrap v9))) (bitI .or .u64 v10 (IntKind.u64.wrap v11))))))]) (mkO [(0, segE K 35 r_u16 x0)]) F 161 a w := hAt; refine then_n ?_
    refine wp_if hAt (by rfl) ?_ ?_
    · intro hb13; have H := iteT hb13 H; refine wp_skip ?_; refine then_n ?_; refine wp_block ?_; refine wp_seq ?_
      refine reg [⟨fV r_u64 s8.1, [], [(7, none)], []⟩,
          ⟨fV r_u64 (IntKind.u64.wrap (s8.1 - 1)), [], [(73, some 0)], []⟩,
          ⟨fV r_u64 (IntKind.u64.wrap (s8.1 - 1)), [], [(74, some 1)], []⟩] [0, 1, 5, 7, 8] [0] hAt
          ⟨ok_move rfl opd0,
          ok_sub rfl opd0 opdI,
          ok_assign rfl opd0, trivial⟩ (by kernel_rfl) ?_
      clear hAt; intro a w hAt; replace hAt : At B h0 (mkG [(0, fIs vM), (1, fV (Rep.slice r_u16) x1), (5, fV r_i64 (List.length x1 : Int)), (7, fV r_u64 (IntKind.u64.wrap (s8.1 - 1))), (8, fV r_u64 s8.2)]) (mkO [(0, segE K 35 r_u16 x0)]) F 161 a w := hAt; refine then_n ?_; obtain ⟨v12, hv12, H⟩ := bindE H
      refine reg [⟨fV r_u64 s8.2, [], [(8, none)], []⟩,
          ⟨fV (Rep.slice r_u16) x1, [], [(1, none)], []⟩,
          ⟨fV r_i64 (List.length x1 : Int), [], [(5, none)], []⟩,
          ⟨fV r_i64 (IntKind.i64.wrap ((List.length x1 : Int) - 1)), [], [(77, some 2)], []⟩,
          ⟨fRef r_u16 v12, [], [(76, some 1), (78, some 3)], []⟩,
          ⟨fV r_u16 v12, [], [(79, some 4)], []⟩,
          ⟨fV r_u64 (IntKind.u64.wrap v12), [], [(80, some 5)], []⟩,
          ⟨fV r_u64 (IntKind.u64.wrap (s8.2 + (IntKind.u64.wrap v12))), [], [(75, some 0), (81, some 6)], []⟩,
          ⟨fV r_u64 (IntKind.u64.wrap (s8.2 + (IntKind.u64.wrap v12))), [], [(82, some 7)], []⟩] [0, 1, 5, 7, 8] [0] hAt
          ⟨ok_move rfl opd0,
          ok_move rfl opd0,
          ok_move rfl opd0,
          ok_sub rfl opd0 opdI,
          ok_index ty35 un28 hv12 rfl opd0 opd1,
          ok_load ty35 rfl opd0,
          ok_conv un35 un109 rfl opd0,
          ok_add rfl opd0 opd1,
          ok_assign rfl opd0, trivial⟩ (by kernel_rfl) ?_
      clear hAt; intro a w hAt; replace hAt : At B h0 (mkG [(0, fIs vM), (1, fV (Rep.slice r_u16) x1), (5, fV r_i64 (List.length x1 : Int)), (7, fV r_u64 (IntKind.u64.wrap (s8.1 - 1))), (8, fV r_u64 (IntKind.u64.wrap (s8.2 + (IntKind.u64.wrap v12))))]) (mkO [(0, segE K 35 r_u16 x0)]) F 161 a w := hAt; refine blk_n ?_
      cases H
      exact ⟨rfl, hAt.pick [0, 1, 5, 7, 8] [0]⟩
    · intro hb13; have H := iteF hb13 H; refine wp_exit ?_; refine then_x ?_
      cases H
      exact ⟨ex_ne, rfl, hAt.pick [0, 1, 5, 7] [0]⟩
  · exact hAt.pick [0, 1, 5, 7, 8] [0]
  · clear hAt; intro e a w hp; obtain ⟨rfl, hAt⟩ := hp; refine blk_eq ?_; refine then_n ?_; refine wp_seq ?_
    refine reg [⟨fV r_u64 0, [], [], []⟩,
        ⟨fV r_i64 0, [], [], []⟩] [0, 1, 5, 7, 9, 10] [0] hAt
        ⟨ok_assign rfl opdI,
        ok_assign rfl opdI, trivial⟩ (by kernel_rfl) ?_
    clear hAt; intro a w hAt; replace hAt : At B h0 (mkG [(0, fIs vM), (1, fV (Rep.slice r_u16) x1), (5, fV r_i64 (List.length x1 : Int)), (7, fV r_u64 o14), (9, fV r_u64 0), (10, fV r_i64 0)]) (mkO [(0, segE K 35 r_u16 x0)]) F 161 a w := hAt; refine then_n ?_; refine wp_seq ?_; refine wp_seq ?_
    refine reg [⟨fV r_i64 (List.length x1 : Int), [], [(5, none)], []⟩,
        ⟨fV r_i64 (IntKind.i64.wrap ((List.length x1 : Int) + 1)), [], [(83, some 0)], []⟩,
        ⟨fV r_i64 0, [], [], []⟩] [0, 1, 5, 7, 9, 10, 84, 85] [0] hAt
        ⟨ok_move rfl opd0,
        ok_add rfl opd0 opdI,
        ok_move rfl opdI, trivial⟩ (by kernel_rfl) ?_
    clear hAt; intro a w hAt; replace hAt : At B h0 (mkG [(0, fIs vM), (1, fV (Rep.slice r_u16) x1), (5, fV r_i64 (List.length x1 : Int)), (7, fV r_u64 o14), (9, fV r_u64 0), (10, fV r_i64 0), (84, fV r_i64 (IntKind.i64.wrap ((List.length x1 : Int) + 1))), (85, fV r_i64 0)]) (mkO [(0, segE K 35 r_u16 x0)]) F 161 a w := hAt; refine then_n ?_; refine wp_block ?_; obtain ⟨o26, hl27, H⟩ := bindE H
    refine wp_mono (wp_loopN (f := f_exact_digit_L2 N x1 o14) (fun (s16 : ((List Int) × Int × Int × Int)) a w => At B h0 (mkG [(0, fIs vM), (1, fV (Rep.slice r_u16) x1), (5, fV r_i64 (List.length x1 : Int)), (7, fV r_u64 o14), (9, fV r_u64 s16.2.1), (10, fV r_i64 s16.2.2.1), (84, fV r_i64 (IntKind.i64.wrap ((List.length x1 : Int) + 1))), (85, fV r_i64 s16.2.2.2)]) (mkO [(0, segE K 35 r_u16 s16.1)]) F 161 a w) (fun o e a w => (fun v => e = .exit 2 ∧ At B h0 (mkG [(0, fIs vM), (1, fV (Rep.slice r_u16) x1), (5, fV r_i64 (List.length x1 : Int)), (7, fV r_u64 o14), (10, fV r_i64 v.2)]) (mkO [(0, segE K 35 r_u16 v.1)]) F 161 a w) o) ?_ N (x0, 0, 0, 0) o26 _ _ hl27 ?_) ?_
    · clear H hAt hl27; intro s16 r40 a w H hAt; unfold f_exact_digit_L2 at H; refine wp_seq ?_
      refine reg [⟨fV Rep.bool (cmpI .lss s16.2.2.2 (IntKind.i64.wrap ((List.length x1 : Int) + 1))), [], [(85, none), (84, none)], []⟩] [0, 1, 5, 7, 9, 10, 84, 85, 86] [0] hAt
          ⟨ok_cmp (op := .lss) (by simp) rfl rfl opd0 opd1, trivial⟩ (by kernel_rfl) ?_
      clear hAt; intro a w hAt
      replace hAt : At B h0 (mkG [(0, fIs vM), (1, fV (Rep.slice r_u16) x1), (5, fV r_i64 (List.length x1 : Int)), (7, fV r_u64 o14), (9, fV r_u64 s16.2.1), (10, fV r_i64 s16.2.2.1), (84, fV r_i64 (IntKind.i64.wrap ((List.length x1 : Int) + 1))), (85, fV r_i64 s16.2.2.2), (86, fV Rep.bool (cmpI .lss s16.2.2.2 (IntKind.i64.wrap ((List.length x1 : Int) + 1))))]) (mkO [(0, segE K 35 r_u16 s16.1)]) F 161 a w := hAt
      refine then_n ?_; refine wp_seq ?_; refine wp_if hAt (by rfl) ?_ ?_
      · intro hb25; have H := iteT hb25 H; refine wp_skip ?_; refine then_n ?_; refine wp_seq ?_; refine wp_block ?_; refine wp_seq ?_
        refine reg [⟨fV r_i64 s16.2.2.2, [], [(85, none)], []⟩,
            ⟨fV r_i64 s16.2.2.2, [], [(87, some 0)], []⟩] [0, 1, 5, 7, 9, 10, 11, 84, 85] [0] hAt
            ⟨ok_move rfl opd0,
            ok_assign rfl opd0, trivial⟩ (by kernel_rfl) ?_
        clear hAt; intro a w hAt; replace hAt : At B h0 (mkG [(0, fIs vM), (1, fV (Rep.slice r_u16) x1), (5, fV r_i64 (List.length x1 : Int)), (7, fV r_u64 o14), (9, fV r_u64 s16.2.1), (10, fV r_i64 s16.2.2.1), (11, fV r_i64 s16.2.2.2), (84, fV r_i64 (IntKind.i64.wrap ((List.length x1 : Int) + 1))), (85, fV r_i64 s16.2.2.2)]) (mkO [(0, segE K 35 r_u16 s16.1)]) F 161 a w := hAt; refine then_n ?_
        refine wp_seq ?_
        refine reg [⟨fV r_u64 s16.2.1, [], [(9, none)], []⟩,
            ⟨fV r_u64 s16.2.1, [], [(88, some 0)], []⟩] [0, 1, 5, 7, 10, 11, 12, 84, 85] [0] hAt
            ⟨ok_move rfl opd0,
            ok_assign rfl opd0, trivial⟩ (by kernel_rfl) ?_
        clear hAt; intro a w hAt; replace hAt : At B h0 (mkG [(0, fIs vM), (1, fV (Rep.slice r_u16) x1), (5, fV r_i64 (List.length x1 : Int)), (7, fV r_u64 o14), (10, fV r_i64 s16.2.2.1), (11, fV r_i64 s16.2.2.2), (12, fV r_u64 s16.2.1), (84, fV r_i64 (IntKind.i64.wrap ((List.length x1 : Int) + 1))), (85, fV r_i64 s16.2.2.2)]) (mkO [(0, segE K 35 r_u16 s16.1)]) F 161 a w := hAt; refine then_n ?_
        refine wp_seq ?_; obtain ⟨o19, hl20, H⟩ := bindE H
        refine wp_mono (Q := (fun o e a w => (fun v => e = .normal ∧ At B h0 (mkG [(0, fIs vM), (1, fV (Rep.slice r_u16) x1), (5, fV r_i64 (List.length x1 : Int)), (7, fV r_u64 o14), (10, fV r_i64 s16.2.2.1), (11, fV r_i64 s16.2.2.2), (12, fV r_u64 v), (84, fV r_i64 (IntKind.i64.wrap ((List.length x1 : Int) + 1))), (85, fV r_i64 s16.2.2.2)]) (mkO [(0, segE K 35 r_u16 s16.1)]) F 161 a w) o) o19) ?_ ?_
        · clear H; have H := hl20; clear hl20; refine wp_seq ?_
          refine reg [⟨fV r_i64 s16.2.2.2, [], [(11, none)], []⟩,
              ⟨fV r_i64 (List.length x1 : Int), [], [(5, none)], []⟩,
              ⟨fV Rep.bool (cmpI .lss s16.2.2.2 (List.length x1 : Int)), [], [(89, some 0), (90, some 1)], []⟩] [0, 1, 5, 7, 10, 11, 12, 84, 85, 91] [0] hAt
              ⟨ok_move rfl opd0,
              ok_move rfl opd0,
              ok_cmp (op := .lss) (by simp) rfl rfl opd0 opd1, trivial⟩ (by kernel_rfl) ?_
          clear hAt; intro a w hAt
          replace hAt : At B h0 (mkG [(0, fIs vM), (1, fV (Rep.slice r_u16) x1), (5, fV r_i64 (List.length x1 : Int)), (7, fV r_u64 o14), (10, fV r_i64 s16.2.2.1), (11, fV r_i64 s16.2.2.2), (12, fV r_u64 s16.2.1), (84, fV r_i64 (IntKind.i64.wrap ((List.length x1 : Int) + 1))), (85, fV r_i64 s16.2.2.2), (91, fV Rep.bool (cmpI .lss s16.2.2.2 (List.length x1 : Int)))]) (mkO [(0, segE K 35 r_u16 s16.1)]) F 161 a w := hAt
          refine then_n ?_; refine wp_if hAt (by rfl) ?_ ?_
          · intro hb18; have H := iteT hb18 H; obtain ⟨v17, hv17, H⟩ := bindE H
            refine reg [⟨fV r_u64 s16.2.1, [], [(12, none)], []⟩,
                ⟨fV r_u64 o14, [], [(7, none)], []⟩,
                ⟨fV (Rep.slice r_u16) x1, [], [(1, none)], []⟩,
                ⟨fV r_i64 s16.2.2.2, [], [(11, none)], []⟩,
                ⟨fRef r_u16 v17, [], [(94, some 2), (95, some 3)], []⟩,
                ⟨fV r_u16 v17, [], [(96, some 4)], []⟩,
                ⟨fV r_u64 (IntKind.u64.wrap v17), [], [(97, some 5)], []⟩,
                ⟨fV r_u64 (IntKind.u64.wrap (o14 * (IntKind.u64.wrap v17))), [], [(93, some 1), (98, some 6)], []⟩,
                ⟨fV r_u64 (IntKind.u64.wrap (s16.2.1 + (IntKind.u64.wrap (o14 * (IntKind.u64.wrap v17))))), [], [(92, some 0), (99, some 7)], []⟩,
                ⟨fV r_u64 (IntKind.u64.wrap (s16.2.1 + (IntKind.u64.wrap (o14 * (IntKind.u64.wrap v17))))), [], [(100, some 8)], []⟩] [0, 1, 5, 7, 10, 11, 12, 84, 85] [0] hAt
                ⟨ok_move rfl opd0,
                ok_move rfl opd0,
                ok_move rfl opd0,
                ok_move rfl opd0,
                ok_index ty35 un28 hv17 rfl opd0 opd1,
                ok_load ty35 rfl opd0,
                ok_conv un35 un109 rfl opd0,
                ok_mul rfl opd0 opd1,
                ok_add rfl opd0 opd1,
                ok_assign rfl opd0, trivial⟩ (by kernel_rfl) ?_
            clear hAt; intro a w hAt
            replace hAt : At B h0 (mkG [(0, fIs vM), (1, fV (Rep.slice r_u16) x1), (5, fV r_i64 (List.length x1 : Int)), (7, fV r_u64 o14), (10, fV r_i64 s16.2.2.1), (11, fV r_i64 s16.2.2.2), (12, fV r_u64 (IntKind.u64.wrap (s16.2.1 + (IntKind.u64.wrap (o14 * (IntKind.u64.wrap v17)))))), (84, fV r_i64 (IntKind.i64.wrap ((List.length x1 : Int) + 1))), (85, fV r_i64 s16.2.2.2)]) (mkO [(0, segE K 35 r_u16 s16.1)]) F 161 a w := hAt
            cases H
            exact ⟨rfl, hAt.pick [0, 1, 5, 7, 10, 11, 12, 84, 85] [0]⟩
          · intro hb18; have H := iteF hb18 H; refine wp_skip ?_
            cases H
            exact ⟨rfl, hAt.pick [0, 1, 5, 7, 10, 11, 12, 84, 85] [0]⟩
        · clear hAt; intro e a w hp; obtain ⟨rfl, hAt⟩ := hp; refine then_n ?_; refine wp_seq ?_; obtain ⟨v21, hv21, H⟩ := bindE H
          refine reg [⟨fV r_u64 o19, [], [(12, none)], []⟩,
              ⟨fV r_u64 v21, [], [(101, some 0)], []⟩,
              ⟨fV r_u64 v21, [], [(102, some 1)], []⟩] [0, 1, 5, 7, 9, 10, 11, 12, 84, 85] [0] hAt
              ⟨ok_move rfl opd0,
              ok_shr hv21 rfl opd0 opdI,
              ok_assign rfl opd0, trivial⟩ (by kernel_rfl) ?_
          clear hAt; intro a w hAt; replace hAt : At B h0 (mkG [(0, fIs vM), (1, fV (Rep.slice r_u16) x1), (5, fV r_i64 (List.length x1 : Int)), (7, fV r_u64 o14), (9, fV r_u64 v21), (10, fV r_i64 s16.2.2.1), (11, fV r_i64 s16.2.2.2), (12, fV r_u64 o19), (84, fV r_i64 (IntKind.i64.wrap ((List.length x1 : Int) + 1))), (85, fV r_i64 s16.2.2.2)]) (mkO [(0, segE K 35 r_u16 s16.1)]) F 161 a w := hAt
          refine then_n ?_; refine wp_seq ?_; obtain ⟨v22, hv22, H⟩ := bindE H
          refine reg [⟨fCp 0, [], [], []⟩,
              ⟨fV r_i64 s16.2.2.2, [], [(11, none)], []⟩,
              ⟨fElS 0 ((Int.toNat s16.2.2.2) * r_u16.sz + 0), [], [(103, some 0), (104, some 1)], [(0, none)]⟩,
              ⟨fV r_u16 v22, [], [(105, some 2)], [(0, none)]⟩,
              ⟨fV r_i64 (IntKind.i64.wrap v22), [], [(106, some 3)], []⟩,
              ⟨fV r_u64 o19, [], [(12, none)], []⟩,
              ⟨fV r_u64 (bitI .and .u64 o19 65535), [], [(108, some 5)], []⟩,
              ⟨fV r_i64 (IntKind.i64.wrap (bitI .and .u64 o19 65535)), [], [(109, some 6)], []⟩,
              ⟨fV r_i64 (IntKind.i64.wrap ((IntKind.i64.wrap v22) - (IntKind.i64.wrap (bitI .and .u64 o19 65535)))), [], [(107, some 4), (110, some 7)], []⟩,
              ⟨fV r_i64 s16.2.2.1, [], [(10, none)], []⟩,
              ⟨fV r_i64 (IntKind.i64.wrap ((IntKind.i64.wrap ((IntKind.i64.wrap v22) - (IntKind.i64.wrap (bitI .and .u64 o19 65535)))) + s16.2.2.1)), [], [(111, some 8), (112, some 9)], []⟩,
              ⟨fV r_i64 (IntKind.i64.wrap ((IntKind.i64.wrap ((IntKind.i64.wrap v22) - (IntKind.i64.wrap (bitI .and .u64 o19 65535)))) + s16.2.2.1)), [], [(113, some 10)], []⟩] [0, 1, 5, 7, 9, 11, 13, 84, 85] [0] hAt
              ⟨ok_cp rfl,
              ok_move rfl opd0,
              ok_elSeg hv22 ty35 un28 rfl opd0 opd1,
              ok_loadSeg (idx_spec hv22).2.2 (Lens.refl _) ty35 rfl opd0,
              ok_conv un35 un2 rfl opd0,
              ok_move rfl opd0,
              ok_bit (op := .and) (by simp) rfl opd0 opdI,
              ok_conv un109 un2 rfl opd0,
              ok_sub rfl opd0 opd1,
              ok_move rfl opd0,
              ok_add rfl opd0 opd1,
              ok_assign rfl opd0, trivial⟩ (by kernel_rfl) ?_
          clear hAt; intro a w hAt
          replace hAt : At B h0 (mkG [(0, fIs vM), (1, fV (Rep.slice r_u16) x1), (5, fV r_i64 (List.length x1 : Int)), (7, fV r_u64 o14), (9, fV r_u64 v21), (11, fV r_i64 s16.2.2.2), (13, fV r_i64 (IntKind.i64.wrap ((IntKind.i64.wrap ((IntKind.i64.wrap v22) - (IntKind.i64.wrap (bitI .and .u64 o19 65535)))) + s16.2.2.1))), (84, fV r_i64 (IntKind.i64.wrap ((List.length x1 : Int) + 1))), (85, fV r_i64 s16.2.2.2)]) (mkO [(0, segE K 35 r_u16 s16.1)]) F 161 a w := hAt
          refine then_n ?_; refine wp_seq ?_; obtain ⟨v23, hv23, H⟩ := bindE H
          refine reg [⟨fCp 0, [], [], []⟩,
              ⟨fV r_i64 s16.2.2.2, [], [(11, none)], []⟩,
              ⟨fV r_i64 (IntKind.i64.wrap ((IntKind.i64.wrap ((IntKind.i64.wrap v22) - (IntKind.i64.wrap (bitI .and .u64 o19 65535)))) + s16.2.2.1)), [], [(13, none)], []⟩,
              ⟨fV r_u16 (IntKind.u16.wrap (IntKind.i64.wrap ((IntKind.i64.wrap ((IntKind.i64.wrap v22) - (IntKind.i64.wrap (bitI .and .u64 o19 65535)))) + s16.2.2.1))), [], [(116, some 2)], []⟩,
              ⟨fElS 0 ((Int.toNat s16.2.2.2) * r_u16.sz + 0), [], [(114, some 0), (115, some 1)], [(0, none)]⟩,
              ⟨Fact.triv, [(0, some (segE K 35 r_u16 (List.set s16.1 (Int.toNat s16.2.2.2) (IntKind.u16.wrap (IntKind.i64.wrap ((IntKind.i64.wrap ((IntKind.i64.wrap v22) - (IntKind.i64.wrap (bitI .and .u64 o19 65535)))) + s16.2.2.1))))))], [(118, some 4), (117, some 3)], [(0, none)]⟩] [0, 1, 5, 7, 9, 13, 84, 85] [0] hAt
              ⟨ok_cp rfl,
              ok_move rfl opd0,
              ok_move rfl opd0,
              ok_conv un2 un35 rfl opd0,
              ok_elSeg hv23 ty35 un28 rfl opd0 opd1,
              ok_storeSeg (idx_spec hv23).2.2 (Lens.refl _) ty35 rfl rfl opd0 opd1 rfl, trivial⟩ (by kernel_rfl) ?_
          clear hAt; intro a w hAt
          replace hAt : At B h0 (mkG [(0, fIs vM), (1, fV (Rep.slice r_u16) x1), (5, fV r_i64 (List.length x1 : Int)), (7, fV r_u64 o14), (9, fV r_u64 v21), (13, fV r_i64 (IntKind.i64.wrap ((IntKind.i64.wrap ((IntKind.i64.wrap v22) - (IntKind.i64.wrap (bitI .and .u64 o19 65535)))) + s16.2.2.1))), (84, fV r_i64 (IntKind.i64.wrap ((List.length x1 : Int) + 1))), (85, fV r_i64 s16.2.2.2)]) (mkO [(0, segE K 35 r_u16 (List.set s16.1 (Int.toNat s16.2.2.2) (IntKind.u16.wrap (IntKind.i64.wrap ((IntKind.i64.wrap ((IntKind.i64.wrap v22) - (IntKind.i64.wrap (bitI .and .u64 o19 65535)))) + s16.2.2.1)))))]) F 161 a w := hAt
          refine then_n ?_; obtain ⟨v24, hv24, H⟩ := bindE H
          refine reg [⟨fV r_i64 (IntKind.i64.wrap ((IntKind.i64.wrap ((IntKind.i64.wrap v22) - (IntKind.i64.wrap (bitI .and .u64 o19 65535)))) + s16.2.2.1)), [], [(13, none)], []⟩,
              ⟨fV r_i64 v24, [], [(119, some 0)], []⟩,
              ⟨fV r_i64 v24, [], [(120, some 1)], []⟩] [0, 1, 5, 7, 9, 10, 84, 85] [0] hAt
              ⟨ok_move rfl opd0,
              ok_shr hv24 rfl opd0 opdI,
              ok_assign rfl opd0, trivial⟩ (by kernel_rfl) ?_
          clear hAt; intro a w hAt
          replace hAt : At B h0 (mkG [(0, fIs vM), (1, fV (Rep.slice r_u16) x1), (5, fV r_i64 (List.length x1 : Int)), (7, fV r_u64 o14), (9, fV r_u64 v21), (10, fV r_i64 v24), (84, fV r_i64 (IntKind.i64.wrap ((List.length x1 : Int) + 1))), (85, fV r_i64 s16.2.2.2)]) (mkO [(0, segE K 35 r_u16 (List.set s16.1 (Int.toNat s16.2.2.2) (IntKind.u16.wrap (IntKind.i64.wrap ((IntKind.i64.wrap ((IntKind.i64.wrap v22) - (IntKind.i64.wrap (bitI .and .u64 o19 65535)))) + s16.2.2.1)))))]) F 161 a w := hAt
          refine blk_n ?_; refine then_n ?_
          refine reg [⟨fV r_i64 (IntKind.i64.wrap (s16.2.2.2 + 1)), [], [(85, none)], []⟩,
              ⟨fV r_i64 (IntKind.i64.wrap (s16.2.2.2 + 1)), [], [(121, some 0)], []⟩] [0, 1, 5, 7, 9, 10, 84, 85] [0] hAt
              ⟨ok_add rfl opd0 opdI,
              ok_move rfl opd0, trivial⟩ (by kernel_rfl) ?_
          clear hAt; intro a w hAt
          replace hAt : At B h0 (mkG [(0, fIs vM), (1, fV (Rep.slice r_u16) x1), (5, fV r_i64 (List.length x1 : Int)), (7, fV r_u64 o14), (9, fV r_u64 v21), (10, fV r_i64 v24), (84, fV r_i64 (IntKind.i64.wrap ((List.length x1 : Int) + 1))), (85, fV r_i64 (IntKind.i64.wrap (s16.2.2.2 + 1)))]) (mkO [(0, segE K 35 r_u16 (List.set s16.1 (Int.toNat s16.2.2.2) (IntKind.u16.wrap (IntKind.i64.wrap ((IntKind.i64.wrap ((IntKind.i64.wrap v22) - (IntKind.i64.wrap (bitI .and .u64 o19 65535)))) + s16.2.2.1)))))]) F 161 a w := hAt
          cases H
          exact ⟨rfl, hAt.pick [0, 1, 5, 7, 9, 10, 84, 85] [0]⟩
      · intro hb25; have H := iteF hb25 H; refine wp_exit ?_; refine then_x ?_
        cases H
        exact ⟨ex_ne, rfl, hAt.pick [0, 1, 5, 7, 10] [0]⟩
    · exact hAt.pick [0, 1, 5, 7, 9, 10, 84, 85] [0]
    · clear hAt; intro e a w hp; obtain ⟨rfl, hAt⟩ := hp; refine blk_eq ?_; refine then_n ?_; refine wp_seq ?_; refine wp_seq ?_
      refine reg [⟨fV r_i64 o26.2, [], [(10, none)], []⟩,
          ⟨fV Rep.bool (cmpI .lss o26.2 0), [], [(122, some 0)], []⟩] [0, 1, 5, 7, 123] [0] hAt
          ⟨ok_move rfl opd0,
          ok_cmp (op := .lss) (by simp) rfl rfl opd0 opdI, trivial⟩ (by kernel_rfl) ?_
      clear hAt; intro a w hAt; replace hAt : At B h0 (mkG [(0, fIs vM), (1, fV (Rep.slice r_u16) x1), (5, fV r_i64 (List.length x1 : Int)), (7, fV r_u64 o14), (123, fV Rep.bool (cmpI .lss o26.2 0))]) (mkO [(0, segE K 35 r_u16 o26.1)]) F 161 a w := hAt; refine then_n ?_; refine wp_if hAt (by rfl) ?_ ?_
      · intro hb39; have H := iteT hb39 H; refine wp_seq ?_
        refine reg [⟨fV r_u64 o14, [], [(7, none)], []⟩,
            ⟨fV r_u64 (IntKind.u64.wrap (o14 - 1)), [], [(124, some 0)], []⟩,
            ⟨fV r_u64 (IntKind.u64.wrap (o14 - 1)), [], [(125, some 1)], []⟩] [0, 1, 5, 7] [0] hAt
            ⟨ok_move rfl opd0,
            ok_sub rfl opd0 opdI,
            ok_assign rfl opd0, trivial⟩ (by kernel_rfl) ?_
        clear hAt; intro a w hAt; replace hAt : At B h0 (mkG [(0, fIs vM), (1, fV (Rep.slice r_u16) x1), (5, fV r_i64 (List.length x1 : Int)), (7, fV r_u64 (IntKind.u64.wrap (o14 - 1)))]) (mkO [(0, segE K 35 r_u16 o26.1)]) F 161 a w := hAt; refine then_n ?_; refine wp_seq ?_
        refine reg [⟨fV r_u32 0, [], [], []⟩] [0, 1, 5, 7, 14] [0] hAt
            ⟨ok_assign rfl opdI, trivial⟩ (by kernel_rfl) ?_
        clear hAt; intro a w hAt; replace hAt : At B h0 (mkG [(0, fIs vM), (1, fV (Rep.slice r_u16) x1), (5, fV r_i64 (List.length x1 : Int)), (7, fV r_u64 (IntKind.u64.wrap (o14 - 1))), (14, fV r_u32 0)]) (mkO [(0, segE K 35 r_u16 o26.1)]) F 161 a w := hAt; refine then_n ?_; refine wp_seq ?_; refine wp_seq ?_
        refine reg [⟨fV r_i64 (List.length x1 : Int), [], [(5, none)], []⟩,
            ⟨fV r_i64 0, [], [], []⟩] [0, 1, 5, 7, 14, 126, 127] [0] hAt
            ⟨ok_move rfl opd0,
            ok_move rfl opdI, trivial⟩ (by kernel_rfl) ?_
        clear hAt; intro a w hAt; replace hAt : At B h0 (mkG [(0, fIs vM), (1, fV (Rep.slice r_u16) x1), (5, fV r_i64 (List.length x1 : Int)), (7, fV r_u64 (IntKind.u64.wrap (o14 - 1))), (14, fV r_u32 0), (126, fV r_i64 (List.length x1 : Int)), (127, fV r_i64 0)]) (mkO [(0, segE K 35 r_u16 o26.1)]) F 161 a w := hAt; refine then_n ?_; refine wp_block ?_; obtain ⟨o34, hl35, H⟩ := bindE H
        refine wp_mono (wp_loopN (f := f_exact_digit_L1 N x1) (fun (s28 : ((List Int) × Int × Int)) a w => At B h0 (mkG [(0, fIs vM), (1, fV (Rep.slice r_u16) x1), (5, fV r_i64 (List.length x1 : Int)), (7, fV r_u64 (IntKind.u64.wrap (o14 - 1))), (14, fV r_u32 s28.2.1), (126, fV r_i64 (List.length x1 : Int)), (127, fV r_i64 s28.2.2)]) (mkO [(0, segE K 35 r_u16 s28.1)]) F 161 a w) (fun o e a w => (fun v => e = .exit 4 ∧ At B h0 (mkG [(0, fIs vM), (5, fV r_i64 (List.length x1 : Int)), (7, fV r_u64 (IntKind.u64.wrap (o14 - 1))), (14, fV r_u32 v.2)]) (mkO [(0, segE K 35 r_u16 v.1)]) F 161 a w) o) ?_ N (o26.1, 0, 0) o34 _ _ hl35 ?_) ?_
        · clear H hAt hl35; intro s28 r38 a w H hAt; unfold f_exact_digit_L1 at H; refine wp_seq ?_
          refine reg [⟨fV Rep.bool (cmpI .lss s28.2.2 (List.length x1 : Int)), [], [(127, none), (126, none)], []⟩] [0, 1, 5, 7, 14, 126, 127, 128] [0] hAt
              ⟨ok_cmp (op := .lss) (by simp) rfl rfl opd0 opd1, trivial⟩ (by kernel_rfl) ?_
          clear hAt; intro a w hAt; replace hAt : At B h0 (mkG [(0, fIs vM), (1, fV (Rep.slice r_u16) x1), (5, fV r_i64 (List.length x1 : Int)), (7, fV r_u64 (IntKind.u64.wrap (o14 - 1))), (14, fV r_u32 s28.2.1), (126, fV r_i64 (List.length x1 : Int)), (127, fV r_i64 s28.2.2), (128, fV Rep.bool (cmpI .lss s28.2.2 (List.length x1 : Int)))]) (mkO [(0, segE K 35 r_u16 s28.1)]) F 161 a w := hAt; refine then_n ?_
          refine wp_seq ?_; refine wp_if hAt (by rfl) ?_ ?_
          · intro hb33; have H := iteT hb33 H; refine wp_skip ?_; refine then_n ?_; refine wp_seq ?_; refine wp_block ?_; refine wp_seq ?_
            refine reg [⟨fV r_i64 s28.2.2, [], [(127, none)], []⟩,
                ⟨fV r_i64 s28.2.2, [], [(129, some 0)], []⟩] [0, 1, 5, 7, 14, 15, 126, 127] [0] hAt
                ⟨ok_move rfl opd0,
                ok_assign rfl opd0, trivial⟩ (by kernel_rfl) ?_
            clear hAt; intro a w hAt; replace hAt : At B h0 (mkG [(0, fIs vM), (1, fV (Rep.slice r_u16) x1), (5, fV r_i64 (List.length x1 : Int)), (7, fV r_u64 (IntKind.u64.wrap (o14 - 1))), (14, fV r_u32 s28.2.1), (15, fV r_i64 s28.2.2), (126, fV r_i64 (List.length x1 : Int)), (127, fV r_i64 s28.2.2)]) (mkO [(0, segE K 35 r_u16 s28.1)]) F 161 a w := hAt; refine then_n ?_; refine wp_seq ?_
            obtain ⟨v29, hv29, H⟩ := bindE H; obtain ⟨v30, hv30, H⟩ := bindE H
            refine regd [⟨fV r_u32 s28.2.1, [], [(14, none)], []⟩,
                ⟨fCp 0, [], [], []⟩,
                ⟨fV r_i64 s28.2.2, [], [(15, none)], []⟩,
                ⟨fElS 0 ((Int.toNat s28.2.2) * r_u16.sz + 0), [], [(131, some 1), (132, some 2)], [(0, none)]⟩,
                ⟨fV r_u16 v29, [], [(133, some 3)], [(0, none)]⟩,
                ⟨fV r_u32 (IntKind.u32.wrap v29), [], [(134, some 4)], []⟩,
                ⟨fV (Rep.slice r_u16) x1, [], [(1, none)], []⟩,
                ⟨fV r_i64 s28.2.2, [], [(15, none)], []⟩,
                ⟨fRef r_u16 v30, [], [(136, some 6), (137, some 7)], []⟩,
                ⟨fV r_u16 v30, [], [(138, some 8)], []⟩,
                ⟨fV r_u32 (IntKind.u32.wrap v30), [], [(139, some 9)], []⟩,
                ⟨fV r_u32 (IntKind.u32.wrap ((IntKind.u32.wrap v29) + (IntKind.u32.wrap v30))), [], [(135, some 5), (140, some 10)], []⟩,
                ⟨fV r_u32 (IntKind.u32.wrap (s28.2.1 + (IntKind.u32.wrap ((IntKind.u32.wrap v29) + (IntKind.u32.wrap v30))))), [], [(130, some 0), (141, some 11)], []⟩,
                ⟨fV r_u32 (IntKind.u32.wrap (s28.2.1 + (IntKind.u32.wrap ((IntKind.u32.wrap v29) + (IntKind.u32.wrap v30))))), [], [(142, some 12)], []⟩] [0, 1, 2, 3, 4, 5, 6, 7, 8, 9, 10, 11, 12, 13] [0, 1, 2, 3, 4, 5, 6, 7, 8, 9, 10, 11, 12, 13] [0, 1, 5, 7, 14, 15, 126, 127] [0] hAt
                ⟨ok_move rfl opd0,
                ok_cp rfl,
                ok_move rfl opd0,
                ok_elSeg hv29 ty35 un28 rfl opd0 opd1,
                ok_loadSeg (idx_spec hv29).2.2 (Lens.refl _) ty35 rfl opd0,
                ok_conv un35 un154 rfl opd0,
                ok_move rfl opd0,
                ok_move rfl opd0,
                ok_index ty35 un28 hv30 rfl opd0 opd1,
                ok_load ty35 rfl opd0,
                ok_conv un35 un154 rfl opd0,
                ok_add rfl opd0 opd1,
                ok_add rfl opd0 opd1,
                ok_assign rfl opd0, trivial⟩ (by kernel_rfl) ?_
            clear hAt; intro a w hAt
            replace hAt : At B h0 (mkG [(0, fIs vM), (1, fV (Rep.slice r_u16) x1), (5, fV r_i64 (List.length x1 : Int)), (7, fV r_u64 (IntKind.u64.wrap (o14 - 1))), (14, fV r_u32 (IntKind.u32.wrap (s28.2.1 + (IntKind.u32.wrap ((IntKind.u32.wrap v29) + (IntKind.u32.wrap v30)))))), (15, fV r_i64 s28.2.2), (126, fV r_i64 (List.length x1 : Int)), (127, fV r_i64 s28.2.2)]) (mkO [(0, segE K 35 r_u16 s28.1)]) F 161 a w := hAt
            refine then_n ?_; refine wp_seq ?_; obtain ⟨v31, hv31, H⟩ := bindE H
            refine reg [⟨fCp 0, [], [], []⟩,
                ⟨fV r_i64 s28.2.2, [], [(15, none)], []⟩,
                ⟨fV r_u32 (IntKind.u32.wrap (s28.2.1 + (IntKind.u32.wrap ((IntKind.u32.wrap v29) + (IntKind.u32.wrap v30))))), [], [(14, none)], []⟩,
                ⟨fV r_u16 (IntKind.u16.wrap (IntKind.u32.wrap (s28.2.1 + (IntKind.u32.wrap ((IntKind.u32.wrap v29) + (IntKind.u32.wrap v30)))))), [], [(145, some 2)], []⟩,
                ⟨fElS 0 ((Int.toNat s28.2.2) * r_u16.sz + 0), [], [(143, some 0), (144, some 1)], [(0, none)]⟩,
                ⟨Fact.triv, [(0, some (segE K 35 r_u16 (List.set s28.1 (Int.toNat s28.2.2) (IntKind.u16.wrap (IntKind.u32.wrap (s28.2.1 + (IntKind.u32.wrap ((IntKind.u32.wrap v29) + (IntKind.u32.wrap v30)))))))))], [(147, some 4), (146, some 3)], [(0, none)]⟩] [0, 1, 5, 7, 14, 126, 127] [0] hAt
                ⟨ok_cp rfl,
                ok_move rfl opd0,
                ok_move rfl opd0,
                ok_conv un154 un35 rfl opd0,
                ok_elSeg hv31 ty35 un28 rfl opd0 opd1,
                ok_storeSeg (idx_spec hv31).2.2 (Lens.refl _) ty35 rfl rfl opd0 opd1 rfl, trivial⟩ (by kernel_rfl) ?_
            clear hAt; intro a w hAt
            replace hAt : At B h0 (mkG [(0, fIs vM), (1, fV (Rep.slice r_u16) x1), (5, fV r_i64 (List.length x1 : Int)), (7, fV r_u64 (IntKind.u64.wrap (o14 - 1))), (14, fV r_u32 (IntKind.u32.wrap (s28.2.1 + (IntKind.u32.wrap ((IntKind.u32.wrap v29) + (IntKind.u32.wrap v30)))))), (126, fV r_i64 (List.length x1 : Int)), (127, fV r_i64 s28.2.2)]) (mkO [(0, segE K 35 r_u16 (List.set s28.1 (Int.toNat s28.2.2) (IntKind.u16.wrap (IntKind.u32.wrap (s28.2.1 + (IntKind.u32.wrap ((IntKind.u32.wrap v29) + (IntKind.u32.wrap v30))))))))]) F 161 a w := hAt
            refine then_n ?_; obtain ⟨v32, hv32, H⟩ := bindE H
            refine reg [⟨fV r_u32 (IntKind.u32.wrap (s28.2.1 + (IntKind.u32.wrap ((IntKind.u32.wrap v29) + (IntKind.u32.wrap v30))))), [], [(14, none)], []⟩,
                ⟨fV r_u32 v32, [], [(148, some 0)], []⟩,
                ⟨fV r_u32 v32, [], [(149, some 1)], []⟩] [0, 1, 5, 7, 14, 126, 127] [0] hAt
                ⟨ok_move rfl opd0,
                ok_shr hv32 rfl opd0 opdI,
                ok_assign rfl opd0, trivial⟩ (by kernel_rfl) ?_
            clear hAt; intro a w hAt
            replace hAt : At B h0 (mkG [(0, fIs vM), (1, fV (Rep.slice r_u16) x1), (5, fV r_i64 (List.length x1 : Int)), (7, fV r_u64 (IntKind.u64.wrap (o14 - 1))), (14, fV r_u32 v32), (126, fV r_i64 (List.length x1 : Int)), (127, fV r_i64 s28.2.2)]) (mkO [(0, segE K 35 r_u16 (List.set s28.1 (Int.toNat s28.2.2) (IntKind.u16.wrap (IntKind.u32.wrap (s28.2.1 + (IntKind.u32.wrap ((IntKind.u32.wrap v29) + (IntKind.u32.wrap v30))))))))]) F 161 a w := hAt
            refine blk_n ?_; refine then_n ?_
            refine reg [⟨fV r_i64 (IntKind.i64.wrap (s28.2.2 + 1)), [], [(127, none)], []⟩,
                ⟨fV r_i64 (IntKind.i64.wrap (s28.2.2 + 1)), [], [(150, some 0)], []⟩] [0, 1, 5, 7, 14, 126, 127] [0] hAt
                ⟨ok_add rfl opd0 opdI,
                ok_move rfl opd0, trivial⟩ (by kernel_rfl) ?_
            clear hAt; intro a w hAt
            replace hAt : At B h0 (mkG [(0, fIs vM), (1, fV (Rep.slice r_u16) x1), (5, fV r_i64 (List.length x1 : Int)), (7, fV r_u64 (IntKind.u64.wrap (o14 - 1))), (14, fV r_u32 v32), (126, fV r_i64 (List.length x1 : Int)), (127, fV r_i64 (IntKind.i64.wrap (s28.2.2 + 1)))]) (mkO [(0, segE K 35 r_u16 (List.set s28.1 (Int.toNat s28.2.2) (IntKind.u16.wrap (IntKind.u32.wrap (s28.2.1 + (IntKind.u32.wrap ((IntKind.u32.wrap v29) + (IntKind.u32.wrap v30))))))))]) F 161 a w := hAt
            cases H
            exact ⟨rfl, hAt.pick [0, 1, 5, 7, 14, 126, 127] [0]⟩
          · intro hb33; have H := iteF hb33 H; refine wp_exit ?_; refine then_x ?_
            cases H
            exact ⟨ex_ne, rfl, hAt.pick [0, 5, 7, 14] [0]⟩
        · exact hAt.pick [0, 1, 5, 7, 14, 126, 127] [0]
        · clear hAt; intro e a w hp; obtain ⟨rfl, hAt⟩ := hp; refine blk_eq ?_; refine then_n ?_; obtain ⟨v36, hv36, H⟩ := bindE H; obtain ⟨v37, hv37, H⟩ := bindE H
          refine reg [⟨fCp 0, [], [], []⟩,
              ⟨fV r_i64 (List.length x1 : Int), [], [(5, none)], []⟩,
              ⟨fElS 0 ((Int.toNat (List.length x1 : Int)) * r_u16.sz + 0), [], [(151, some 0), (152, some 1)], [(0, none)]⟩,
              ⟨fV r_u16 v36, [], [(153, some 2)], [(0, none)]⟩,
              ⟨fV r_u32 o34.2, [], [(14, none)], []⟩,
              ⟨fV r_u16 (IntKind.u16.wrap o34.2), [], [(155, some 4)], []⟩,
              ⟨fV r_u16 (IntKind.u16.wrap (v36 + (IntKind.u16.wrap o34.2))), [], [(154, some 3), (156, some 5)], []⟩,
              ⟨fElS 0 ((Int.toNat (List.length x1 : Int)) * r_u16.sz + 0), [], [(151, some 0), (152, some 1)], [(0, none)]⟩,
              ⟨Fact.triv, [(0, some (segE K 35 r_u16 (List.set o34.1 (Int.toNat (List.length x1 : Int)) (IntKind.u16.wrap (v36 + (IntKind.u16.wrap o34.2))))))], [(158, some 7), (157, some 6)], [(0, none)]⟩] [0, 7] [0] hAt
              ⟨ok_cp rfl,
              ok_move rfl opd0,
              ok_elSeg hv36 ty35 un28 rfl opd0 opd1,
              ok_loadSeg (idx_spec hv36).2.2 (Lens.refl _) ty35 rfl opd0,
              ok_move rfl opd0,
              ok_conv un154 un35 rfl opd0,
              ok_add rfl opd0 opd1,
              ok_elSeg hv37 ty35 un28 rfl opd0 opd1,
              ok_storeSeg (idx_spec hv37).2.2 (Lens.refl _) ty35 rfl rfl opd0 opd1 rfl, trivial⟩ (by kernel_rfl) ?_
          clear hAt; intro a w hAt; replace hAt : At B h0 (mkG [(0, fIs vM), (7, fV r_u64 (IntKind.u64.wrap (o14 - 1)))]) (mkO [(0, segE K 35 r_u16 (List.set o34.1 (Int.toNat (List.length x1 : Int)) (IntKind.u16.wrap (v36 + (IntKind.u16.wrap o34.2)))))]) F 161 a w := hAt; refine then_n ?_; refine wp_seq ?_
          refine reg [⟨fV r_u64 (IntKind.u64.wrap (o14 - 1)), [], [(7, none)], []⟩,
              ⟨fV r_u16 (IntKind.u16.wrap (IntKind.u64.wrap (o14 - 1))), [], [(159, some 0)], []⟩,
              ⟨fV r_u16 (IntKind.u16.wrap (IntKind.u64.wrap (o14 - 1))), [], [(160, some 1)], []⟩] [0, 4] [0] hAt
              ⟨ok_move rfl opd0,
              ok_conv un109 un35 rfl opd0,
              ok_assign rfl opd0, trivial⟩ (by kernel_rfl) ?_
          clear hAt; intro a w hAt; replace hAt : At B h0 (mkG [(0, fIs vM), (4, fV r_u16 (IntKind.u16.wrap (IntKind.u64.wrap (o14 - 1))))]) (mkO [(0, segE K 35 r_u16 (List.set o34.1 (Int.toNat (List.length x1 : Int)) (IntKind.u16.wrap (v36 + (IntKind.u16.wrap o34.2)))))]) F 161 a w := hAt; refine then_n ?_; refine wp_ret ?_
          cases H
          exact retM1 (i := 0) rfl rfl rfl (rv_tmp rfl rfl) hAt
      · intro hb39; have H := iteF hb39 H; refine wp_skip ?_; refine then_n ?_; refine wp_seq ?_
        refine reg [⟨fV r_u64 o14, [], [(7, none)], []⟩,
            ⟨fV r_u16 (IntKind.u16.wrap o14), [], [(159, some 0)], []⟩,
            ⟨fV r_u16 (IntKind.u16.wrap o14), [], [(160, some 1)], []⟩] [0, 4] [0] hAt
            ⟨ok_move rfl opd0,
            ok_conv un109 un35 rfl opd0,
            ok_assign rfl opd0, trivial⟩ (by kernel_rfl) ?_
        clear hAt; intro a w hAt; replace hAt : At B h0 (mkG [(0, fIs vM), (4, fV r_u16 (IntKind.u16.wrap o14))]) (mkO [(0, segE K 35 r_u16 o26.1)]) F 161 a w := hAt; refine then_n ?_; refine wp_ret ?_
        cases H
        exact retM1 (i := 0) rfl rfl rfl (rv_tmp rfl rfl) hAt
end Go.KB
