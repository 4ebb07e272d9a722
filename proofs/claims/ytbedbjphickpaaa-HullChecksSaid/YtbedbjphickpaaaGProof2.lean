/- The Go functions compute what the plain functions compute. Printed by a program. No condition. -/
import Derived.Test.YtbedbjphickpaaaGProof1
namespace Go.KB
open Go.Proofs
set_option maxRecDepth 100000
set_option linter.unusedVariables false
theorem ok_f_exact_divide (N : Nat) (x0 : (List Int)) (x1 : (List Int)) (r : (List Int) × (List Int)) (H : f_exact_divide N x0 x1 = some r) : FnOk Try.prog 97 [fV (Rep.slice r_u16) x0, fV (Rep.slice r_u16) x1] (fT2 (fV (Rep.slice r_u16) (r.1)) (fV (Rep.slice r_u16) (r.2))) := by
  unfold f_exact_divide at H; refine fn_enter Try.func97 rfl rfl (by kernel_rfl) ?_; intro κ B h0 F a w hAt; refine wp_seq ?_
  refine reg [⟨Fact.triv, [(4, some (arrE 35 r_u16 []))], [], []⟩,
      ⟨Fact.triv, [(5, some (arrE 35 r_u16 []))], [], []⟩] [0, 1] [] hAt
      ⟨ok_nilArr rfl (.inl rfl),
      ok_nilArr rfl (.inl rfl), trivial⟩ (by kernel_rfl) ?_
  clear hAt; intro a w hAt; replace hAt : At B h0 (mkG [(0, fV (Rep.slice r_u16) x0), (1, fV (Rep.slice r_u16) x1)]) (mkO []) F 109 a w := hAt; refine then_n ?_; refine wp_seq ?_; refine wp_seq ?_; obtain ⟨v1, hv1, H⟩ := bindE H
  refine reg [⟨fV (Rep.slice r_u16) x0, [], [(0, none)], []⟩,
      ⟨fV (Rep.slice r_u16) x1, [], [(1, none)], []⟩,
      ⟨fV r_i64 v1, [], [(14, some 0), (15, some 1)], []⟩,
      ⟨fV Rep.bool (cmpI .lss v1 0), [], [(16, some 2)], []⟩] [0, 1, 17] [] hAt
      ⟨ok_move rfl opd0,
      ok_move rfl opd0,
      ok_call (ok_f_exact_compare N x0 x1 _ hv1) Try.func100 (by kernel_rfl) (by kernel_rfl) rfl ⟨opd0, ⟨opd1, trivial⟩⟩,
      ok_cmp (op := .lss) (by simp) rfl rfl opd0 opdI, trivial⟩ (by kernel_rfl) ?_
  clear hAt; intro a w hAt; replace hAt : At B h0 (mkG [(0, fV (Rep.slice r_u16) x0), (1, fV (Rep.slice r_u16) x1), (17, fV Rep.bool (cmpI .lss v1 0))]) (mkO []) F 109 a w := hAt; refine then_n ?_; refine wp_if hAt (by rfl) ?_ ?_
  · intro hb34; have H := iteT hb34 H; refine wp_seq ?_; obtain ⟨v2, hv2, H⟩ := bindE H
    refine reg [⟨fV (Rep.slice r_u16) x0, [], [(0, none)], []⟩,
        ⟨fV (Rep.slice r_u16) v2, [], [(18, some 0)], []⟩,
        ⟨Fact.triv, [(4, some (arrE 35 r_u16 []))], [], []⟩,
        ⟨fV (Rep.slice r_u16) v2, [], [(19, some 1)], []⟩] [5] [4] hAt
        ⟨ok_move rfl opd0,
        ok_call (ok_f_slices_Cloneluint16_uint16 N x0 _ hv2) Try.func117 (by kernel_rfl) (by kernel_rfl) rfl ⟨opd0, trivial⟩,
        ok_nilArr rfl (.inl rfl),
        ok_assign rfl opd0, trivial⟩ (by kernel_rfl) ?_
    clear hAt; intro a w hAt; replace hAt : At B h0 (mkG [(5, fV (Rep.slice r_u16) v2)]) (mkO [(4, arrE 35 r_u16 [])]) F 109 a w := hAt; refine then_n ?_; refine wp_ret ?_; refine then_r ?_; have hAt := At.freeze 4 hAt rfl; replace hAt := hAt.pick [4, 5] []; replace hAt : At B h0 (mkG [(4, fV (Rep.slice r_u16) []), (5, fV (Rep.slice r_u16) v2)]) (mkO []) F 109 a w := hAt
    cases H
    exact ret2 rfl (rv_tmp rfl rfl) (rv_tmp rfl rfl) hAt
  · intro hb34; have H := iteF hb34 H; refine wp_skip ?_; refine then_n ?_; refine wp_seq ?_; refine wp_seq ?_
    refine reg [⟨fV (Rep.slice r_u16) x1, [], [(1, none)], []⟩,
        ⟨fV r_i64 (List.length x1 : Int), [], [(20, some 0)], []⟩,
        ⟨fV Rep.bool (cmpI .eql (List.length x1 : Int) 1), [], [(21, some 1)], []⟩] [0, 1, 22] [] hAt
        ⟨ok_move rfl opd0,
        ok_len un28 rfl opd0,
        ok_cmp (op := .eql) (by simp) rfl rfl opd0 opdI, trivial⟩ (by kernel_rfl) ?_
    clear hAt; intro a w hAt; replace hAt : At B h0 (mkG [(0, fV (Rep.slice r_u16) x0), (1, fV (Rep.slice r_u16) x1), (22, fV Rep.bool (cmpI .eql (List.length x1 : Int) 1))]) (mkO []) F 109 a w := hAt; refine then_n ?_; refine wp_if hAt (by rfl) ?_ ?_
    · intro hb33; have H := iteT hb33 H; refine wp_seq ?_; obtain ⟨v3, hv3, H⟩ := bindE H; obtain ⟨v4, hv4, H⟩ := bindE H
      refine reg [⟨fV (Rep.slice r_u16) x0, [], [(0, none)], []⟩,
          ⟨fV (Rep.slice r_u16) x1, [], [(1, none)], []⟩,
          ⟨fRef r_u16 v3, [], [(25, some 1)], []⟩,
          ⟨fV r_u16 v3, [], [(26, some 2)], []⟩,
          ⟨fT2 (fV (Rep.slice r_u16) v4.1) (fV r_u16 v4.2), [], [(24, some 0), (27, some 3)], []⟩,
          ⟨fT2 (fV (Rep.slice r_u16) v4.1) (fV r_u16 v4.2), [], [(28, some 4)], []⟩,
          ⟨fV (Rep.slice r_u16) v4.1, [], [(23, some 5)], []⟩,
          ⟨fV r_u16 v4.2, [], [(23, some 5)], []⟩,
          ⟨fV (Rep.slice r_u16) v4.1, [], [(29, some 6)], []⟩,
          ⟨fV r_u16 v4.2, [], [(30, some 7)], []⟩] [6, 7] [] hAt
          ⟨ok_move rfl opd0,
          ok_move rfl opd0,
          ok_index ty35 un28 hv3 rfl opd0 opdI,
          ok_load ty35 rfl opd0,
          ok_call (ok_f_exact_short N x0 v3 _ hv4) Try.func118 (by kernel_rfl) (by kernel_rfl) rfl ⟨opd0, ⟨opd1, trivial⟩⟩,
          ok_move rfl opd0,
          ok_ext20 rfl rfl opd0,
          ok_ext21 rfl rfl opd0,
          ok_assign rfl opd0,
          ok_assign rfl opd0, trivial⟩ (by kernel_rfl) ?_
      clear hAt; intro a w hAt; replace hAt : At B h0 (mkG [(6, fV (Rep.slice r_u16) v4.1), (7, fV r_u16 v4.2)]) (mkO []) F 109 a w := hAt; refine then_n ?_; refine wp_seq ?_; obtain ⟨v5, hv5, H⟩ := bindE H
      refine reg [⟨fV (Rep.slice r_u16) v4.1, [], [(6, none)], []⟩,
          ⟨fV r_u16 v4.2, [], [(7, none)], []⟩,
          ⟨fV (Rep.slice r_u16) [v4.2], [], [(32, some 1)], []⟩,
          ⟨fV (Rep.slice r_u16) v5, [], [(33, some 2)], []⟩,
          ⟨fV (Rep.slice r_u16) v4.1, [], [(31, some 0)], []⟩,
          ⟨fV (Rep.slice r_u16) v5, [], [(34, some 3)], []⟩] [4, 5] [] hAt
          ⟨ok_move rfl opd0,
          ok_move rfl opd0,
          ok_buildSlice ty35 un28 rfl rfl (fillC (Lens.arr _ _ 0 (by decide)) rfl opd0 fillN),
          ok_call (ok_f_exact_trim N [v4.2] _ hv5) Try.func71 (by kernel_rfl) (by kernel_rfl) rfl ⟨opd0, trivial⟩,
          ok_assign rfl opd0,
          ok_assign rfl opd0, trivial⟩ (by kernel_rfl) ?_
      clear hAt; intro a w hAt; replace hAt : At B h0 (mkG [(4, fV (Rep.slice r_u16) v4.1), (5, fV (Rep.slice r_u16) v5)]) (mkO []) F 109 a w := hAt; refine then_n ?_; refine wp_ret ?_; refine then_r ?_
      cases H
      exact ret2 rfl (rv_tmp rfl rfl) (rv_tmp rfl rfl) hAt
    · intro hb33; have H := iteF hb33 H; refine wp_skip ?_; refine then_n ?_; refine wp_seq ?_; obtain ⟨v6, hv6, H⟩ := bindE H; obtain ⟨v7, hv7, H⟩ := bindE H
      refine reg [⟨fV (Rep.slice r_u16) x1, [], [(1, none)], []⟩,
          ⟨fV (Rep.slice r_u16) x1, [], [(1, none)], []⟩,
          ⟨fV r_i64 (List.length x1 : Int), [], [(36, some 1)], []⟩,
          ⟨fV r_i64 (IntKind.i64.wrap ((List.length x1 : Int) - 1)), [], [(37, some 2)], []⟩,
          ⟨fRef r_u16 v6, [], [(35, some 0), (38, some 3)], []⟩,
          ⟨fV r_u16 v6, [], [(39, some 4)], []⟩,
          ⟨fV r_i64 v7, [], [(40, some 5)], []⟩,
          ⟨fV r_i64 v7, [], [(41, some 6)], []⟩] [0, 1, 8] [] hAt
          ⟨ok_move rfl opd0,
          ok_move rfl opd0,
          ok_len un28 rfl opd0,
          ok_sub rfl opd0 opdI,
          ok_index ty35 un28 hv6 rfl opd0 opd1,
          ok_load ty35 rfl opd0,
          ok_call (ok_f_bits_LeadingZeros16 N v6 _ hv7) Try.func119 (by kernel_rfl) (by kernel_rfl) rfl ⟨opd0, trivial⟩,
          ok_assign rfl opd0, trivial⟩ (by kernel_rfl) ?_
      clear hAt; intro a w hAt; replace hAt : At B h0 (mkG [(0, fV (Rep.slice r_u16) x0), (1, fV (Rep.slice r_u16) x1), (8, fV r_i64 v7)]) (mkO []) F 109 a w := hAt; refine then_n ?_; refine wp_seq ?_; obtain ⟨v8, hv8, H⟩ := bindE H; obtain ⟨v9, hv9, H⟩ := bindE H; obtain ⟨v10, hv10, H⟩ := bindE H
      refine regd [⟨fV (Rep.slice r_u16) x0, [], [(0, none)], []⟩,
          ⟨fV r_i64 v7, [], [(8, none)], []⟩,
          ⟨Fact.triv, [(44, some (arrE 35 r_u16 v8))], [(42, some 0), (43, some 1)], []⟩,
          ⟨fV (Rep.slice r_u16) x1, [], [(1, none)], []⟩,
          ⟨fV r_i64 v7, [], [(8, none)], []⟩,
          ⟨fV (Rep.slice r_u16) v9, [], [(45, some 3), (46, some 4)], []⟩,
          ⟨fV (Rep.slice r_u16) x1, [], [(1, none)], []⟩,
          ⟨fV r_i64 (List.length x1 : Int), [], [(48, some 6)], []⟩,
          ⟨fV (Rep.slice r_u16) v10, [], [(47, some 5), (49, some 7)], []⟩,
          ⟨Fact.triv, [(44, none), (9, some (arrE 35 r_u16 v8))], [], [(44, some 2)]⟩,
          ⟨fV (Rep.slice r_u16) v10, [], [(50, some 8)], []⟩] [0, 1, 2, 3, 4, 5, 6, 7, 8, 9, 10] [0, 1, 2, 3, 4, 5, 6, 7, 8, 9, 10] [8, 10] [9] hAt
          ⟨ok_move rfl opd0,
          ok_move rfl opd0,
          ok_callO (okO_f_exact_shifted N x0 v7 _ hv8) Try.func120 (by kernel_rfl) (by kernel_rfl) rfl rfl ⟨opd0, ⟨opd1, trivial⟩⟩,
          ok_move rfl opd0,
          ok_move rfl opd0,
          ok_call (ok_f_exact_shifted N x1 v7 _ hv9) Try.func120 (by kernel_rfl) (by kernel_rfl) rfl ⟨opd0, ⟨opd1, trivial⟩⟩,
          ok_move rfl opd0,
          ok_len un28 rfl opd0,
          ok_slice hv10 ty35 un28 rfl opd0 bndN (bndS opd1),
          (ok_moveOwn (f := Fact.triv) rfl rfl (.inr rfl) (fun _ _ _ => trivial)),
          ok_assign rfl opd0, trivial⟩ (by kernel_rfl) ?_
      clear hAt; intro a w hAt; replace hAt : At B h0 (mkG [(8, fV r_i64 v7), (10, fV (Rep.slice r_u16) v10)]) (mkO [(9, arrE 35 r_u16 v8)]) F 109 a w := hAt; refine then_n ?_; refine wp_seq ?_
      refine reg [⟨fV (Rep.slice r_u16) v10, [], [(10, none)], []⟩,
          ⟨fV r_i64 (List.length v10 : Int), [], [(51, some 0)], []⟩,
          ⟨fV r_i64 (List.length v10 : Int), [], [(52, some 1)], []⟩] [8, 10, 11] [9] hAt
          ⟨ok_move rfl opd0,
          ok_len un28 rfl opd0,
          ok_assign rfl opd0, trivial⟩ (by kernel_rfl) ?_
      clear hAt; intro a w hAt; replace hAt : At B h0 (mkG [(8, fV r_i64 v7), (10, fV (Rep.slice r_u16) v10), (11, fV r_i64 (List.length v10 : Int))]) (mkO [(9, arrE 35 r_u16 v8)]) F 109 a w := hAt; refine then_n ?_; refine wp_seq ?_; obtain ⟨v11, hv11, H⟩ := bindE H
      refine reg [⟨fCp 9, [], [], []⟩,
          ⟨fV r_i64 (List.length v8 : Int), [], [(53, some 0)], [(9, none)]⟩,
          ⟨fV r_i64 (List.length v10 : Int), [], [(11, none)], []⟩,
          ⟨fV r_i64 (IntKind.i64.wrap ((List.length v8 : Int) - (List.length v10 : Int))), [], [(54, some 1), (55, some 2)], []⟩,
          ⟨Fact.triv, [(57, some (arrE 35 r_u16 v11))], [(56, some 3)], []⟩,
          ⟨Fact.triv, [(57, none), (4, some (arrE 35 r_u16 v11))], [], [(57, some 4)]⟩] [8, 10, 11] [4, 9] hAt
          ⟨ok_cp rfl,
          ok_lenArr un28 rfl opd0,
          ok_move rfl opd0,
          ok_sub rfl opd0 opd1,
          ok_makeArr hv11 el35 ty35 un28 rfl rfl opd0 opd0,
          (ok_moveOwn (f := Fact.triv) rfl rfl (.inr rfl) (fun _ _ _ => trivial)), trivial⟩ (by kernel_rfl) ?_
      clear hAt; intro a w hAt; replace hAt : At B h0 (mkG [(8, fV r_i64 v7), (10, fV (Rep.slice r_u16) v10), (11, fV r_i64 (List.length v10 : Int))]) (mkO [(4, arrE 35 r_u16 v11), (9, arrE 35 r_u16 v8)]) F 109 a w := hAt; refine then_n ?_; refine wp_seq ?_; refine wp_seq ?_
      refine reg [⟨fCp 9, [], [], []⟩,
          ⟨fV r_i64 (List.length v8 : Int), [], [(58, some 0)], [(9, none)]⟩,
          ⟨fV r_i64 (List.length v10 : Int), [], [(11, none)], []⟩,
          ⟨fV r_i64 (IntKind.i64.wrap ((List.length v8 : Int) - (List.length v10 : Int))), [], [(59, some 1), (60, some 2)], []⟩,
          ⟨fV r_i64 (IntKind.i64.wrap ((IntKind.i64.wrap ((List.length v8 : Int) - (List.length v10 : Int))) - 1)), [], [(61, some 3)], []⟩,
          ⟨fV r_i64 (IntKind.i64.wrap ((IntKind.i64.wrap ((List.length v8 : Int) - (List.length v10 : Int))) - 1)), [], [(62, some 4)], []⟩] [8, 10, 11, 12] [4, 9] hAt
          ⟨ok_cp rfl,
          ok_lenArr un28 rfl opd0,
          ok_move rfl opd0,
          ok_sub rfl opd0 opd1,
          ok_sub rfl opd0 opdI,
          ok_assign rfl opd0, trivial⟩ (by kernel_rfl) ?_
      clear hAt; intro a w hAt; replace hAt : At B h0 (mkG [(8, fV r_i64 v7), (10, fV (Rep.slice r_u16) v10), (11, fV r_i64 (List.length v10 : Int)), (12, fV r_i64 (IntKind.i64.wrap ((IntKind.i64.wrap ((List.length v8 : Int) - (List.length v10 : Int))) - 1)))]) (mkO [(4, arrE 35 r_u16 v11), (9, arrE 35 r_u16 v8)]) F 109 a w := hAt; refine then_n ?_; refine wp_block ?_; obtain ⟨o17, hl18, H⟩ := bindE H
      refine wp_mono (wp_loopN (f := f_exact_divide_L2 N v10) (fun (s12 : ((List Int) × (List Int) × Int)) a w => At B h0 (mkG [(8, fV r_i64 v7), (10, fV (Rep.slice r_u16) v10), (11, fV r_i64 (List.length v10 : Int)), (12, fV r_i64 s12.2.2)]) (mkO [(4, arrE 35 r_u16 s12.1), (9, arrE 35 r_u16 s12.2.1)]) F 109 a w) (fun o e a w => (fun v => e = .exit 0 ∧ At B h0 (mkG [(8, fV r_i64 v7), (11, fV r_i64 (List.length v10 : Int))]) (mkO [(4, arrE 35 r_u16 v.1), (9, arrE 35 r_u16 v.2)]) F 109 a w) o) ?_ N (v11, v8, (IntKind.i64.wrap ((IntKind.i64.wrap ((List.length v8 : Int) - (List.length v10 : Int))) - 1))) o17 _ _ hl18 ?_) ?_
      · clear H hAt hl18; intro s12 r32 a w H hAt; unfold f_exact_divide_L2 at H; refine wp_seq ?_; refine wp_seq ?_
        refine reg [⟨fV r_i64 s12.2.2, [], [(12, none)], []⟩,
            ⟨fV Rep.bool (cmpI .geq s12.2.2 0), [], [(63, some 0)], []⟩] [8, 10, 11, 12, 64] [4, 9] hAt
            ⟨ok_move rfl opd0,
            ok_cmp (op := .geq) (by simp) rfl rfl opd0 opdI, trivial⟩ (by kernel_rfl) ?_
        clear hAt; intro a w hAt; replace hAt : At B h0 (mkG [(8, fV r_i64 v7), (10, fV (Rep.slice r_u16) v10), (11, fV r_i64 (List.length v10 : Int)), (12, fV r_i64 s12.2.2), (64, fV Rep.bool (cmpI .geq s12.2.2 0))]) (mkO [(4, arrE 35 r_u16 s12.1), (9, arrE 35 r_u16 s12.2.1)]) F 109 a w := hAt; refine then_n ?_; refine wp_if hAt (by rfl) ?_ ?_
        · intro hb16; have H := iteT hb16 H; refine wp_skip ?_; refine then_n ?_; refine wp_seq ?_; refine wp_block ?_; obtain ⟨v13, hv13, H⟩ := bindE H; obtain ⟨v14, hv14, H⟩ := bindE H; obtain ⟨v15, hv15, H⟩ := bindE H
          refine reg [⟨fCp 4, [], [], []⟩,
              ⟨fV r_i64 s12.2.2, [], [(12, none)], []⟩,
              ⟨fCp 9, [], [], []⟩,
              ⟨fV r_i64 s12.2.2, [], [(12, none)], []⟩,
              ⟨fV r_i64 s12.2.2, [], [(12, none)], []⟩,
              ⟨fV r_i64 (List.length v10 : Int), [], [(11, none)], []⟩,
              ⟨fV r_i64 (IntKind.i64.wrap (s12.2.2 + (List.length v10 : Int))), [], [(71, some 4), (72, some 5)], []⟩,
              ⟨fV r_i64 (IntKind.i64.wrap ((IntKind.i64.wrap (s12.2.2 + (List.length v10 : Int))) + 1)), [], [(73, some 6)], []⟩,
              ⟨fSub 9 r_u16.sz (Int.toNat s12.2.2) (Int.toNat (IntKind.i64.wrap ((IntKind.i64.wrap (s12.2.2 + (List.length v10 : Int))) + 1)) - Int.toNat s12.2.2), [], [(69, some 2), (70, some 3), (74, some 7)], [(9, none)]⟩,
              ⟨fV (Rep.slice r_u16) v10, [], [(10, none)], []⟩,
              ⟨fV r_u16 v14.2, [(9, some (arrE 35 r_u16 (List.take (Int.toNat s12.2.2) s12.2.1 ++ v14.1 ++ List.drop ((Int.toNat s12.2.2) + (Int.toNat (IntKind.i64.wrap ((IntKind.i64.wrap (s12.2.2 + (List.length v10 : Int))) + 1)) - Int.toNat s12.2.2)) s12.2.1)))], [(75, some 8), (76, some 9)], [(9, none)]⟩,
              ⟨fEl 4 ((Int.toNat s12.2.2) * r_u16.sz + 0), [], [(67, some 0), (68, some 1)], [(4, none)]⟩,
              ⟨Fact.triv, [(4, some (arrE 35 r_u16 (List.set s12.1 (Int.toNat s12.2.2) v14.2)))], [(78, some 11), (77, some 10)], [(4, none)]⟩] [8, 10, 11, 12] [4, 9] hAt
              ⟨ok_cp rfl,
              ok_move rfl opd0,
              ok_cp rfl,
              ok_move rfl opd0,
              ok_move rfl opd0,
              ok_move rfl opd0,
              ok_add rfl opd0 opd1,
              ok_add rfl opd0 opdI,
              ok_subArr hv13 ty35 un28 rfl opd0 (bndS opd1) (bndS opd2),
              ok_move rfl opd0,
              ok_callM (i := 0) (fun K => okM_f_exact_digit N K (List.take (Int.toNat (IntKind.i64.wrap ((IntKind.i64.wrap (s12.2.2 + (List.length v10 : Int))) + 1)) - Int.toNat s12.2.2) (List.drop (Int.toNat s12.2.2) s12.2.1)) v10 _ hv14) Borrow.arrSub rfl Try.func121 (by kernel_rfl) (by kernel_rfl) rfl rfl rfl opd0 ⟨opdT, ⟨opd1, trivial⟩⟩,
              ok_elArr hv15 ty35 un28 rfl opd0 opd1,
              ok_storeArr (idx_spec hv15).2.2 (Lens.refl _) ty35 rfl rfl opd0 opd1 rfl, trivial⟩ (by kernel_rfl) ?_
          clear hAt; intro a w hAt
          replace hAt : At B h0 (mkG [(8, fV r_i64 v7), (10, fV (Rep.slice r_u16) v10), (11, fV r_i64 (List.length v10 : Int)), (12, fV r_i64 s12.2.2)]) (mkO [(4, arrE 35 r_u16 (List.set s12.1 (Int.toNat s12.2.2) v14.2)), (9, arrE 35 r_u16 (List.take (Int.toNat s12.2.2) s12.2.1 ++ v14.1 ++ List.drop ((Int.toNat s12.2.2) + (Int.toNat (IntKind.i64.wrap ((IntKind.i64.wrap (s12.2.2 + (List.length v10 : Int))) + 1)) - Int.toNat s12.2.2)) s12.2.1))]) F 109 a w := hAt
          refine blk_n ?_; refine then_n ?_
          refine reg [⟨fV r_i64 s12.2.2, [], [(12, none)], []⟩,
              ⟨fV r_i64 (IntKind.i64.wrap (s12.2.2 - 1)), [], [(65, some 0)], []⟩,
              ⟨fV r_i64 (IntKind.i64.wrap (s12.2.2 - 1)), [], [(66, some 1)], []⟩] [8, 10, 11, 12] [4, 9] hAt
              ⟨ok_move rfl opd0,
              ok_sub rfl opd0 opdI,
              ok_assign rfl opd0, trivial⟩ (by kernel_rfl) ?_
          clear hAt; intro a w hAt
          replace hAt : At B h0 (mkG [(8, fV r_i64 v7), (10, fV (Rep.slice r_u16) v10), (11, fV r_i64 (List.length v10 : Int)), (12, fV r_i64 (IntKind.i64.wrap (s12.2.2 - 1)))]) (mkO [(4, arrE 35 r_u16 (List.set s12.1 (Int.toNat s12.2.2) v14.2)), (9, arrE 35 r_u16 (List.take (Int.toNat s12.2.2) s12.2.1 ++ v14.1 ++ List.drop ((Int.toNat s12.2.2) + (Int.toNat (IntKind.i64.wrap ((IntKind.i64.wrap (s12.2.2 + (List.length v10 : Int))) + 1)) - Int.toNat s12.2.2)) s12.2.1))]) F 109 a w := hAt
          cases H
          exact ⟨rfl, hAt.pick [8, 10, 11, 12] [4, 9]⟩
        · intro hb16; have H := iteF hb16 H; refine wp_exit ?_; refine then_x ?_
          cases H
          exact ⟨ex_ne, rfl, hAt.pick [8, 11] [4, 9]⟩
      · exact hAt.pick [8, 10, 11, 12] [4, 9]
      · clear hAt; intro e a w hp; obtain ⟨rfl, hAt⟩ := hp; refine blk_eq ?_; refine then_n ?_; refine wp_seq ?_; obtain ⟨v19, hv19, H⟩ := bindE H
        refine reg [⟨fV r_i64 (List.length v10 : Int), [], [(11, none)], []⟩,
            ⟨Fact.triv, [(80, some (arrE 35 r_u16 v19))], [(79, some 0)], []⟩,
            ⟨Fact.triv, [(80, none), (5, some (arrE 35 r_u16 v19))], [], [(80, some 1)]⟩] [8, 11] [4, 5, 9] hAt
            ⟨ok_move rfl opd0,
            ok_makeArr hv19 el35 ty35 un28 rfl rfl opd0 opd0,
            (ok_moveOwn (f := Fact.triv) rfl rfl (.inr rfl) (fun _ _ _ => trivial)), trivial⟩ (by kernel_rfl) ?_
        clear hAt; intro a w hAt; replace hAt : At B h0 (mkG [(8, fV r_i64 v7), (11, fV r_i64 (List.length v10 : Int))]) (mkO [(4, arrE 35 r_u16 o17.1), (5, arrE 35 r_u16 v19), (9, arrE 35 r_u16 o17.2)]) F 109 a w := hAt; refine then_n ?_; refine wp_seq ?_; refine wp_seq ?_
        refine reg [⟨fV r_i64 (List.length v10 : Int), [], [(11, none)], []⟩,
            ⟨fV r_i64 0, [], [], []⟩] [8, 81, 82] [4, 5, 9] hAt
            ⟨ok_move rfl opd0,
            ok_move rfl opdI, trivial⟩ (by kernel_rfl) ?_
        clear hAt; intro a w hAt; replace hAt : At B h0 (mkG [(8, fV r_i64 v7), (81, fV r_i64 (List.length v10 : Int)), (82, fV r_i64 0)]) (mkO [(4, arrE 35 r_u16 o17.1), (5, arrE 35 r_u16 v19), (9, arrE 35 r_u16 o17.2)]) F 109 a w := hAt; refine then_n ?_; refine wp_block ?_; obtain ⟨o27, hl28, H⟩ := bindE H
        refine wp_mono (wp_loopN (f := f_exact_divide_L1 N v7 v10 o17) (fun (s20 : ((List Int) × Int)) a w => At B h0 (mkG [(8, fV r_i64 v7), (81, fV r_i64 (List.length v10 : Int)), (82, fV r_i64 s20.2)]) (mkO [(4, arrE 35 r_u16 o17.1), (5, arrE 35 r_u16 s20.1), (9, arrE 35 r_u16 o17.2)]) F 109 a w) (fun o e a w => (fun v => e = .exit 2 ∧ At B h0 (mkG []) (mkO [(4, arrE 35 r_u16 o17.1), (5, arrE 35 r_u16 v)]) F 109 a w) o) ?_ N (v19, 0) o27 _ _ hl28 ?_) ?_
        · clear H hAt hl28; intro s20 r31 a w H hAt; unfold f_exact_divide_L1 at H; refine wp_seq ?_
          refine reg [⟨fV Rep.bool (cmpI .lss s20.2 (List.length v10 : Int)), [], [(82, none), (81, none)], []⟩] [8, 81, 82, 83] [4, 5, 9] hAt
              ⟨ok_cmp (op := .lss) (by simp) rfl rfl opd0 opd1, trivial⟩ (by kernel_rfl) ?_
          clear hAt; intro a w hAt; replace hAt : At B h0 (mkG [(8, fV r_i64 v7), (81, fV r_i64 (List.length v10 : Int)), (82, fV r_i64 s20.2), (83, fV Rep.bool (cmpI .lss s20.2 (List.length v10 : Int)))]) (mkO [(4, arrE 35 r_u16 o17.1), (5, arrE 35 r_u16 s20.1), (9, arrE 35 r_u16 o17.2)]) F 109 a w := hAt; refine then_n ?_; refine wp_seq ?_; refine wp_if hAt (by rfl) ?_ ?_
          · intro hb26; have H := iteT hb26 H; refine wp_skip ?_; refine then_n ?_; refine wp_seq ?_; refine wp_block ?_; refine wp_seq ?_
            refine reg [⟨fV r_i64 s20.2, [], [(82, none)], []⟩,
                ⟨fV r_i64 s20.2, [], [(84, some 0)], []⟩] [8, 13, 81, 82] [4, 5, 9] hAt
                ⟨ok_move rfl opd0,
                ok_assign rfl opd0, trivial⟩ (by kernel_rfl) ?_
            clear hAt; intro a w hAt; replace hAt : At B h0 (mkG [(8, fV r_i64 v7), (13, fV r_i64 s20.2), (81, fV r_i64 (List.length v10 : Int)), (82, fV r_i64 s20.2)]) (mkO [(4, arrE 35 r_u16 o17.1), (5, arrE 35 r_u16 s20.1), (9, arrE 35 r_u16 o17.2)]) F 109 a w := hAt; refine then_n ?_; obtain ⟨v21, hv21, H⟩ := bindE H; obtain ⟨v22, hv22, H⟩ := bindE H; obtain ⟨v23, hv23, H⟩ := bindE H
            obtain ⟨v24, hv24, H⟩ := bindE H; obtain ⟨v25, hv25, H⟩ := bindE H
            refine regd [⟨fCp 5, [], [], []⟩,
                ⟨fV r_i64 s20.2, [], [(13, none)], []⟩,
                ⟨fCp 9, [], [], []⟩,
                ⟨fV r_i64 s20.2, [], [(13, none)], []⟩,
                ⟨fEl 9 ((Int.toNat s20.2) * r_u16.sz + 0), [], [(87, some 2), (88, some 3)], [(9, none)]⟩,
                ⟨fV r_u16 v21, [], [(89, some 4)], [(9, none)]⟩,
                ⟨fV r_u32 (IntKind.u32.wrap v21), [], [(90, some 5)], []⟩,
                ⟨fCp 9, [], [], []⟩,
                ⟨fV r_i64 s20.2, [], [(13, none)], []⟩,
                ⟨fV r_i64 (IntKind.i64.wrap (s20.2 + 1)), [], [(93, some 8)], []⟩,
                ⟨fEl 9 ((Int.toNat (IntKind.i64.wrap (s20.2 + 1))) * r_u16.sz + 0), [], [(92, some 7), (94, some 9)], [(9, none)]⟩,
                ⟨fV r_u16 v22, [], [(95, some 10)], [(9, none)]⟩,
                ⟨fV r_u32 (IntKind.u32.wrap v22), [], [(96, some 11)], []⟩,
                ⟨fV r_u32 v23, [], [(97, some 12)], []⟩,
                ⟨fV r_u32 (bitI .or .u32 (IntKind.u32.wrap v21) v23), [], [(91, some 6), (98, some 13)], []⟩,
                ⟨fV r_i64 v7, [], [(8, none)], []⟩,
                ⟨fV r_u32 v24, [], [(99, some 14), (100, some 15)], []⟩,
                ⟨fV r_u16 (IntKind.u16.wrap v24), [], [(101, some 16)], []⟩,
                ⟨fEl 5 ((Int.toNat s20.2) * r_u16.sz + 0), [], [(85, some 0), (86, some 1)], [(5, none)]⟩,
                ⟨Fact.triv, [(5, some (arrE 35 r_u16 (List.set s20.1 (Int.toNat s20.2) (IntKind.u16.wrap v24))))], [(103, some 18), (102, some 17)], [(5, none)]⟩] [0, 1, 2, 3, 4, 5, 6, 7, 8, 9, 10, 11, 12, 13, 14, 15, 16, 17, 18, 19] [0, 1, 2, 3, 4, 5, 6, 7, 8, 9, 10, 11, 12, 13, 14, 15, 16, 17, 18, 19] [8, 81, 82] [4, 5, 9] hAt
                ⟨ok_cp rfl,
                ok_move rfl opd0,
                ok_cp rfl,
                ok_move rfl opd0,
                ok_elArr hv21 ty35 un28 rfl opd0 opd1,
                ok_loadArr (idx_spec hv21).2.2 (Lens.refl _) ty35 rfl opd0,
                ok_conv un35 un154 rfl opd0,
                ok_cp rfl,
                ok_move rfl opd0,
                ok_add rfl opd0 opdI,
                ok_elArr hv22 ty35 un28 rfl opd0 opd1,
                ok_loadArr (idx_spec hv22).2.2 (Lens.refl _) ty35 rfl opd0,
                ok_conv un35 un154 rfl opd0,
                ok_shl hv23 rfl opd0 opdI,
                ok_bit (op := .or) (by simp) rfl opd0 opd1,
                ok_move rfl opd0,
                ok_shr hv24 rfl opd0 opd1,
                ok_conv un154 un35 rfl opd0,
                ok_elArr hv25 ty35 un28 rfl opd0 opd1,
                ok_storeArr (idx_spec hv25).2.2 (Lens.refl _) ty35 rfl rfl opd0 opd1 rfl, trivial⟩ (by kernel_rfl) ?_
            clear hAt; intro a w hAt; replace hAt : At B h0 (mkG [(8, fV r_i64 v7), (81, fV r_i64 (List.length v10 : Int)), (82, fV r_i64 s20.2)]) (mkO [(4, arrE 35 r_u16 o17.1), (5, arrE 35 r_u16 (List.set s20.1 (Int.toNat s20.2) (IntKind.u16.wrap v24))), (9, arrE 35 r_u16 o17.2)]) F 109 a w := hAt; refine blk_n ?_; refine then_n ?_
            refine reg [⟨fV r_i64 (IntKind.i64.wrap (s20.2 + 1)), [], [(82, none)], []⟩,
                ⟨fV r_i64 (IntKind.i64.wrap (s20.2 + 1)), [], [(104, some 0)], []⟩] [8, 81, 82] [4, 5, 9] hAt
                ⟨ok_add rfl opd0 opdI,
                ok_move rfl opd0, trivial⟩ (by kernel_rfl) ?_
            clear hAt; intro a w hAt; replace hAt : At B h0 (mkG [(8, fV r_i64 v7), (81, fV r_i64 (List.length v10 : Int)), (82, fV r_i64 (IntKind.i64.wrap (s20.2 + 1)))]) (mkO [(4, arrE 35 r_u16 o17.1), (5, arrE 35 r_u16 (List.set s20.1 (Int.toNat s20.2) (IntKind.u16.wrap v24))), (9, arrE 35 r_u16 o17.2)]) F 109 a w := hAt
            cases H
            exact ⟨rfl, hAt.pick [8, 81, 82] [4, 5, 9]⟩
          · intro hb26; have H := iteF hb26 H; refine wp_exit ?_; refine then_x ?_
            cases H
            exact ⟨ex_ne, rfl, hAt.pick [] [4, 5]⟩
        · exact hAt.pick [8, 81, 82] [4, 5, 9]
        · clear hAt; intro e a w hp; obtain ⟨rfl, hAt⟩ := hp; refine blk_eq ?_; refine then_n ?_; refine wp_seq ?_; have hAt := At.freeze 4 hAt rfl; have hAt := At.freeze 5 hAt rfl; replace hAt := hAt.pick [4, 5] []; replace hAt : At B h0 (mkG [(4, fV (Rep.slice r_u16) o17.1), (5, fV (Rep.slice r_u16) o27)]) (mkO []) F 109 a w := hAt; obtain ⟨v29, hv29, H⟩ := bindE H; obtain ⟨v30, hv30, H⟩ := bindE H
          refine reg [⟨fV (Rep.slice r_u16) o17.1, [], [(4, none)], []⟩,
              ⟨fV (Rep.slice r_u16) v29, [], [(105, some 0)], []⟩,
              ⟨fV (Rep.slice r_u16) o27, [], [(5, none)], []⟩,
              ⟨fV (Rep.slice r_u16) v30, [], [(107, some 2)], []⟩,
              ⟨fV (Rep.slice r_u16) v29, [], [(106, some 1)], []⟩,
              ⟨fV (Rep.slice r_u16) v30, [], [(108, some 3)], []⟩] [4, 5] [] hAt
              ⟨ok_move rfl opd0,
              ok_call (ok_f_exact_trim N o17.1 _ hv29) Try.func71 (by kernel_rfl) (by kernel_rfl) rfl ⟨opd0, trivial⟩,
              ok_move rfl opd0,
              ok_call (ok_f_exact_trim N o27 _ hv30) Try.func71 (by kernel_rfl) (by kernel_rfl) rfl ⟨opd0, trivial⟩,
              ok_assign rfl opd0,
              ok_assign rfl opd0, trivial⟩ (by kernel_rfl) ?_
          clear hAt; intro a w hAt; replace hAt : At B h0 (mkG [(4, fV (Rep.slice r_u16) v29), (5, fV (Rep.slice r_u16) v30)]) (mkO []) F 109 a w := hAt; refine then_n ?_; refine wp_ret ?_
          cases H
          exact ret2 rfl (rv_tmp rfl rfl) (rv_tmp rfl rfl) hAt
theorem ok_f_exact_common (N : Nat) (x0 : (List Int)) (x1 : (List Int)) (r : (List Int)) (H : f_exact_common N x0 x1 = some r) : FnOk Try.prog 96 [fV (Rep.slice r_u16) x0, fV (Rep.slice r_u16) x1] (fV (Rep.slice r_u16) r) := by
  unfold f_exact_common at H; refine fn_enter Try.func96 rfl rfl (by kernel_rfl) ?_; intro κ B h0 F a w hAt; refine wp_seq ?_
  refine reg [⟨fV (Rep.slice r_u16) [], [(4, some (tipE 35 r_u16.sz))], [], []⟩] [0, 1] [] hAt
      ⟨ok_nilTip rfl (.inl rfl), trivial⟩ (by kernel_rfl) ?_
  clear hAt; intro a w hAt; replace hAt : At B h0 (mkG [(0, fV (Rep.slice r_u16) x0), (1, fV (Rep.slice r_u16) x1)]) (mkO []) F 45 a w := hAt; refine then_n ?_; refine wp_seq ?_; refine wp_block ?_; obtain ⟨o14, hl15, H⟩ := bindE H
  refine wp_mono (wp_loopN (f := f_exact_common_L2 N) (fun (s1 : ((List Int) × (List Int))) a w => At B h0 (mkG [(0, fV (Rep.slice r_u16) s1.1), (1, fV (Rep.slice r_u16) s1.2)]) (mkO []) F 45 a w) (fun o e a w => (Sum.elim (fun v => e = .exit 0 ∧ At B h0 (mkG [(0, fV (Rep.slice r_u16) v)]) (mkO []) F 45 a w) (fun v => e = .ret ∧ At B h0 (mkG [(4, fV (Rep.slice r_u16) v)]) (mkO []) F 45 a w)) o) ?_ N (x0, x1) o14 _ _ hl15 ?_) ?_
  · clear H hAt hl15; intro s1 r18 a w H hAt; unfold f_exact_common_L2 at H; refine wp_seq ?_; refine wp_seq ?_
    refine reg [⟨fV (Rep.slice r_u16) s1.2, [], [(1, none)], []⟩,
        ⟨fV r_i64 (List.length s1.2 : Int), [], [(11, some 0)], []⟩,
        ⟨fV Rep.bool (cmpI .gtr (List.length s1.2 : Int) 0), [], [(12, some 1)], []⟩] [0, 1, 13] [] hAt
        ⟨ok_move rfl opd0,
        ok_len un28 rfl opd0,
        ok_cmp (op := .gtr) (by simp) rfl rfl opd0 opdI, trivial⟩ (by kernel_rfl) ?_
    clear hAt; intro a w hAt; replace hAt : At B h0 (mkG [(0, fV (Rep.slice r_u16) s1.1), (1, fV (Rep.slice r_u16) s1.2), (13, fV Rep.bool (cmpI .gtr (List.length s1.2 : Int) 0))]) (mkO []) F 45 a w := hAt; refine then_n ?_; refine wp_if hAt (by rfl) ?_ ?_
    · intro hb13; have H := iteT hb13 H; refine wp_skip ?_; refine then_n ?_; refine wp_block ?_; refine wp_seq ?_; obtain ⟨v2, hv2, H⟩ := bindE H
      refine reg [⟨fV (Rep.slice r_u16) s1.1, [], [(0, none)], []⟩,
          ⟨fT2 (fV r_u64 v2.1) (fV Rep.bool v2.2), [], [(15, some 0)], []⟩,
          ⟨fT2 (fV r_u64 v2.1) (fV Rep.bool v2.2), [], [(16, some 1)], []⟩,
          ⟨fV r_u64 v2.1, [], [(14, some 2)], []⟩,
          ⟨fV Rep.bool v2.2, [], [(14, some 2)], []⟩,
          ⟨fV r_u64 v2.1, [], [(17, some 3)], []⟩,
          ⟨fV Rep.bool v2.2, [], [(18, some 4)], []⟩] [0, 1, 5, 6] [] hAt
          ⟨ok_move rfl opd0,
          ok_call (ok_f_exact_word N s1.1 _ hv2) Try.func70 (by kernel_rfl) (by kernel_rfl) rfl ⟨opd0, trivial⟩,
          ok_move rfl opd0,
          ok_ext20 rfl rfl opd0,
          ok_ext21 rfl rfl opd0,
          ok_assign rfl opd0,
          ok_assign rfl opd0, trivial⟩ (by kernel_rfl) ?_
      clear hAt; intro a w hAt; replace hAt : At B h0 (mkG [(0, fV (Rep.slice r_u16) s1.1), (1, fV (Rep.slice r_u16) s1.2), (5, fV r_u64 v2.1), (6, fV Rep.bool v2.2)]) (mkO []) F 45 a w := hAt; refine then_n ?_; refine wp_seq ?_; obtain ⟨v3, hv3, H⟩ := bindE H
      refine reg [⟨fV (Rep.slice r_u16) s1.2, [], [(1, none)], []⟩,
          ⟨fT2 (fV r_u64 v3.1) (fV Rep.bool v3.2), [], [(20, some 0)], []⟩,
          ⟨fT2 (fV r_u64 v3.1) (fV Rep.bool v3.2), [], [(21, some 1)], []⟩,
          ⟨fV r_u64 v3.1, [], [(19, some 2)], []⟩,
          ⟨fV Rep.bool v3.2, [], [(19, some 2)], []⟩,
          ⟨fV r_u64 v3.1, [], [(22, some 3)], []⟩,
          ⟨fV Rep.bool v3.2, [], [(23, some 4)], []⟩] [0, 1, 5, 6, 7, 8] [] hAt
          ⟨ok_move rfl opd0,
          ok_call (ok_f_exact_word N s1.2 _ hv3) Try.func70 (by kernel_rfl) (by kernel_rfl) rfl ⟨opd0, trivial⟩,
          ok_move rfl opd0,
          ok_ext20 rfl rfl opd0,
          ok_ext21 rfl rfl opd0,
          ok_assign rfl opd0,
          ok_assign rfl opd0, trivial⟩ (by kernel_rfl) ?_
      clear hAt; intro a w hAt; replace hAt : At B h0 (mkG [(0, fV (Rep.slice r_u16) s1.1), (1, fV (Rep.slice r_u16) s1.2), (5, fV r_u64 v2.1), (6, fV Rep.bool v2.2), (7, fV r_u64 v3.1), (8, fV Rep.bool v3.2)]) (mkO []) F 45 a w := hAt; refine then_n ?_; refine wp_seq ?_; refine wp_seq ?_
      refine reg [⟨fV Rep.bool v2.2, [], [(6, none)], []⟩,
          ⟨fV Rep.bool v2.2, [], [(24, some 0)], []⟩,
          ⟨Fact.when (v2.2 = true) (fV Rep.bool v3.2), [], [(25, some 1), (8, none)], []⟩,
          ⟨fV Rep.bool (v2.2 && v3.2), [], [(25, some 1), (26, some 2)], []⟩] [0, 1, 5, 7, 27] [] hAt
          ⟨ok_move rfl opd0,
          ok_move rfl opd0,
          obl_tt rfl rfl rfl rfl rfl rfl rfl (fun hg => ok_move rfl opd1),
          ok_and rfl opd0 (fun e => (opd1.on e)), trivial⟩ (by kernel_rfl) ?_
      clear hAt; intro a w hAt; replace hAt : At B h0 (mkG [(0, fV (Rep.slice r_u16) s1.1), (1, fV (Rep.slice r_u16) s1.2), (5, fV r_u64 v2.1), (7, fV r_u64 v3.1), (27, fV Rep.bool (v2.2 && v3.2))]) (mkO []) F 45 a w := hAt; refine then_n ?_; refine wp_if hAt (by rfl) ?_ ?_
      · intro hb12; have H := iteT hb12 H; refine wp_seq ?_; refine wp_block ?_; obtain ⟨o7, hl8, H⟩ := bindE H; refine wp_mono (wp_loopN (f := f_exact_common_L1 N) (fun (s4 : (Int × Int)) a w => At B h0 (mkG [(5, fV r_u64 s4.1), (7, fV r_u64 s4.2)]) (mkO []) F 45 a w) (fun o e a w => (fun v => e = .exit 2 ∧ At B h0 (mkG [(5, fV r_u64 v)]) (mkO []) F 45 a w) o) ?_ N (v2.1, v3.1) o7 _ _ hl8 ?_) ?_
        · clear H hAt hl8; intro s4 r10 a w H hAt; unfold f_exact_common_L1 at H; refine wp_seq ?_; refine wp_seq ?_
          refine reg [⟨fV r_u64 s4.2, [], [(7, none)], []⟩,
              ⟨fV Rep.bool (cmpI .gtr s4.2 0), [], [(28, some 0)], []⟩] [5, 7, 29] [] hAt
              ⟨ok_move rfl opd0,
              ok_cmp (op := .gtr) (by simp) rfl rfl opd0 opdI, trivial⟩ (by kernel_rfl) ?_
          clear hAt; intro a w hAt; replace hAt : At B h0 (mkG [(5, fV r_u64 s4.1), (7, fV r_u64 s4.2), (29, fV Rep.bool (cmpI .gtr s4.2 0))]) (mkO []) F 45 a w := hAt; refine then_n ?_; refine wp_if hAt (by rfl) ?_ ?_
          · intro hb6; have H := iteT hb6 H; refine wp_skip ?_; refine then_n ?_; refine wp_block ?_; obtain ⟨v5, hv5, H⟩ := bindE H
            refine regd [⟨fV r_u64 s4.2, [], [(7, none)], []⟩,
                ⟨fV r_u64 s4.1, [], [(5, none)], []⟩,
                ⟨fV r_u64 s4.2, [], [(7, none)], []⟩,
                ⟨fV r_u64 v5, [], [(31, some 1), (32, some 2)], []⟩,
                ⟨fV r_u64 s4.2, [], [(30, some 0)], []⟩,
                ⟨fV r_u64 v5, [], [(33, some 3)], []⟩] [0, 1, 2, 3, 4, 5] [0, 1, 2, 3, 4, 5] [5, 7] [] hAt
                ⟨ok_move rfl opd0,
                ok_move rfl opd0,
                ok_move rfl opd0,
                ok_rem hv5 rfl opd0 opd1,
                ok_assign rfl opd0,
                ok_assign rfl opd0, trivial⟩ (by kernel_rfl) ?_
            clear hAt; intro a w hAt; replace hAt : At B h0 (mkG [(5, fV r_u64 s4.2), (7, fV r_u64 v5)]) (mkO []) F 45 a w := hAt; refine blk_n ?_
            cases H
            exact ⟨rfl, hAt.pick [5, 7] []⟩
          · intro hb6; have H := iteF hb6 H; refine wp_exit ?_; refine then_x ?_
            cases H
            exact ⟨ex_ne, rfl, hAt.pick [5] []⟩
        · exact hAt.pick [5, 7] []
        · clear hAt; intro e a w hp; obtain ⟨rfl, hAt⟩ := hp; refine blk_eq ?_; refine then_n ?_; refine wp_seq ?_; obtain ⟨v9, hv9, H⟩ := bindE H
          refine reg [⟨fV r_u64 o7, [], [(5, none)], []⟩,
              ⟨fV (Rep.slice r_u16) v9, [], [(34, some 0)], []⟩,
              ⟨fV (Rep.slice r_u16) v9, [], [(35, some 1)], []⟩] [4] [] hAt
              ⟨ok_move rfl opd0,
              ok_call (ok_f_exact_natural N o7 _ hv9) Try.func108 (by kernel_rfl) (by kernel_rfl) rfl ⟨opd0, trivial⟩,
              ok_assign rfl opd0, trivial⟩ (by kernel_rfl) ?_
          clear hAt; intro a w hAt; replace hAt : At B h0 (mkG [(4, fV (Rep.slice r_u16) v9)]) (mkO []) F 45 a w := hAt; refine then_n ?_; refine wp_ret ?_; refine then_r ?_; refine blk_r ?_
          cases H
          exact ⟨ret_ne, rfl, hAt.pick [4] []⟩
      · intro hb12; have H := iteF hb12 H; refine wp_skip ?_; refine then_n ?_; refine wp_seq ?_; obtain ⟨v11, hv11, H⟩ := bindE H
        refine reg [⟨fV (Rep.slice r_u16) s1.1, [], [(0, none)], []⟩,
            ⟨fV (Rep.slice r_u16) s1.2, [], [(1, none)], []⟩,
            ⟨fT2 (fV (Rep.slice r_u16) v11.1) (fV (Rep.slice r_u16) v11.2), [], [(37, some 0), (38, some 1)], []⟩,
            ⟨fT2 (fV (Rep.slice r_u16) v11.1) (fV (Rep.slice r_u16) v11.2), [], [(39, some 2)], []⟩,
            ⟨fV (Rep.slice r_u16) v11.1, [], [(36, some 3)], []⟩,
            ⟨fV (Rep.slice r_u16) v11.2, [], [(36, some 3)], []⟩,
            ⟨fV (Rep.slice r_u16) v11.1, [], [(40, some 4)], []⟩,
            ⟨fV (Rep.slice r_u16) v11.2, [], [(41, some 5)], []⟩] [1, 10] [] hAt
            ⟨ok_move rfl opd0,
            ok_move rfl opd0,
            ok_call (ok_f_exact_divide N s1.1 s1.2 _ hv11) Try.func97 (by kernel_rfl) (by kernel_rfl) rfl ⟨opd0, ⟨opd1, trivial⟩⟩,
            ok_move rfl opd0,
            ok_ext20 rfl rfl opd0,
            ok_ext21 rfl rfl opd0,
            ok_assign rfl opd0,
            ok_assign rfl opd0, trivial⟩ (by kernel_rfl) ?_
        clear hAt; intro a w hAt; replace hAt : At B h0 (mkG [(1, fV (Rep.slice r_u16) s1.2), (10, fV (Rep.slice r_u16) v11.2)]) (mkO []) F 45 a w := hAt; refine then_n ?_
        refine reg [⟨fV (Rep.slice r_u16) s1.2, [], [(1, none)], []⟩,
            ⟨fV (Rep.slice r_u16) v11.2, [], [(10, none)], []⟩,
            ⟨fV (Rep.slice r_u16) s1.2, [], [(42, some 0)], []⟩,
            ⟨fV (Rep.slice r_u16) v11.2, [], [(43, some 1)], []⟩] [0, 1] [] hAt
            ⟨ok_move rfl opd0,
            ok_move rfl opd0,
            ok_assign rfl opd0,
            ok_assign rfl opd0, trivial⟩ (by kernel_rfl) ?_
        clear hAt; intro a w hAt; replace hAt : At B h0 (mkG [(0, fV (Rep.slice r_u16) s1.2), (1, fV (Rep.slice r_u16) v11.2)]) (mkO []) F 45 a w := hAt; refine blk_n ?_
        cases H
        exact ⟨rfl, hAt.pick [0, 1] []⟩
    · intro hb13; have H := iteF hb13 H; refine wp_exit ?_; refine then_x ?_
      cases H
      exact ⟨ex_ne, rfl, hAt.pick [0] []⟩
  · exact hAt.pick [0, 1] []
  · clear hAt; intro e a w hp
    cases o14 with
    | inl l16 =>
      rw [Sum.elim_inl] at H; obtain ⟨rfl, hAt⟩ := hp; refine blk_eq ?_; refine then_n ?_; refine wp_seq ?_
      refine reg [⟨fV (Rep.slice r_u16) l16, [], [(0, none)], []⟩,
          ⟨fV (Rep.slice r_u16) l16, [], [(44, some 0)], []⟩] [4] [] hAt
          ⟨ok_move rfl opd0,
          ok_assign rfl opd0, trivial⟩ (by kernel_rfl) ?_
      clear hAt; intro a w hAt; replace hAt : At B h0 (mkG [(4, fV (Rep.slice r_u16) l16)]) (mkO []) F 45 a w := hAt; refine then_n ?_; refine wp_ret ?_
      cases H
      exact ret1 rfl (rv_tmp rfl rfl) hAt
    | inr r17 =>
      rw [Sum.elim_inr] at H; replace hp := hp; obtain ⟨rfl, hAt⟩ := hp; refine blk_r ?_; refine then_r ?_
      cases H
      exact ret1 rfl (rv_tmp rfl rfl) hAt
theorem ok_f_exact_fraction (N : Nat) (x0 : GInt) (x1 : GInt) (r : GRat) (H : f_exact_fraction N x0 x1 = some r) : FnOk Try.prog 64 [fV GInt.rep x0, fV GInt.rep x1] (fV GRat.rep r) := by
  unfold f_exact_fraction at H; refine fn_enter Try.func64 rfl rfl (by kernel_rfl) ?_; intro κ B h0 F a w hAt; refine wp_seq ?_
  refine reg [⟨fRef GInt.rep x0, [], [(0, none)], []⟩,
      ⟨fRef GInt.rep x1, [], [(1, none)], []⟩,
      ⟨Fact.triv, [(4, some (boxE 32 GRat.rep (⟨(⟨false, []⟩ : GInt), (⟨false, []⟩ : GInt)⟩ : GRat)))], [], []⟩] [2, 3] [4] hAt
      ⟨ok_box rfl opd0,
      ok_box rfl opd0,
      ok_alloc ty32 rfl rfl, trivial⟩ (by kernel_rfl) ?_
  clear hAt; intro a w hAt; replace hAt : At B h0 (mkG [(2, fRef GInt.rep x0), (3, fRef GInt.rep x1)]) (mkO [(4, boxE 32 GRat.rep (⟨(⟨false, []⟩ : GInt), (⟨false, []⟩ : GInt)⟩ : GRat))]) F 48 a w := hAt; refine then_n ?_; refine wp_seq ?_; obtain ⟨v1, hv1, H⟩ := bindE H; obtain ⟨v2, hv2, H⟩ := bindE H
  refine regd [⟨fRef (Rep.slice r_u16) x0.Limbs, [], [(2, none)], []⟩,
      ⟨fV (Rep.slice r_u16) x0.Limbs, [], [(8, some 0)], []⟩,
      ⟨fV (Rep.slice r_u16) v1, [], [(9, some 1)], []⟩,
      ⟨fRef (Rep.slice r_u16) x1.Limbs, [], [(3, none)], []⟩,
      ⟨fV (Rep.slice r_u16) x1.Limbs, [], [(11, some 3)], []⟩,
      ⟨fV (Rep.slice r_u16) v2, [], [(12, some 4)], []⟩,
      ⟨fV (Rep.slice r_u16) v1, [], [(10, some 2)], []⟩,
      ⟨fV (Rep.slice r_u16) v2, [], [(13, some 5)], []⟩] [0, 1, 2, 3, 4, 5, 6, 7] [0, 1, 2, 3, 4, 5, 6, 7] [2, 3, 5, 6] [4] hAt
      ⟨ok_field GInt.l1 fo30_1 rfl opd0,
      ok_load ty28 rfl opd0,
      ok_call (ok_f_exact_trim N x0.Limbs _ hv1) Try.func71 (by kernel_rfl) (by kernel_rfl) rfl ⟨opd0, trivial⟩,
      ok_field GInt.l1 fo30_1 rfl opd0,
      ok_load ty28 rfl opd0,
      ok_call (ok_f_exact_trim N x1.Limbs _ hv2) Try.func71 (by kernel_rfl) (by kernel_rfl) rfl ⟨opd0, trivial⟩,
      ok_assign rfl opd0,
      ok_assign rfl opd0, trivial⟩ (by kernel_rfl) ?_
  clear hAt; intro a w hAt; replace hAt : At B h0 (mkG [(2, fRef GInt.rep x0), (3, fRef GInt.rep x1), (5, fV (Rep.slice r_u16) v1), (6, fV (Rep.slice r_u16) v2)]) (mkO [(4, boxE 32 GRat.rep (⟨(⟨false, []⟩ : GInt), (⟨false, []⟩ : GInt)⟩ : GRat))]) F 48 a w := hAt; refine then_n ?_; refine wp_seq ?_; obtain ⟨v3, hv3, H⟩ := bindE H
  refine reg [⟨fV (Rep.slice r_u16) v1, [], [(5, none)], []⟩,
      ⟨fV (Rep.slice r_u16) v2, [], [(6, none)], []⟩,
      ⟨fV (Rep.slice r_u16) v3, [], [(14, some 0), (15, some 1)], []⟩,
      ⟨fV (Rep.slice r_u16) v3, [], [(16, some 2)], []⟩] [2, 3, 5, 6, 7] [4] hAt
      ⟨ok_move rfl opd0,
      ok_move rfl opd0,
      ok_call (ok_f_exact_common N v1 v2 _ hv3) Try.func96 (by kernel_rfl) (by kernel_rfl) rfl ⟨opd0, ⟨opd1, trivial⟩⟩,
      ok_assign rfl opd0, trivial⟩ (by kernel_rfl) ?_
  clear hAt; intro a w hAt; replace hAt : At B h0 (mkG [(2, fRef GInt.rep x0), (3, fRef GInt.rep x1), (5, fV (Rep.slice r_u16) v1), (6, fV (Rep.slice r_u16) v2), (7, fV (Rep.slice r_u16) v3)]) (mkO [(4, boxE 32 GRat.rep (⟨(⟨false, []⟩ : GInt), (⟨false, []⟩ : GInt)⟩ : GRat))]) F 48 a w := hAt; refine then_n ?_; refine wp_seq ?_; refine wp_seq ?_; obtain ⟨v4, hv4, H⟩ := bindE H
  refine reg [⟨fV (Rep.slice r_u16) v3, [], [(7, none)], []⟩,
      ⟨fV r_i64 (List.length v3 : Int), [], [(17, some 0)], []⟩,
      ⟨fV Rep.bool (cmpI .neq (List.length v3 : Int) 1), [], [(18, some 1)], []⟩,
      ⟨fV Rep.bool (cmpI .neq (List.length v3 : Int) 1), [], [(19, some 2)], []⟩,
      ⟨Fact.when ((!(cmpI .neq (List.length v3 : Int) 1)) = true) (fV (Rep.slice r_u16) v3), [], [(20, some 3), (7, none)], []⟩,
      ⟨Fact.when ((!(cmpI .neq (List.length v3 : Int) 1)) = true) (fRef r_u16 v4), [], [(20, some 3), (21, some 4)], []⟩,
      ⟨Fact.when ((!(cmpI .neq (List.length v3 : Int) 1)) = true) (fV r_u16 v4), [], [(20, some 3), (22, some 5)], []⟩,
      ⟨Fact.when ((!(cmpI .neq (List.length v3 : Int) 1)) = true) (fV Rep.bool (cmpI .neq v4 1)), [], [(20, some 3), (23, some 6)], []⟩,
      ⟨fV Rep.bool ((cmpI .neq (List.length v3 : Int) 1) || (cmpI .neq v4 1)), [], [(20, some 3), (24, some 7)], []⟩] [2, 3, 5, 6, 7, 25] [4] hAt
      ⟨ok_move rfl opd0,
      ok_len un28 rfl opd0,
      ok_cmp (op := .neq) (by simp) rfl rfl opd0 opdI,
      ok_move rfl opd0,
      obl_tf rfl rfl rfl rfl rfl rfl rfl (fun hg => ok_move rfl opd1),
      obl_tf rfl rfl rfl rfl rfl rfl rfl (fun hg => ok_index ty35 un28 (iteT hg hv4) rfl (opd1.on hg) opdI),
      obl_tf rfl rfl rfl rfl rfl rfl rfl (fun hg => ok_load ty35 rfl (opd1.on hg)),
      obl_tf rfl rfl rfl rfl rfl rfl rfl (fun hg => ok_cmp (op := .neq) (by simp) rfl rfl (opd1.on hg) opdI),
      ok_or rfl opd0 (fun e => (opd1.on (notT e))), trivial⟩ (by kernel_rfl) ?_
  clear hAt; intro a w hAt; replace hAt : At B h0 (mkG [(2, fRef GInt.rep x0), (3, fRef GInt.rep x1), (5, fV (Rep.slice r_u16) v1), (6, fV (Rep.slice r_u16) v2), (7, fV (Rep.slice r_u16) v3), (25, fV Rep.bool ((cmpI .neq (List.length v3 : Int) 1) || (cmpI .neq v4 1)))]) (mkO [(4, boxE 32 GRat.rep (⟨(⟨false, []⟩ : GInt), (⟨false, []⟩ : GInt)⟩ : GRat))]) F 48 a w := hAt; refine then_n ?_
  refine wp_if hAt (by rfl) ?_ ?_
  · intro hb11; have H := iteT hb11 H; refine wp_seq ?_; obtain ⟨v5, hv5, H⟩ := bindE H
    refine reg [⟨fV (Rep.slice r_u16) v1, [], [(5, none)], []⟩,
        ⟨fV (Rep.slice r_u16) v3, [], [(7, none)], []⟩,
        ⟨fT2 (fV (Rep.slice r_u16) v5.1) (fV (Rep.slice r_u16) v5.2), [], [(27, some 0), (28, some 1)], []⟩,
        ⟨fT2 (fV (Rep.slice r_u16) v5.1) (fV (Rep.slice r_u16) v5.2), [], [(29, some 2)], []⟩,
        ⟨fV (Rep.slice r_u16) v5.1, [], [(26, some 3)], []⟩,
        ⟨fV (Rep.slice r_u16) v5.2, [], [(26, some 3)], []⟩,
        ⟨fV (Rep.slice r_u16) v5.1, [], [(30, some 4)], []⟩] [2, 3, 5, 6, 7] [4] hAt
        ⟨ok_move rfl opd0,
        ok_move rfl opd0,
        ok_call (ok_f_exact_divide N v1 v3 _ hv5) Try.func97 (by kernel_rfl) (by kernel_rfl) rfl ⟨opd0, ⟨opd1, trivial⟩⟩,
        ok_move rfl opd0,
        ok_ext20 rfl rfl opd0,
        ok_ext21 rfl rfl opd0,
        ok_assign rfl opd0, trivial⟩ (by kernel_rfl) ?_
    clear hAt; intro a w hAt; replace hAt : At B h0 (mkG [(2, fRef GInt.rep x0), (3, fRef GInt.rep x1), (5, fV (Rep.slice r_u16) v5.1), (6, fV (Rep.slice r_u16) v2), (7, fV (Rep.slice r_u16) v3)]) (mkO [(4, boxE 32 GRat.rep (⟨(⟨false, []⟩ : GInt), (⟨false, []⟩ : GInt)⟩ : GRat))]) F 48 a w := hAt; refine then_n ?_; obtain ⟨v6, hv6, H⟩ := bindE H
    refine reg [⟨fV (Rep.slice r_u16) v2, [], [(6, none)], []⟩,
        ⟨fV (Rep.slice r_u16) v3, [], [(7, none)], []⟩,
        ⟨fT2 (fV (Rep.slice r_u16) v6.1) (fV (Rep.slice r_u16) v6.2), [], [(33, some 0), (34, some 1)], []⟩,
        ⟨fT2 (fV (Rep.slice r_u16) v6.1) (fV (Rep.slice r_u16) v6.2), [], [(35, some 2)], []⟩,
        ⟨fV (Rep.slice r_u16) v6.1, [], [(32, some 3)], []⟩,
        ⟨fV (Rep.slice r_u16) v6.2, [], [(32, some 3)], []⟩,
        ⟨fV (Rep.slice r_u16) v6.1, [], [(36, some 4)], []⟩] [2, 3, 5, 6] [4] hAt
        ⟨ok_move rfl opd0,
        ok_move rfl opd0,
        ok_call (ok_f_exact_divide N v2 v3 _ hv6) Try.func97 (by kernel_rfl) (by kernel_rfl) rfl ⟨opd0, ⟨opd1, trivial⟩⟩,
        ok_move rfl opd0,
        ok_ext20 rfl rfl opd0,
        ok_ext21 rfl rfl opd0,
        ok_assign rfl opd0, trivial⟩ (by kernel_rfl) ?_
    clear hAt; intro a w hAt; replace hAt : At B h0 (mkG [(2, fRef GInt.rep x0), (3, fRef GInt.rep x1), (5, fV (Rep.slice r_u16) v5.1), (6, fV (Rep.slice r_u16) v6.1)]) (mkO [(4, boxE 32 GRat.rep (⟨(⟨false, []⟩ : GInt), (⟨false, []⟩ : GInt)⟩ : GRat))]) F 48 a w := hAt; refine then_n ?_; refine wp_seq ?_; obtain ⟨v7, hv7, H⟩ := bindE H; obtain ⟨v8, hv8, H⟩ := bindE H
    refine reg [⟨fRef Rep.bool x0.Neg, [], [(2, none)], []⟩,
        ⟨fV Rep.bool x0.Neg, [], [(38, some 0)], []⟩,
        ⟨fRef Rep.bool x1.Neg, [], [(3, none)], []⟩,
        ⟨fV Rep.bool x1.Neg, [], [(40, some 2)], []⟩,
        ⟨fV Rep.bool (!(x0.Neg == x1.Neg)), [], [(39, some 1), (41, some 3)], []⟩,
        ⟨fV (Rep.slice r_u16) v5.1, [], [(5, none)], []⟩,
        ⟨fV GInt.rep v7, [], [(42, some 4), (43, some 5)], []⟩,
        ⟨fV (Rep.slice r_u16) v6.1, [], [(6, none)], []⟩,
        ⟨fV GInt.rep v8, [], [(45, some 7)], []⟩,
        ⟨fV GRat.rep (⟨v7, v8⟩ : GRat), [], [(44, some 6), (46, some 8)], []⟩,
        ⟨Fact.triv, [(4, some (boxE 32 GRat.rep (⟨v7, v8⟩ : GRat)))], [(47, some 9)], [(4, none)]⟩] [] [4] hAt
        ⟨ok_field GInt.l0 fo30_0 rfl opd0,
        ok_load ty4 rfl opd0,
        ok_field GInt.l0 fo30_0 rfl opd0,
        ok_load ty4 rfl opd0,
        ok_neB un4 rfl opd0 opd1,
        ok_move rfl opd0,
        ok_call (ok_f_exact_signed N (!(x0.Neg == x1.Neg)) v5.1 _ hv7) Try.func98 (by kernel_rfl) (by kernel_rfl) rfl ⟨opd0, ⟨opd1, trivial⟩⟩,
        ok_move rfl opd0,
        ok_call (ok_f_exact_signed N false v6.1 _ hv8) Try.func98 (by kernel_rfl) (by kernel_rfl) rfl ⟨opdB, ⟨opd0, trivial⟩⟩,
        ok_build ty32 rfl pl32 rfl (fillC GRat.l0 rfl opd0 (fillC GRat.l1 rfl opd1 fillN)),
        ok_storeBox ty32 rfl rfl opd0, trivial⟩ (by kernel_rfl) ?_
    clear hAt; intro a w hAt; replace hAt : At B h0 (mkG []) (mkO [(4, boxE 32 GRat.rep (⟨v7, v8⟩ : GRat))]) F 48 a w := hAt; refine then_n ?_; refine wp_ret ?_
    cases H
    exact ret1 rfl (rv_cell ty32 rfl) hAt
  · intro hb11; have H := iteF hb11 H; refine wp_skip ?_; refine then_n ?_; refine wp_seq ?_; obtain ⟨v9, hv9, H⟩ := bindE H; obtain ⟨v10, hv10, H⟩ := bindE H
    refine reg [⟨fRef Rep.bool x0.Neg, [], [(2, none)], []⟩,
        ⟨fV Rep.bool x0.Neg, [], [(38, some 0)], []⟩,
        ⟨fRef Rep.bool x1.Neg, [], [(3, none)], []⟩,
        ⟨fV Rep.bool x1.Neg, [], [(40, some 2)], []⟩,
        ⟨fV Rep.bool (!(x0.Neg == x1.Neg)), [], [(39, some 1), (41, some 3)], []⟩,
        ⟨fV (Rep.slice r_u16) v1, [], [(5, none)], []⟩,
        ⟨fV GInt.rep v9, [], [(42, some 4), (43, some 5)], []⟩,
        ⟨fV (Rep.slice r_u16) v2, [], [(6, none)], []⟩,
        ⟨fV GInt.rep v10, [], [(45, some 7)], []⟩,
        ⟨fV GRat.rep (⟨v9, v10⟩ : GRat), [], [(44, some 6), (46, some 8)], []⟩,
        ⟨Fact.triv, [(4, some (boxE 32 GRat.rep (⟨v9, v10⟩ : GRat)))], [(47, some 9)], [(4, none)]⟩] [] [4] hAt
        ⟨ok_field GInt.l0 fo30_0 rfl opd0,
        ok_load ty4 rfl opd0,
        ok_field GInt.l0 fo30_0 rfl opd0,
        ok_load ty4 rfl opd0,
        ok_neB un4 rfl opd0 opd1,
        ok_move rfl opd0,
        ok_call (ok_f_exact_signed N (!(x0.Neg == x1.Neg)) v1 _ hv9) Try.func98 (by kernel_rfl) (by kernel_rfl) rfl ⟨opd0, ⟨opd1, trivial⟩⟩,
        ok_move rfl opd0,
        ok_call (ok_f_exact_signed N false v2 _ hv10) Try.func98 (by kernel_rfl) (by kernel_rfl) rfl ⟨opdB, ⟨opd0, trivial⟩⟩,
        ok_build ty32 rfl pl32 rfl (fillC GRat.l0 rfl opd0 (fillC GRat.l1 rfl opd1 fillN)),
        ok_storeBox ty32 rfl rfl opd0, trivial⟩ (by kernel_rfl) ?_
    clear hAt; intro a w hAt; replace hAt : At B h0 (mkG []) (mkO [(4, boxE 32 GRat.rep (⟨v9, v10⟩ : GRat))]) F 48 a w := hAt; refine then_n ?_; refine wp_ret ?_
    cases H
    exact ret1 rfl (rv_cell ty32 rfl) hAt
theorem ok_f_exact_Whole (N : Nat) (x0 : GInt) (r : GRat) (H : f_exact_Whole N x0 = some r) : FnOk Try.prog 82 [fV GInt.rep x0] (fV GRat.rep r) := by
  unfold f_exact_Whole at H; refine fn_enter Try.func82 rfl rfl (by kernel_rfl) ?_; intro κ B h0 F a w hAt; refine wp_seq ?_
  refine reg [⟨fRef GInt.rep x0, [], [(0, none)], []⟩,
      ⟨Fact.triv, [(2, some (boxE 32 GRat.rep (⟨(⟨false, []⟩ : GInt), (⟨false, []⟩ : GInt)⟩ : GRat)))], [], []⟩] [1] [2] hAt
      ⟨ok_box rfl opd0,
      ok_alloc ty32 rfl rfl, trivial⟩ (by kernel_rfl) ?_
  clear hAt; intro a w hAt; replace hAt : At B h0 (mkG [(1, fRef GInt.rep x0)]) (mkO [(2, boxE 32 GRat.rep (⟨(⟨false, []⟩ : GInt), (⟨false, []⟩ : GInt)⟩ : GRat))]) F 7 a w := hAt; refine then_n ?_; refine wp_seq ?_; obtain ⟨v1, hv1, H⟩ := bindE H
  refine reg [⟨fV GInt.rep x0, [], [(1, none)], []⟩,
      ⟨fV (Rep.slice r_u16) [1], [], [], []⟩,
      ⟨fV GInt.rep (⟨false, [1]⟩ : GInt), [], [(4, some 1)], []⟩,
      ⟨fV GRat.rep v1, [], [(3, some 0), (5, some 2)], []⟩,
      ⟨Fact.triv, [(2, some (boxE 32 GRat.rep v1))], [(6, some 3)], [(2, none)]⟩] [] [2] hAt
      ⟨ok_load ty30 rfl opd0,
      ok_buildSlice ty35 un28 rfl rfl (fillC (Lens.arr _ _ 0 (by decide)) rfl opdI fillN),
      ok_build ty30 rfl pl30 rfl (fillC GInt.l1 rfl opd0 fillN),
      ok_call (ok_f_exact_fraction N x0 (⟨false, [1]⟩ : GInt) _ hv1) Try.func64 (by kernel_rfl) (by kernel_rfl) rfl ⟨opd0, ⟨opd1, trivial⟩⟩,
      ok_storeBox ty32 rfl rfl opd0, trivial⟩ (by kernel_rfl) ?_
  clear hAt; intro a w hAt; replace hAt : At B h0 (mkG []) (mkO [(2, boxE 32 GRat.rep v1)]) F 7 a w := hAt; refine then_n ?_; refine wp_ret ?_
  cases H
  exact ret1 rfl (rv_cell ty32 rfl) hAt
theorem ok_f_hull_whole (N : Nat) (x0 : Int) (r : GRat) (H : f_hull_whole N x0 = some r) : FnOk Try.prog 42 [fV r_i64 x0] (fV GRat.rep r) := by
  unfold f_hull_whole at H; refine fn_enter Try.func42 rfl rfl (by kernel_rfl) ?_; intro κ B h0 F a w hAt; refine wp_seq ?_
  refine reg [⟨Fact.triv, [(2, some (boxE 32 GRat.rep (⟨(⟨false, []⟩ : GInt), (⟨false, []⟩ : GInt)⟩ : GRat)))], [], []⟩] [0] [2] hAt
      ⟨ok_alloc ty32 rfl rfl, trivial⟩ (by kernel_rfl) ?_
  clear hAt; intro a w hAt; replace hAt : At B h0 (mkG [(0, fV r_i64 x0)]) (mkO [(2, boxE 32 GRat.rep (⟨(⟨false, []⟩ : GInt), (⟨false, []⟩ : GInt)⟩ : GRat))]) F 6 a w := hAt; refine then_n ?_; refine wp_seq ?_; obtain ⟨v1, hv1, H⟩ := bindE H; obtain ⟨v2, hv2, H⟩ := bindE H
  refine reg [⟨fV r_i64 x0, [], [(0, none)], []⟩,
      ⟨fV GInt.rep v1, [], [(3, some 0)], []⟩,
      ⟨fV GRat.rep v2, [], [(4, some 1)], []⟩,
      ⟨Fact.triv, [(2, some (boxE 32 GRat.rep v2))], [(5, some 2)], [(2, none)]⟩] [] [2] hAt
      ⟨ok_move rfl opd0,
      ok_call (ok_f_exact_Of N x0 _ hv1) Try.func83 (by kernel_rfl) (by kernel_rfl) rfl ⟨opd0, trivial⟩,
      ok_call (ok_f_exact_Whole N v1 _ hv2) Try.func82 (by kernel_rfl) (by kernel_rfl) rfl ⟨opd0, trivial⟩,
      ok_storeBox ty32 rfl rfl opd0, trivial⟩ (by kernel_rfl) ?_
  clear hAt; intro a w hAt; replace hAt : At B h0 (mkG []) (mkO [(2, boxE 32 GRat.rep v2)]) F 6 a w := hAt; refine then_n ?_; refine wp_ret ?_
  cases H
  exact ret1 rfl (rv_cell ty32 rfl) hAt
theorem ok_f_exact_times (N : Nat) (x0 : (List Int)) (x1 : (List Int)) (r : (List Int)) (H : f_exact_times N x0 x1 = some r) : FnOk Try.prog 102 [fV (Rep.slice r_u16) x0, fV (Rep.slice r_u16) x1] (fV (Rep.slice r_u16) r) := by
  unfold f_exact_times at H; refine fn_enter Try.func102 rfl rfl (by kernel_rfl) ?_; intro κ B h0 F a w hAt; refine wp_seq ?_
  refine reg [⟨fV (Rep.slice r_u16) [], [(4, some (tipE 35 r_u16.sz))], [], []⟩] [0, 1] [] hAt
      ⟨ok_nilTip rfl (.inl rfl), trivial⟩ (by kernel_rfl) ?_
  clear hAt; intro a w hAt; replace hAt : At B h0 (mkG [(0, fV (Rep.slice r_u16) x0), (1, fV (Rep.slice r_u16) x1)]) (mkO []) F 67 a w := hAt; refine then_n ?_; refine wp_seq ?_; obtain ⟨v1, hv1, H⟩ := bindE H
  refine reg [⟨fV (Rep.slice r_u16) x0, [], [(0, none)], []⟩,
      ⟨fV r_i64 (List.length x0 : Int), [], [(11, some 0)], []⟩,
      ⟨fV (Rep.slice r_u16) x1, [], [(1, none)], []⟩,
      ⟨fV r_i64 (List.length x1 : Int), [], [(13, some 2)], []⟩,
      ⟨fV r_i64 (IntKind.i64.wrap ((List.length x0 : Int) + (List.length x1 : Int))), [], [(12, some 1), (14, some 3)], []⟩,
      ⟨Fact.triv, [(16, some (arrE 35 r_u16 v1))], [(15, some 4)], []⟩,
      ⟨Fact.triv, [(16, none), (5, some (arrE 35 r_u16 v1))], [], [(16, some 5)]⟩] [0, 1] [5] hAt
      ⟨ok_move rfl opd0,
      ok_len un28 rfl opd0,
      ok_move rfl opd0,
      ok_len un28 rfl opd0,
      ok_add rfl opd0 opd1,
      ok_makeArr hv1 el35 ty35 un28 rfl rfl opd0 opd0,
      (ok_moveOwn (f := Fact.triv) rfl rfl (.inr rfl) (fun _ _ _ => trivial)), trivial⟩ (by kernel_rfl) ?_
  clear hAt; intro a w hAt; replace hAt : At B h0 (mkG [(0, fV (Rep.slice r_u16) x0), (1, fV (Rep.slice r_u16) x1)]) (mkO [(5, arrE 35 r_u16 v1)]) F 67 a w := hAt; refine then_n ?_; refine wp_seq ?_; refine wp_seq ?_
  refine reg [⟨fV (Rep.slice r_u16) x0, [], [(0, none)], []⟩,
      ⟨fV r_i64 (List.length x0 : Int), [], [(17, some 0)], []⟩,
      ⟨fV r_i64 0, [], [], []⟩] [1, 17, 18, 19] [5] hAt
      ⟨ok_move rfl opd0,
      ok_len un28 rfl opd0,
      ok_move rfl opdI, trivial⟩ (by kernel_rfl) ?_
  clear hAt; intro a w hAt; replace hAt : At B h0 (mkG [(1, fV (Rep.slice r_u16) x1), (17, fV (Rep.slice r_u16) x0), (18, fV r_i64 (List.length x0 : Int)), (19, fV r_i64 0)]) (mkO [(5, arrE 35 r_u16 v1)]) F 67 a w := hAt; refine then_n ?_; refine wp_block ?_; obtain ⟨o15, hl16, H⟩ := bindE H
  refine wp_mono (wp_loopN (f := f_exact_times_L2 N x0 x1) (fun (s2 : ((List Int) × Int)) a w => At B h0 (mkG [(1, fV (Rep.slice r_u16) x1), (17, fV (Rep.slice r_u16) x0), (18, fV r_i64 (List.length x0 : Int)), (19, fV r_i64 s2.2)]) (mkO [(5, arrE 35 r_u16 s2.1)]) F 67 a w) (fun o e a w => (fun v => e = .exit 0 ∧ At B h0 (mkG []) (mkO [(5, arrE 35 r_u16 v)]) F 67 a w) o) ?_ N (v1, 0) o15 _ _ hl16 ?_) ?_
  · clear H hAt hl16; intro s2 r18 a w H hAt; unfold f_exact_times_L2 at H; refine wp_seq ?_
    refine reg [⟨fV Rep.bool (cmpI .lss s2.2 (List.length x0 : Int)), [], [(19, none), (18, none)], []⟩] [1, 17, 18, 19, 20] [5] hAt
        ⟨ok_cmp (op := .lss) (by simp) rfl rfl opd0 opd1, trivial⟩ (by kernel_rfl) ?_
    clear hAt; intro a w hAt; replace hAt : At B h0 (mkG [(1, fV (Rep.slice r_u16) x1), (17, fV (Rep.slice r_u16) x0), (18, fV r_i64 (List.length x0 : Int)), (19, fV r_i64 s2.2), (20, fV Rep.bool (cmpI .lss s2.2 (List.length x0 : Int)))]) (mkO [(5, arrE 35 r_u16 s2.1)]) F 67 a w := hAt; refine then_n ?_; refine wp_seq ?_; refine wp_if hAt (by rfl) ?_ ?_
    · intro hb14; have H := iteT hb14 H; refine wp_skip ?_; refine then_n ?_; refine wp_seq ?_; refine wp_block ?_; refine wp_seq ?_; obtain ⟨v3, hv3, H⟩ := bindE H
      refine reg [⟨fV r_i64 s2.2, [], [(19, none)], []⟩,
          ⟨fRef r_u16 v3, [], [(17, none), (19, none)], []⟩,
          ⟨fV r_u16 v3, [], [(22, some 1)], []⟩,
          ⟨fV r_i64 s2.2, [], [(21, some 0)], []⟩,
          ⟨fV r_u16 v3, [], [(23, some 2)], []⟩] [1, 6, 7, 17, 18, 19] [5] hAt
          ⟨ok_move rfl opd0,
          ok_index ty35 un28 hv3 rfl opd0 opd1,
          ok_load ty35 rfl opd0,
          ok_assign rfl opd0,
          ok_assign rfl opd0, trivial⟩ (by kernel_rfl) ?_
      clear hAt; intro a w hAt; replace hAt : At B h0 (mkG [(1, fV (Rep.slice r_u16) x1), (6, fV r_i64 s2.2), (7, fV r_u16 v3), (17, fV (Rep.slice r_u16) x0), (18, fV r_i64 (List.length x0 : Int)), (19, fV r_i64 s2.2)]) (mkO [(5, arrE 35 r_u16 s2.1)]) F 67 a w := hAt; refine then_n ?_; refine wp_seq ?_
      refine reg [⟨fV r_u32 0, [], [], []⟩] [1, 6, 7, 8, 17, 18, 19] [5] hAt
          ⟨ok_assign rfl opdI, trivial⟩ (by kernel_rfl) ?_
      clear hAt; intro a w hAt; replace hAt : At B h0 (mkG [(1, fV (Rep.slice r_u16) x1), (6, fV r_i64 s2.2), (7, fV r_u16 v3), (8, fV r_u32 0), (17, fV (Rep.slice r_u16) x0), (18, fV r_i64 (List.length x0 : Int)), (19, fV r_i64 s2.2)]) (mkO [(5, arrE 35 r_u16 s2.1)]) F 67 a w := hAt; refine then_n ?_; refine wp_seq ?_; refine wp_seq ?_
      refine reg [⟨fV (Rep.slice r_u16) x1, [], [(1, none)], []⟩,
          ⟨fV r_i64 (List.length x1 : Int), [], [(24, some 0)], []⟩,
          ⟨fV r_i64 0, [], [], []⟩] [1, 6, 7, 8, 17, 18, 19, 24, 25, 26] [5] hAt
          ⟨ok_move rfl opd0,
          ok_len un28 rfl opd0,
          ok_move rfl opdI, trivial⟩ (by kernel_rfl) ?_
      clear hAt; intro a w hAt; replace hAt : At B h0 (mkG [(1, fV (Rep.slice r_u16) x1), (6, fV r_i64 s2.2), (7, fV r_u16 v3), (8, fV r_u32 0), (17, fV (Rep.slice r_u16) x0), (18, fV r_i64 (List.length x0 : Int)), (19, fV r_i64 s2.2), (24, fV (Rep.slice r_u16) x1), (25, fV r_i64 (List.length x1 : Int)), (26, fV r_i64 0)]) (mkO [(5, arrE 35 r_u16 s2.1)]) F 67 a w := hAt; refine then_n ?_
      refine wp_block ?_; obtain ⟨o10, hl11, H⟩ := bindE H
      refine wp_mono (wp_loopN (f := f_exact_times_L1 N x1 s2 v3) (fun (s4 : ((List Int) × Int × Int)) a w => At B h0 (mkG [(1, fV (Rep.slice r_u16) x1), (6, fV r_i64 s2.2), (7, fV r_u16 v3), (8, fV r_u32 s4.2.1), (17, fV (Rep.slice r_u16) x0), (18, fV r_i64 (List.length x0 : Int)), (19, fV r_i64 s2.2), (24, fV (Rep.slice r_u16) x1), (25, fV r_i64 (List.length x1 : Int)), (26, fV r_i64 s4.2.2)]) (mkO [(5, arrE 35 r_u16 s4.1)]) F 67 a w) (fun o e a w => (fun v => e = .exit 2 ∧ At B h0 (mkG [(1, fV (Rep.slice r_u16) x1), (6, fV r_i64 s2.2), (8, fV r_u32 v.2), (17, fV (Rep.slice r_u16) x0), (18, fV r_i64 (List.length x0 : Int)), (19, fV r_i64 s2.2)]) (mkO [(5, arrE 35 r_u16 v.1)]) F 67 a w) o) ?_ N (s2.1, 0, 0) o10 _ _ hl11 ?_) ?_
      · clear H hAt hl11; intro s4 r13 a w H hAt; unfold f_exact_times_L1 at H; refine wp_seq ?_
        refine reg [⟨fV Rep.bool (cmpI .lss s4.2.2 (List.length x1 : Int)), [], [(26, none), (25, none)], []⟩] [1, 6, 7, 8, 17, 18, 19, 24, 25, 26, 27] [5] hAt
            ⟨ok_cmp (op := .lss) (by simp) rfl rfl opd0 opd1, trivial⟩ (by kernel_rfl) ?_
        clear hAt; intro a w hAt
        replace hAt : At B h0 (mkG [(1, fV (Rep.slice r_u16) x1), (6, fV r_i64 s2.2), (7, fV r_u16 v3), (8, fV r_u32 s4.2.1), (17, fV (Rep.slice r_u16) x0), (18, fV r_i64 (List.length x0 : Int)), (19, fV r_i64 s2.2), (24, fV (Rep.slice r_u16) x1), (25, fV r_i64 (List.length x1 : Int)), (26, fV r_i64 s4.2.2), (27, fV Rep.bool (cmpI .lss s4.2.2 (List.length x1 : Int)))]) (mkO [(5, arrE 35 r_u16 s4.1)]) F 67 a w := hAt
        refine then_n ?_; refine wp_seq ?_; refine wp_if hAt (by rfl) ?_ ?_
        · intro hb9; have H := iteT hb9 H; refine wp_skip ?_; refine then_n ?_; refine wp_seq ?_; refine wp_block ?_; refine wp_seq ?_; obtain ⟨v5, hv5, H⟩ := bindE H
          refine reg [⟨fV r_i64 s4.2.2, [], [(26, none)], []⟩,
              ⟨fRef r_u16 v5, [], [(24, none), (26, none)], []⟩,
              ⟨fV r_u16 v5, [], [(29, some 1)], []⟩,
              ⟨fV r_i64 s4.2.2, [], [(28, some 0)], []⟩,
              ⟨fV r_u16 v5, [], [(30, some 2)], []⟩] [1, 6, 7, 8, 9, 10, 17, 18, 19, 24, 25, 26] [5] hAt
              ⟨ok_move rfl opd0,
              ok_index ty35 un28 hv5 rfl opd0 opd1,
              ok_load ty35 rfl opd0,
              ok_assign rfl opd0,
              ok_assign rfl opd0, trivial⟩ (by kernel_rfl) ?_
          clear hAt; intro a w hAt
          replace hAt : At B h0 (mkG [(1, fV (Rep.slice r_u16) x1), (6, fV r_i64 s2.2), (7, fV r_u16 v3), (8, fV r_u32 s4.2.1), (9, fV r_i64 s4.2.2), (10, fV r_u16 v5), (17, fV (Rep.slice r_u16) x0), (18, fV r_i64 (List.length x0 : Int)), (19, fV r_i64 s2.2), (24, fV (Rep.slice r_u16) x1), (25, fV r_i64 (List.length x1 : Int)), (26, fV r_i64 s4.2.2)]) (mkO [(5, arrE 35 r_u16 s4.1)]) F 67 a w := hAt
          refine then_n ?_; refine wp_seq ?_; obtain ⟨v6, hv6, H⟩ := bindE H
          refine reg [⟨fV r_u32 s4.2.1, [], [(8, none)], []⟩,
              ⟨fV r_u16 v3, [], [(7, none)], []⟩,
              ⟨fV r_u32 (IntKind.u32.wrap v3), [], [(32, some 1)], []⟩,
              ⟨fV r_u16 v5, [], [(10, none)], []⟩,
              ⟨fV r_u32 (IntKind.u32.wrap v5), [], [(34, some 3)], []⟩,
              ⟨fV r_u32 (IntKind.u32.wrap ((IntKind.u32.wrap v3) * (IntKind.u32.wrap v5))), [], [(33, some 2), (35, some 4)], []⟩,
              ⟨fCp 5, [], [], []⟩,
              ⟨fV r_i64 s2.2, [], [(6, none)], []⟩,
              ⟨fV r_i64 s4.2.2, [], [(9, none)], []⟩,
              ⟨fV r_i64 (IntKind.i64.wrap (s2.2 + s4.2.2)), [], [(38, some 7), (39, some 8)], []⟩,
              ⟨fEl 5 ((Int.toNat (IntKind.i64.wrap (s2.2 + s4.2.2))) * r_u16.sz + 0), [], [(37, some 6), (40, some 9)], [(5, none)]⟩,
              ⟨fV r_u16 v6, [], [(41, some 10)], [(5, none)]⟩,
              ⟨fV r_u32 (IntKind.u32.wrap v6), [], [(42, some 11)], []⟩,
              ⟨fV r_u32 (IntKind.u32.wrap ((IntKind.u32.wrap ((IntKind.u32.wrap v3) * (IntKind.u32.wrap v5))) + (IntKind.u32.wrap v6))), [], [(36, some 5), (43, some 12)], []⟩,
              ⟨fV r_u32 (IntKind.u32.wrap (s4.2.1 + (IntKind.u32.wrap ((IntKind.u32.wrap ((IntKind.u32.wrap v3) * (IntKind.u32.wrap v5))) + (IntKind.u32.wrap v6))))), [], [(31, some 0), (44, some 13)], []⟩,
              ⟨fV r_u32 (IntKind.u32.wrap (s4.2.1 + (IntKind.u32.wrap ((IntKind.u32.wrap ((IntKind.u32.wrap v3) * (IntKind.u32.wrap v5))) + (IntKind.u32.wrap v6))))), [], [(45, some 14)], []⟩] [1, 6, 7, 8, 9, 17, 18, 19, 24, 25, 26] [5] hAt
              ⟨ok_move rfl opd0,
              ok_move rfl opd0,
              ok_conv un35 un154 rfl opd0,
              ok_move rfl opd0,
              ok_conv un35 un154 rfl opd0,
              ok_mul rfl opd0 opd1,
              ok_cp rfl,
              ok_move rfl opd0,
              ok_move rfl opd0,
              ok_add rfl opd0 opd1,
              ok_elArr hv6 ty35 un28 rfl opd0 opd1,
              ok_loadArr (idx_spec hv6).2.2 (Lens.refl _) ty35 rfl opd0,
              ok_conv un35 un154 rfl opd0,
              ok_add rfl opd0 opd1,
              ok_add rfl opd0 opd1,
              ok_assign rfl opd0, trivial⟩ (by kernel_rfl) ?_
          clear hAt; intro a w hAt
          replace hAt : At B h0 (mkG [(1, fV (Rep.slice r_u16) x1), (6, fV r_i64 s2.2), (7, fV r_u16 v3), (8, fV r_u32 (IntKind.u32.wrap (s4.2.1 + (IntKind.u32.wrap ((IntKind.u32.wrap ((IntKind.u32.wrap v3) * (IntKind.u32.wrap v5))) + (IntKind.u32.wrap v6)))))), (9, fV r_i64 s4.2.2), (17, fV (Rep.slice r_u16) x0), (18, fV r_i64 (List.length x0 : Int)), (19, fV r_i64 s2.2), (24, fV (Rep.slice r_u16) x1), (25, fV r_i64 (List.length x1 : Int)), (26, fV r_i64 s4.2.2)]) (mkO [(5, arrE 35 r_u16 s4.1)]) F 67 a w := hAt
          refine then_n ?_; refine wp_seq ?_; obtain ⟨v7, hv7, H⟩ := bindE H
          refine reg [⟨fCp 5, [], [], []⟩,
              ⟨fV r_i64 s2.2, [], [(6, none)], []⟩,
              ⟨fV r_i64 s4.2.2, [], [(9, none)], []⟩,
              ⟨fV r_i64 (IntKind.i64.wrap (s2.2 + s4.2.2)), [], [(47, some 1), (48, some 2)], []⟩,
              ⟨fV r_u32 (IntKind.u32.wrap (s4.2.1 + (IntKind.u32.wrap ((IntKind.u32.wrap ((IntKind.u32.wrap v3) * (IntKind.u32.wrap v5))) + (IntKind.u32.wrap v6))))), [], [(8, none)], []⟩,
              ⟨fV r_u16 (IntKind.u16.wrap (IntKind.u32.wrap (s4.2.1 + (IntKind.u32.wrap ((IntKind.u32.wrap ((IntKind.u32.wrap v3) * (IntKind.u32.wrap v5))) + (IntKind.u32.wrap v6)))))), [], [(50, some 4)], []⟩,
              ⟨fEl 5 ((Int.toNat (IntKind.i64.wrap (s2.2 + s4.2.2))) * r_u16.sz + 0), [], [(46, some 0), (49, some 3)], [(5, none)]⟩,
              ⟨Fact.triv, [(5, some (arrE 35 r_u16 (List.set s4.1 (Int.toNat (IntKind.i64.wrap (s2.2 + s4.2.2))) (IntKind.u16.wrap (IntKind.u32.wrap (s4.2.1 + (IntKind.u32.wrap ((IntKind.u32.wrap ((IntKind.u32.wrap v3) * (IntKind.u32.wrap v5))) + (IntKind.u32.wrap v6)))))))))], [(52, some 6), (51, some 5)], [(5, none)]⟩] [1, 6, 7, 8, 17, 18, 19, 24, 25, 26] [5] hAt
              ⟨ok_cp rfl,
              ok_move rfl opd0,
              ok_move rfl opd0,
              ok_add rfl opd0 opd1,
              ok_move rfl opd0,
              ok_conv un154 un35 rfl opd0,
              ok_elArr hv7 ty35 un28 rfl opd0 opd1,
              ok_storeArr (idx_spec hv7).2.2 (Lens.refl _) ty35 rfl rfl opd0 opd1 rfl, trivial⟩ (by kernel_rfl) ?_
          clear hAt; intro a w hAt
          replace hAt : At B h0 (mkG [(1, fV (Rep.slice r_u16) x1), (6, fV r_i64 s2.2), (7, fV r_u16 v3), (8, fV r_u32 (IntKind.u32.wrap (s4.2.1 + (IntKind.u32.wrap ((IntKind.u32.wrap ((IntKind.u32.wrap v3) * (IntKind.u32.wrap v5))) + (IntKind.u32.wrap v6)))))), (17, fV (Rep.slice r_u16) x0), (18, fV r_i64 (List.length x0 : Int)), (19, fV r_i64 s2.2), (24, fV (Rep.slice r_u16) x1), (25, fV r_i64 (List.length x1 : Int)), (26, fV r_i64 s4.2.2)]) (mkO [(5, arrE 35 r_u16 (List.set s4.1 (Int.toNat (IntKind.i64.wrap (s2.2 + s4.2.2))) (IntKind.u16.wrap (IntKind.u32.wrap (s4.2.1 + (IntKind.u32.wrap ((IntKind.u32.wrap ((IntKind.u32.wrap v3) * (IntKind.u32.wrap v5))) + (IntKind.u32.wrap v6))))))))]) F 67 a w := hAt
          refine then_n ?_; obtain ⟨v8, hv8, H⟩ := bindE H
          refine reg [⟨fV r_u32 (IntKind.u32.wrap (s4.2.1 + (IntKind.u32.wrap ((IntKind.u32.wrap ((IntKind.u32.wrap v3) * (IntKind.u32.wrap v5))) + (IntKind.u32.wrap v6))))), [], [(8, none)], []⟩,
              ⟨fV r_u32 v8, [], [(53, some 0)], []⟩,
              ⟨fV r_u32 v8, [], [(54, some 1)], []⟩] [1, 6, 7, 8, 17, 18, 19, 24, 25, 26] [5] hAt
              ⟨ok_move rfl opd0,
              ok_shr hv8 rfl opd0 opdI,
              ok_assign rfl opd0, trivial⟩ (by kernel_rfl) ?_
          clear hAt; intro a w hAt
          replace hAt : At B h0 (mkG [(1, fV (Rep.slice r_u16) x1), (6, fV r_i64 s2.2), (7, fV r_u16 v3), (8, fV r_u32 v8), (17, fV (Rep.slice r_u16) x0), (18, fV r_i64 (List.length x0 : Int)), (19, fV r_i64 s2.2), (24, fV (Rep.slice r_u16) x1), (25, fV r_i64 (List.length x1 : Int)), (26, fV r_i64 s4.2.2)]) (mkO [(5, arrE 35 r_u16 (List.set s4.1 (Int.toNat (IntKind.i64.wrap (s2.2 + s4.2.2))) (IntKind.u16.wrap (IntKind.u32.wrap (s4.2.1 + (IntKind.u32.wrap ((IntKind.u32.wrap ((IntKind.u32.wrap v3) * (IntKind.u32.wrap v5))) + (IntKind.u32.wrap v6))))))))]) F 67 a w := hAt
          refine blk_n ?_; refine then_n ?_
          refine reg [⟨fV r_i64 (IntKind.i64.wrap (s4.2.2 + 1)), [], [(26, none)], []⟩,
              ⟨fV r_i64 (IntKind.i64.wrap (s4.2.2 + 1)), [], [(55, some 0)], []⟩] [1, 6, 7, 8, 17, 18, 19, 24, 25, 26] [5] hAt
              ⟨ok_add rfl opd0 opdI,
              ok_move rfl opd0, trivial⟩ (by kernel_rfl) ?_
          clear hAt; intro a w hAt
          replace hAt : At B h0 (mkG [(1, fV (Rep.slice r_u16) x1), (6, fV r_i64 s2.2), (7, fV r_u16 v3), (8, fV r_u32 v8), (17, fV (Rep.slice r_u16) x0), (18, fV r_i64 (List.length x0 : Int)), (19, fV r_i64 s2.2), (24, fV (Rep.slice r_u16) x1), (25, fV r_i64 (List.length x1 : Int)), (26, fV r_i64 (IntKind.i64.wrap (s4.2.2 + 1)))]) (mkO [(5, arrE 35 r_u16 (List.set s4.1 (Int.toNat (IntKind.i64.wrap (s2.2 + s4.2.2))) (IntKind.u16.wrap (IntKind.u32.wrap (s4.2.1 + (IntKind.u32.wrap ((IntKind.u32.wrap ((IntKind.u32.wrap v3) * (IntKind.u32.wrap v5))) + (IntKind.u32.wrap v6))))))))]) F 67 a w := hAt
          cases H
          exact ⟨rfl, hAt.pick [1, 6, 7, 8, 17, 18, 19, 24, 25, 26] [5]⟩
        · intro hb9; have H := iteF hb9 H; refine wp_exit ?_; refine then_x ?_
          cases H
          exact ⟨ex_ne, rfl, hAt.pick [1, 6, 8, 17, 18, 19] [5]⟩
      · exact hAt.pick [1, 6, 7, 8, 17, 18, 19, 24, 25, 26] [5]
      · clear hAt; intro e a w hp; obtain ⟨rfl, hAt⟩ := hp; refine blk_eq ?_; refine then_n ?_; obtain ⟨v12, hv12, H⟩ := bindE H
        refine reg [⟨fCp 5, [], [], []⟩,
            ⟨fV r_i64 s2.2, [], [(6, none)], []⟩,
            ⟨fV (Rep.slice r_u16) x1, [], [(1, none)], []⟩,
            ⟨fV r_i64 (List.length x1 : Int), [], [(58, some 2)], []⟩,
            ⟨fV r_i64 (IntKind.i64.wrap (s2.2 + (List.length x1 : Int))), [], [(57, some 1), (59, some 3)], []⟩,
            ⟨fV r_u32 o10.2, [], [(8, none)], []⟩,
            ⟨fV r_u16 (IntKind.u16.wrap o10.2), [], [(61, some 5)], []⟩,
            ⟨fEl 5 ((Int.toNat (IntKind.i64.wrap (s2.2 + (List.length x1 : Int)))) * r_u16.sz + 0), [], [(56, some 0), (60, some 4)], [(5, none)]⟩,
            ⟨Fact.triv, [(5, some (arrE 35 r_u16 (List.set o10.1 (Int.toNat (IntKind.i64.wrap (s2.2 + (List.length x1 : Int)))) (IntKind.u16.wrap o10.2))))], [(63, some 7), (62, some 6)], [(5, none)]⟩] [1, 17, 18, 19] [5] hAt
            ⟨ok_cp rfl,
            ok_move rfl opd0,
            ok_move rfl opd0,
            ok_len un28 rfl opd0,
            ok_add rfl opd0 opd1,
            ok_move rfl opd0,
            ok_conv un154 un35 rfl opd0,
            ok_elArr hv12 ty35 un28 rfl opd0 opd1,
            ok_storeArr (idx_spec hv12).2.2 (Lens.refl _) ty35 rfl rfl opd0 opd1 rfl, trivial⟩ (by kernel_rfl) ?_
        clear hAt; intro a w hAt; replace hAt : At B h0 (mkG [(1, fV (Rep.slice r_u16) x1), (17, fV (Rep.slice r_u16) x0), (18, fV r_i64 (List.length x0 : Int)), (19, fV r_i64 s2.2)]) (mkO [(5, arrE 35 r_u16 (List.set o10.1 (Int.toNat (IntKind.i64.wrap (s2.2 + (List.length x1 : Int)))) (IntKind.u16.wrap o10.2)))]) F 67 a w := hAt; refine blk_n ?_; refine then_n ?_
        refine reg [⟨fV r_i64 (IntKind.i64.wrap (s2.2 + 1)), [], [(19, none)], []⟩,
            ⟨fV r_i64 (IntKind.i64.wrap (s2.2 + 1)), [], [(64, some 0)], []⟩] [1, 17, 18, 19] [5] hAt
            ⟨ok_add rfl opd0 opdI,
            ok_move rfl opd0, trivial⟩ (by kernel_rfl) ?_
        clear hAt; intro a w hAt; replace hAt : At B h0 (mkG [(1, fV (Rep.slice r_u16) x1), (17, fV (Rep.slice r_u16) x0), (18, fV r_i64 (List.length x0 : Int)), (19, fV r_i64 (IntKind.i64.wrap (s2.2 + 1)))]) (mkO [(5, arrE 35 r_u16 (List.set o10.1 (Int.toNat (IntKind.i64.wrap (s2.2 + (List.length x1 : Int)))) (IntKind.u16.wrap o10.2)))]) F 67 a w := hAt
        cases H
        exact ⟨rfl, hAt.pick [1, 17, 18, 19] [5]⟩
    · intro hb14; have H := iteF hb14 H; refine wp_exit ?_; refine then_x ?_
      cases H
      exact ⟨ex_ne, rfl, hAt.pick [] [5]⟩
  · exact hAt.pick [1, 17, 18, 19] [5]
  · clear hAt; intro e a w hp; obtain ⟨rfl, hAt⟩ := hp; refine blk_eq ?_; refine then_n ?_; refine wp_seq ?_; have hAt := At.freeze 5 hAt rfl; replace hAt := hAt.pick [5] []; replace hAt : At B h0 (mkG [(5, fV (Rep.slice r_u16) o15)]) (mkO []) F 67 a w := hAt; obtain ⟨v17, hv17, H⟩ := bindE H
    refine reg [⟨fV (Rep.slice r_u16) o15, [], [(5, none)], []⟩,
        ⟨fV (Rep.slice r_u16) v17, [], [(65, some 0)], []⟩,
        ⟨fV (Rep.slice r_u16) v17, [], [(66, some 1)], []⟩] [4] [] hAt
        ⟨ok_move rfl opd0,
        ok_call (ok_f_exact_trim N o15 _ hv17) Try.func71 (by kernel_rfl) (by kernel_rfl) rfl ⟨opd0, trivial⟩,
        ok_assign rfl opd0, trivial⟩ (by kernel_rfl) ?_
    clear hAt; intro a w hAt; replace hAt : At B h0 (mkG [(4, fV (Rep.slice r_u16) v17)]) (mkO []) F 67 a w := hAt; refine then_n ?_; refine wp_ret ?_
    cases H
    exact ret1 rfl (rv_tmp rfl rfl) hAt
theorem ok_f_exact_Mul (N : Nat) (x0 : GInt) (x1 : GInt) (r : GInt) (H : f_exact_Mul N x0 x1 = some r) : FnOk Try.prog 66 [fV GInt.rep x0, fV GInt.rep x1] (fV GInt.rep r) := by
  unfold f_exact_Mul at H; refine fn_enter Try.func66 rfl rfl (by kernel_rfl) ?_; intro κ B h0 F a w hAt; refine wp_seq ?_
  refine reg [⟨fRef GInt.rep x0, [], [(0, none)], []⟩,
      ⟨fRef GInt.rep x1, [], [(1, none)], []⟩,
      ⟨Fact.triv, [(4, some (boxE 30 GInt.rep (⟨false, []⟩ : GInt)))], [], []⟩] [2, 3] [4] hAt
      ⟨ok_box rfl opd0,
      ok_box rfl opd0,
      ok_alloc ty30 rfl rfl, trivial⟩ (by kernel_rfl) ?_
  clear hAt; intro a w hAt; replace hAt : At B h0 (mkG [(2, fRef GInt.rep x0), (3, fRef GInt.rep x1)]) (mkO [(4, boxE 30 GInt.rep (⟨false, []⟩ : GInt))]) F 18 a w := hAt; refine then_n ?_; refine wp_seq ?_; obtain ⟨v1, hv1, H⟩ := bindE H; obtain ⟨v2, hv2, H⟩ := bindE H; obtain ⟨v3, hv3, H⟩ := bindE H; obtain ⟨v4, hv4, H⟩ := bindE H
  refine regd [⟨fRef Rep.bool x0.Neg, [], [(2, none)], []⟩,
      ⟨fV Rep.bool x0.Neg, [], [(5, some 0)], []⟩,
      ⟨fRef Rep.bool x1.Neg, [], [(3, none)], []⟩,
      ⟨fV Rep.bool x1.Neg, [], [(7, some 2)], []⟩,
      ⟨fV Rep.bool (!(x0.Neg == x1.Neg)), [], [(6, some 1), (8, some 3)], []⟩,
      ⟨fRef (Rep.slice r_u16) x0.Limbs, [], [(2, none)], []⟩,
      ⟨fV (Rep.slice r_u16) x0.Limbs, [], [(10, some 5)], []⟩,
      ⟨fV (Rep.slice r_u16) v1, [], [(11, some 6)], []⟩,
      ⟨fRef (Rep.slice r_u16) x1.Limbs, [], [(3, none)], []⟩,
      ⟨fV (Rep.slice r_u16) x1.Limbs, [], [(13, some 8)], []⟩,
      ⟨fV (Rep.slice r_u16) v2, [], [(14, some 9)], []⟩,
      ⟨fV (Rep.slice r_u16) v3, [], [(12, some 7), (15, some 10)], []⟩,
      ⟨fV GInt.rep v4, [], [(9, some 4), (16, some 11)], []⟩,
      ⟨Fact.triv, [(4, some (boxE 30 GInt.rep v4))], [(17, some 12)], [(4, none)]⟩] [0, 1, 2, 3, 4, 5, 6, 7, 8, 9, 10, 11, 12, 13] [0, 1, 2, 3, 4, 5, 6, 7, 8, 9, 10, 11, 12, 13] [] [4] hAt
      ⟨ok_field GInt.l0 fo30_0 rfl opd0,
      ok_load ty4 rfl opd0,
      ok_field GInt.l0 fo30_0 rfl opd0,
      ok_load ty4 rfl opd0,
      ok_neB un4 rfl opd0 opd1,
      ok_field GInt.l1 fo30_1 rfl opd0,
      ok_load ty28 rfl opd0,
      ok_call (ok_f_exact_trim N x0.Limbs _ hv1) Try.func71 (by kernel_rfl) (by kernel_rfl) rfl ⟨opd0, trivial⟩,
      ok_field GInt.l1 fo30_1 rfl opd0,
      ok_load ty28 rfl opd0,
      ok_call (ok_f_exact_trim N x1.Limbs _ hv2) Try.func71 (by kernel_rfl) (by kernel_rfl) rfl ⟨opd0, trivial⟩,
      ok_call (ok_f_exact_times N v1 v2 _ hv3) Try.func102 (by kernel_rfl) (by kernel_rfl) rfl ⟨opd0, ⟨opd1, trivial⟩⟩,
      ok_call (ok_f_exact_signed N (!(x0.Neg == x1.Neg)) v3 _ hv4) Try.func98 (by kernel_rfl) (by kernel_rfl) rfl ⟨opd0, ⟨opd1, trivial⟩⟩,
      ok_storeBox ty30 rfl rfl opd0, trivial⟩ (by kernel_rfl) ?_
  clear hAt; intro a w hAt; replace hAt : At B h0 (mkG []) (mkO [(4, boxE 30 GInt.rep v4)]) F 18 a w := hAt; refine then_n ?_; refine wp_ret ?_
  cases H
  exact ret1 rfl (rv_cell ty30 rfl) hAt
theorem ok_f_exact_sign (N : Nat) (x0 : GInt) (r : Int) (H : f_exact_sign N x0 = some r) : FnOk Try.prog 95 [fV GInt.rep x0] (fV r_i64 r) := by
  unfold f_exact_sign at H; refine fn_enter Try.func95 rfl rfl (by kernel_rfl) ?_; intro κ B h0 F a w hAt; refine wp_seq ?_
  refine reg [⟨fRef GInt.rep x0, [], [(0, none)], []⟩,
      ⟨fV r_i64 0, [], [], []⟩] [1] [] hAt
      ⟨ok_box rfl opd0,
      ok_assign rfl opdI, trivial⟩ (by kernel_rfl) ?_
  clear hAt; intro a w hAt; replace hAt : At B h0 (mkG [(1, fRef GInt.rep x0)]) (mkO []) F 12 a w := hAt; refine then_n ?_; refine wp_seq ?_; refine wp_block ?_; refine wp_seq ?_; obtain ⟨v1, hv1, H⟩ := bindE H
  refine reg [⟨fRef (Rep.slice r_u16) x0.Limbs, [], [(1, none)], []⟩,
      ⟨fV (Rep.slice r_u16) x0.Limbs, [], [(4, some 0)], []⟩,
      ⟨fV (Rep.slice r_u16) v1, [], [(5, some 1)], []⟩,
      ⟨fV r_i64 (List.length v1 : Int), [], [(6, some 2)], []⟩,
      ⟨fV Rep.bool (cmpI .eql (List.length v1 : Int) 0), [], [(7, some 3)], []⟩,
      ⟨fV Rep.bool (cmpI .eql (List.length v1 : Int) 0), [], [(8, some 4)], []⟩] [1, 3] [] hAt
      ⟨ok_field GInt.l1 fo30_1 rfl opd0,
      ok_load ty28 rfl opd0,
      ok_call (ok_f_exact_trim N x0.Limbs _ hv1) Try.func71 (by kernel_rfl) (by kernel_rfl) rfl ⟨opd0, trivial⟩,
      ok_len un28 rfl opd0,
      ok_cmp (op := .eql) (by simp) rfl rfl opd0 opdI,
      ok_assign rfl opd0, trivial⟩ (by kernel_rfl) ?_
  clear hAt; intro a w hAt; replace hAt : At B h0 (mkG [(1, fRef GInt.rep x0), (3, fV Rep.bool (cmpI .eql (List.length v1 : Int) 0))]) (mkO []) F 12 a w := hAt; refine then_n ?_; refine wp_if hAt (by rfl) ?_ ?_
  · intro hb3; have H := iteT hb3 H; refine wp_seq ?_
    refine reg [⟨fV r_i64 0, [], [], []⟩] [2] [] hAt
        ⟨ok_assign rfl opdI, trivial⟩ (by kernel_rfl) ?_
    clear hAt; intro a w hAt; replace hAt : At B h0 (mkG [(2, fV r_i64 0)]) (mkO []) F 12 a w := hAt; refine then_n ?_; refine wp_ret ?_; refine blk_r ?_; refine then_r ?_
    cases H
    exact ret1 rfl (rv_tmp rfl rfl) hAt
  · intro hb3; have H := iteF hb3 H; refine wp_seq ?_
    refine reg [⟨fRef Rep.bool x0.Neg, [], [(1, none)], []⟩,
        ⟨fV Rep.bool x0.Neg, [], [(10, some 0)], []⟩,
        ⟨fV Rep.bool x0.Neg, [], [(11, some 1)], []⟩] [9] [] hAt
        ⟨ok_field GInt.l0 fo30_0 rfl opd0,
        ok_load ty4 rfl opd0,
        ok_assign rfl opd0, trivial⟩ (by kernel_rfl) ?_
    clear hAt; intro a w hAt; replace hAt : At B h0 (mkG [(9, fV Rep.bool x0.Neg)]) (mkO []) F 12 a w := hAt; refine then_n ?_; refine wp_if hAt (by rfl) ?_ ?_
    · intro hb2; have H := iteT hb2 H; refine wp_seq ?_
      refine reg [⟨fV r_i64 (-1), [], [], []⟩] [2] [] hAt
          ⟨ok_assign rfl opdI, trivial⟩ (by kernel_rfl) ?_
      clear hAt; intro a w hAt; replace hAt : At B h0 (mkG [(2, fV r_i64 (-1))]) (mkO []) F 12 a w := hAt; refine then_n ?_; refine wp_ret ?_; refine blk_r ?_; refine then_r ?_
      cases H
      exact ret1 rfl (rv_tmp rfl rfl) hAt
    · intro hb2; have H := iteF hb2 H; refine wp_skip ?_; refine blk_n ?_; refine then_n ?_; refine wp_seq ?_
      refine reg [⟨fV r_i64 1, [], [], []⟩] [2] [] hAt
          ⟨ok_assign rfl opdI, trivial⟩ (by kernel_rfl) ?_
      clear hAt; intro a w hAt; replace hAt : At B h0 (mkG [(2, fV r_i64 1)]) (mkO []) F 12 a w := hAt; refine then_n ?_; refine wp_ret ?_
      cases H
      exact ret1 rfl (rv_tmp rfl rfl) hAt
theorem ok_f_exact_below (N : Nat) (x0 : GRat) (r : GInt) (H : f_exact_below N x0 = some r) : FnOk Try.prog 63 [fV GRat.rep x0] (fV GInt.rep r) := by
  unfold f_exact_below at H; refine fn_enter Try.func63 rfl rfl (by kernel_rfl) ?_; intro κ B h0 F a w hAt; refine wp_seq ?_
  refine reg [⟨fRef GRat.rep x0, [], [(0, none)], []⟩,
      ⟨Fact.triv, [(2, some (boxE 30 GInt.rep (⟨false, []⟩ : GInt)))], [], []⟩] [1] [2] hAt
      ⟨ok_box rfl opd0,
      ok_alloc ty30 rfl rfl, trivial⟩ (by kernel_rfl) ?_
  clear hAt; intro a w hAt; replace hAt : At B h0 (mkG [(1, fRef GRat.rep x0)]) (mkO [(2, boxE 30 GInt.rep (⟨false, []⟩ : GInt))]) F 11 a w := hAt; refine then_n ?_; refine wp_seq ?_; refine wp_seq ?_; obtain ⟨v1, hv1, H⟩ := bindE H
  refine reg [⟨fRef GInt.rep x0.Den, [], [(1, none)], []⟩,
      ⟨fV GInt.rep x0.Den, [], [(3, some 0)], []⟩,
      ⟨fV r_i64 v1, [], [(4, some 1)], []⟩,
      ⟨fV Rep.bool (cmpI .eql v1 0), [], [(5, some 2)], []⟩] [1, 6] [2] hAt
      ⟨ok_field GRat.l1 fo32_1 rfl opd0,
      ok_load ty30 rfl opd0,
      ok_call (ok_f_exact_sign N x0.Den _ hv1) Try.func95 (by kernel_rfl) (by kernel_rfl) rfl ⟨opd0, trivial⟩,
      ok_cmp (op := .eql) (by simp) rfl rfl opd0 opdI, trivial⟩ (by kernel_rfl) ?_
  clear hAt; intro a w hAt; replace hAt : At B h0 (mkG [(1, fRef GRat.rep x0), (6, fV Rep.bool (cmpI .eql v1 0))]) (mkO [(2, boxE 30 GInt.rep (⟨false, []⟩ : GInt))]) F 11 a w := hAt; refine then_n ?_; refine wp_if hAt (by rfl) ?_ ?_
  · intro hb2; have H := iteT hb2 H; refine wp_seq ?_
    refine reg [⟨fV (Rep.slice r_u16) [1], [], [], []⟩,
        ⟨fV GInt.rep (⟨false, [1]⟩ : GInt), [], [(7, some 0)], []⟩,
        ⟨Fact.triv, [(2, some (boxE 30 GInt.rep (⟨false, [1]⟩ : GInt)))], [(8, some 1)], [(2, none)]⟩] [] [2] hAt
        ⟨ok_buildSlice ty35 un28 rfl rfl (fillC (Lens.arr _ _ 0 (by decide)) rfl opdI fillN),
        ok_build ty30 rfl pl30 rfl (fillC GInt.l1 rfl opd0 fillN),
        ok_storeBox ty30 rfl rfl opd0, trivial⟩ (by kernel_rfl) ?_
    clear hAt; intro a w hAt; replace hAt : At B h0 (mkG []) (mkO [(2, boxE 30 GInt.rep (⟨false, [1]⟩ : GInt))]) F 11 a w := hAt; refine then_n ?_; refine wp_ret ?_; refine then_r ?_
    cases H
    exact ret1 rfl (rv_cell ty30 rfl) hAt
  · intro hb2; have H := iteF hb2 H; refine wp_skip ?_; refine then_n ?_; refine wp_seq ?_
    refine reg [⟨fRef GInt.rep x0.Den, [], [(1, none)], []⟩,
        ⟨fV GInt.rep x0.Den, [], [(9, some 0)], []⟩,
        ⟨Fact.triv, [(2, some (boxE 30 GInt.rep x0.Den))], [(10, some 1)], [(2, none)]⟩] [] [2] hAt
        ⟨ok_field GRat.l1 fo32_1 rfl opd0,
        ok_load ty30 rfl opd0,
        ok_storeBox ty30 rfl rfl opd0, trivial⟩ (by kernel_rfl) ?_
    clear hAt; intro a w hAt; replace hAt : At B h0 (mkG []) (mkO [(2, boxE 30 GInt.rep x0.Den)]) F 11 a w := hAt; refine then_n ?_; refine wp_ret ?_
    cases H
    exact ret1 rfl (rv_cell ty30 rfl) hAt
theorem ok_f_exact_MulRat (N : Nat) (x0 : GRat) (x1 : GRat) (r : GRat) (H : f_exact_MulRat N x0 x1 = some r) : FnOk Try.prog 26 [fV GRat.rep x0, fV GRat.rep x1] (fV GRat.rep r) := by
  unfold f_exact_MulRat at H; refine fn_enter Try.func26 rfl rfl (by kernel_rfl) ?_; intro κ B h0 F a w hAt; refine wp_seq ?_
  refine reg [⟨fRef GRat.rep x0, [], [(0, none)], []⟩,
      ⟨fRef GRat.rep x1, [], [(1, none)], []⟩,
      ⟨Fact.triv, [(4, some (boxE 32 GRat.rep (⟨(⟨false, []⟩ : GInt), (⟨false, []⟩ : GInt)⟩ : GRat)))], [], []⟩] [2, 3] [4] hAt
      ⟨ok_box rfl opd0,
      ok_box rfl opd0,
      ok_alloc ty32 rfl rfl, trivial⟩ (by kernel_rfl) ?_
  clear hAt; intro a w hAt; replace hAt : At B h0 (mkG [(2, fRef GRat.rep x0), (3, fRef GRat.rep x1)]) (mkO [(4, boxE 32 GRat.rep (⟨(⟨false, []⟩ : GInt), (⟨false, []⟩ : GInt)⟩ : GRat))]) F 16 a w := hAt; refine then_n ?_; refine wp_seq ?_; obtain ⟨v1, hv1, H⟩ := bindE H; obtain ⟨v2, hv2, H⟩ := bindE H; obtain ⟨v3, hv3, H⟩ := bindE H; obtain ⟨v4, hv4, H⟩ := bindE H; obtain ⟨v5, hv5, H⟩ := bindE H
  refine regd [⟨fRef GInt.rep x0.Num, [], [(2, none)], []⟩,
      ⟨fV GInt.rep x0.Num, [], [(5, some 0)], []⟩,
      ⟨fRef GInt.rep x1.Num, [], [(3, none)], []⟩,
      ⟨fV GInt.rep x1.Num, [], [(7, some 2)], []⟩,
      ⟨fV GInt.rep v1, [], [(6, some 1), (8, some 3)], []⟩,
      ⟨fV GRat.rep x0, [], [(2, none)], []⟩,
      ⟨fV GInt.rep v2, [], [(10, some 5)], []⟩,
      ⟨fV GRat.rep x1, [], [(3, none)], []⟩,
      ⟨fV GInt.rep v3, [], [(12, some 7)], []⟩,
      ⟨fV GInt.rep v4, [], [(11, some 6), (13, some 8)], []⟩,
      ⟨fV GRat.rep v5, [], [(9, some 4), (14, some 9)], []⟩,
      ⟨Fact.triv, [(4, some (boxE 32 GRat.rep v5))], [(15, some 10)], [(4, none)]⟩] [0, 1, 2, 3, 4, 5, 6, 7, 8, 9, 10, 11] [0, 1, 2, 3, 4, 5, 6, 7, 8, 9, 10, 11] [] [4] hAt
      ⟨ok_field GRat.l0 fo32_0 rfl opd0,
      ok_load ty30 rfl opd0,
      ok_field GRat.l0 fo32_0 rfl opd0,
      ok_load ty30 rfl opd0,
      ok_call (ok_f_exact_Mul N x0.Num x1.Num _ hv1) Try.func66 (by kernel_rfl) (by kernel_rfl) rfl ⟨opd0, ⟨opd1, trivial⟩⟩,
      ok_load ty32 rfl opd0,
      ok_call (ok_f_exact_below N x0 _ hv2) Try.func63 (by kernel_rfl) (by kernel_rfl) rfl ⟨opd0, trivial⟩,
      ok_load ty32 rfl opd0,
      ok_call (ok_f_exact_below N x1 _ hv3) Try.func63 (by kernel_rfl) (by kernel_rfl) rfl ⟨opd0, trivial⟩,
      ok_call (ok_f_exact_Mul N v2 v3 _ hv4) Try.func66 (by kernel_rfl) (by kernel_rfl) rfl ⟨opd0, ⟨opd1, trivial⟩⟩,
      ok_call (ok_f_exact_fraction N v1 v4 _ hv5) Try.func64 (by kernel_rfl) (by kernel_rfl) rfl ⟨opd0, ⟨opd1, trivial⟩⟩,
      ok_storeBox ty32 rfl rfl opd0, trivial⟩ (by kernel_rfl) ?_
  clear hAt; intro a w hAt; replace hAt : At B h0 (mkG []) (mkO [(4, boxE 32 GRat.rep v5)]) F 16 a w := hAt; refine then_n ?_; refine wp_ret ?_
  cases H
  exact ret1 rfl (rv_cell ty32 rfl) hAt
theorem ok_f_exact_isZero (N : Nat) (x0 : GRat) (r : Bool) (H : f_exact_isZero N x0 = some r) : FnOk Try.prog 61 [fV GRat.rep x0] (fV Rep.bool r) := by
  unfold f_exact_isZero at H; refine fn_enter Try.func61 rfl rfl (by kernel_rfl) ?_; intro κ B h0 F a w hAt; refine wp_seq ?_
  refine reg [⟨fRef GRat.rep x0, [], [(0, none)], []⟩,
      ⟨fV Rep.bool false, [], [], []⟩] [1] [] hAt
      ⟨ok_box rfl opd0,
      ok_assign rfl opdB, trivial⟩ (by kernel_rfl) ?_
  clear hAt; intro a w hAt; replace hAt : At B h0 (mkG [(1, fRef GRat.rep x0)]) (mkO []) F 7 a w := hAt; refine then_n ?_; refine wp_seq ?_; obtain ⟨v1, hv1, H⟩ := bindE H
  refine reg [⟨fRef GInt.rep x0.Num, [], [(1, none)], []⟩,
      ⟨fV GInt.rep x0.Num, [], [(3, some 0)], []⟩,
      ⟨fV r_i64 v1, [], [(4, some 1)], []⟩,
      ⟨fV Rep.bool (cmpI .eql v1 0), [], [(5, some 2)], []⟩,
      ⟨fV Rep.bool (cmpI .eql v1 0), [], [(6, some 3)], []⟩] [2] [] hAt
      ⟨ok_field GRat.l0 fo32_0 rfl opd0,
      ok_load ty30 rfl opd0,
      ok_call (ok_f_exact_sign N x0.Num _ hv1) Try.func95 (by kernel_rfl) (by kernel_rfl) rfl ⟨opd0, trivial⟩,
      ok_cmp (op := .eql) (by simp) rfl rfl opd0 opdI,
      ok_assign rfl opd0, trivial⟩ (by kernel_rfl) ?_
  clear hAt; intro a w hAt; replace hAt : At B h0 (mkG [(2, fV Rep.bool (cmpI .eql v1 0))]) (mkO []) F 7 a w := hAt; refine then_n ?_; refine wp_ret ?_
  cases H
  exact ret1 rfl (rv_tmp rfl rfl) hAt
theorem ok_f_exact_lowest (N : Nat) (x0 : GRat) (r : GRat) (H : f_exact_lowest N x0 = some r) : FnOk Try.prog 62 [fV GRat.rep x0] (fV GRat.rep r) := by
  unfold f_exact_lowest at H; refine fn_enter Try.func62 rfl rfl (by kernel_rfl) ?_; intro κ B h0 F a w hAt; refine wp_seq ?_
  refine reg [⟨fRef GRat.rep x0, [], [(0, none)], []⟩,
      ⟨Fact.triv, [(2, some (boxE 32 GRat.rep (⟨(⟨false, []⟩ : GInt), (⟨false, []⟩ : GInt)⟩ : GRat)))], [], []⟩] [1] [2] hAt
      ⟨ok_box rfl opd0,
      ok_alloc ty32 rfl rfl, trivial⟩ (by kernel_rfl) ?_
  clear hAt; intro a w hAt; replace hAt : At B h0 (mkG [(1, fRef GRat.rep x0)]) (mkO [(2, boxE 32 GRat.rep (⟨(⟨false, []⟩ : GInt), (⟨false, []⟩ : GInt)⟩ : GRat))]) F 8 a w := hAt; refine then_n ?_; refine wp_seq ?_; obtain ⟨v1, hv1, H⟩ := bindE H; obtain ⟨v2, hv2, H⟩ := bindE H
  refine regd [⟨fRef GInt.rep x0.Num, [], [(1, none)], []⟩,
      ⟨fV GInt.rep x0.Num, [], [(3, some 0)], []⟩,
      ⟨fV GRat.rep x0, [], [(1, none)], []⟩,
      ⟨fV GInt.rep v1, [], [(5, some 2)], []⟩,
      ⟨fV GRat.rep v2, [], [(4, some 1), (6, some 3)], []⟩,
      ⟨Fact.triv, [(2, some (boxE 32 GRat.rep v2))], [(7, some 4)], [(2, none)]⟩] [0, 1, 2, 3, 4, 5] [0, 1, 2, 3, 4, 5] [] [2] hAt
      ⟨ok_field GRat.l0 fo32_0 rfl opd0,
      ok_load ty30 rfl opd0,
      ok_load ty32 rfl opd0,
      ok_call (ok_f_exact_below N x0 _ hv1) Try.func63 (by kernel_rfl) (by kernel_rfl) rfl ⟨opd0, trivial⟩,
      ok_call (ok_f_exact_fraction N x0.Num v1 _ hv2) Try.func64 (by kernel_rfl) (by kernel_rfl) rfl ⟨opd0, ⟨opd1, trivial⟩⟩,
      ok_storeBox ty32 rfl rfl opd0, trivial⟩ (by kernel_rfl) ?_
  clear hAt; intro a w hAt; replace hAt : At B h0 (mkG []) (mkO [(2, boxE 32 GRat.rep v2)]) F 8 a w := hAt; refine then_n ?_; refine wp_ret ?_
  cases H
  exact ret1 rfl (rv_cell ty32 rfl) hAt
theorem ok_f_exact_plus (N : Nat) (x0 : (List Int)) (x1 : (List Int)) (r : (List Int)) (H : f_exact_plus N x0 x1 = some r) : FnOk Try.prog 99 [fV (Rep.slice r_u16) x0, fV (Rep.slice r_u16) x1] (fV (Rep.slice r_u16) r) := by
  unfold f_exact_plus at H; refine fn_enter Try.func99 rfl rfl (by kernel_rfl) ?_; intro κ B h0 F a w hAt; refine wp_seq ?_
  refine reg [⟨fV (Rep.slice r_u16) [], [(4, some (tipE 35 r_u16.sz))], [], []⟩] [0, 1] [] hAt
      ⟨ok_nilTip rfl (.inl rfl), trivial⟩ (by kernel_rfl) ?_
  clear hAt; intro a w hAt; replace hAt : At B h0 (mkG [(0, fV (Rep.slice r_u16) x0), (1, fV (Rep.slice r_u16) x1)]) (mkO []) F 56 a w := hAt; refine then_n ?_; refine wp_seq ?_; obtain ⟨o2, hl3, H⟩ := bindE H; refine wp_mono (Q := (fun o e a w => (fun v => e = .normal ∧ At B h0 (mkG [(0, fV (Rep.slice r_u16) v.1), (1, fV (Rep.slice r_u16) v.2)]) (mkO []) F 56 a w) o) o2) ?_ ?_
  · clear H; have H := hl3; clear hl3; refine wp_seq ?_
    refine reg [⟨fV (Rep.slice r_u16) x0, [], [(0, none)], []⟩,
        ⟨fV r_i64 (List.length x0 : Int), [], [(9, some 0)], []⟩,
        ⟨fV (Rep.slice r_u16) x1, [], [(1, none)], []⟩,
        ⟨fV r_i64 (List.length x1 : Int), [], [(11, some 2)], []⟩,
        ⟨fV Rep.bool (cmpI .lss (List.length x0 : Int) (List.length x1 : Int)), [], [(10, some 1), (12, some 3)], []⟩] [0, 1, 13] [] hAt
        ⟨ok_move rfl opd0,
        ok_len un28 rfl opd0,
        ok_move rfl opd0,
        ok_len un28 rfl opd0,
        ok_cmp (op := .lss) (by simp) rfl rfl opd0 opd1, trivial⟩ (by kernel_rfl) ?_
    clear hAt; intro a w hAt; replace hAt : At B h0 (mkG [(0, fV (Rep.slice r_u16) x0), (1, fV (Rep.slice r_u16) x1), (13, fV Rep.bool (cmpI .lss (List.length x0 : Int) (List.length x1 : Int)))]) (mkO []) F 56 a w := hAt; refine then_n ?_; refine wp_if hAt (by rfl) ?_ ?_
    · intro hb1; have H := iteT hb1 H
      refine reg [⟨fV (Rep.slice r_u16) x1, [], [(1, none)], []⟩,
          ⟨fV (Rep.slice r_u16) x0, [], [(0, none)], []⟩,
          ⟨fV (Rep.slice r_u16) x1, [], [(14, some 0)], []⟩,
          ⟨fV (Rep.slice r_u16) x0, [], [(15, some 1)], []⟩] [0, 1] [] hAt
          ⟨ok_move rfl opd0,
          ok_move rfl opd0,
          ok_assign rfl opd0,
          ok_assign rfl opd0, trivial⟩ (by kernel_rfl) ?_
      clear hAt; intro a w hAt; replace hAt : At B h0 (mkG [(0, fV (Rep.slice r_u16) x1), (1, fV (Rep.slice r_u16) x0)]) (mkO []) F 56 a w := hAt
      cases H
      exact ⟨rfl, hAt.pick [0, 1] []⟩
    · intro hb1; have H := iteF hb1 H; refine wp_skip ?_
      cases H
      exact ⟨rfl, hAt.pick [0, 1] []⟩
  · clear hAt; intro e a w hp; obtain ⟨rfl, hAt⟩ := hp; refine then_n ?_; refine wp_seq ?_; obtain ⟨v4, hv4, H⟩ := bindE H
    refine reg [⟨fV (Rep.slice r_u16) o2.1, [], [(0, none)], []⟩,
        ⟨fV r_i64 (List.length o2.1 : Int), [], [(16, some 0)], []⟩,
        ⟨fV r_i64 (IntKind.i64.wrap ((List.length o2.1 : Int) + 1)), [], [(17, some 1)], []⟩,
        ⟨fV (Rep.slice r_u16) v4, [(19, some (tipE 35 r_u16.sz))], [(18, some 2)], []⟩,
        ⟨fV (Rep.slice r_u16) v4, [(19, none), (5, some (tipE 35 r_u16.sz))], [(19, some 3)], [(19, some 3)]⟩] [0, 1, 5] [5] hAt
        ⟨ok_move rfl opd0,
        ok_len un28 rfl opd0,
        ok_add rfl opd0 opdI,
        ok_makeTip hv4 el35 ty35 un28 rfl rfl opdI opd0,
        ok_moveOwn rfl rfl (.inr rfl) opd0, trivial⟩ (by kernel_rfl) ?_
    clear hAt; intro a w hAt; replace hAt : At B h0 (mkG [(0, fV (Rep.slice r_u16) o2.1), (1, fV (Rep.slice r_u16) o2.2), (5, fV (Rep.slice r_u16) v4)]) (mkO [(5, tipE 35 r_u16.sz)]) F 56 a w := hAt; refine then_n ?_; refine wp_seq ?_
    refine reg [⟨fV r_u32 0, [], [], []⟩] [0, 1, 5, 6] [5] hAt
        ⟨ok_assign rfl opdI, trivial⟩ (by kernel_rfl) ?_
    clear hAt; intro a w hAt; replace hAt : At B h0 (mkG [(0, fV (Rep.slice r_u16) o2.1), (1, fV (Rep.slice r_u16) o2.2), (5, fV (Rep.slice r_u16) v4), (6, fV r_u32 0)]) (mkO [(5, tipE 35 r_u16.sz)]) F 56 a w := hAt; refine then_n ?_; refine wp_seq ?_; refine wp_seq ?_
    refine reg [⟨fV (Rep.slice r_u16) o2.1, [], [(0, none)], []⟩,
        ⟨fV r_i64 (List.length o2.1 : Int), [], [(20, some 0)], []⟩,
        ⟨fV r_i64 0, [], [], []⟩] [1, 5, 6, 20, 21, 22] [5] hAt
        ⟨ok_move rfl opd0,
        ok_len un28 rfl opd0,
        ok_move rfl opdI, trivial⟩ (by kernel_rfl) ?_
    clear hAt; intro a w hAt; replace hAt : At B h0 (mkG [(1, fV (Rep.slice r_u16) o2.2), (5, fV (Rep.slice r_u16) v4), (6, fV r_u32 0), (20, fV (Rep.slice r_u16) o2.1), (21, fV r_i64 (List.length o2.1 : Int)), (22, fV r_i64 0)]) (mkO [(5, tipE 35 r_u16.sz)]) F 56 a w := hAt; refine then_n ?_; refine wp_block ?_; obtain ⟨o14, hl15, H⟩ := bindE H
    refine wp_mono (wp_loopN (f := f_exact_plus_L1 N o2) (fun (s5 : ((List Int) × Int × Int)) a w => At B h0 (mkG [(1, fV (Rep.slice r_u16) o2.2), (5, fV (Rep.slice r_u16) s5.1), (6, fV r_u32 s5.2.1), (20, fV (Rep.slice r_u16) o2.1), (21, fV r_i64 (List.length o2.1 : Int)), (22, fV r_i64 s5.2.2)]) (mkO [(5, tipE 35 r_u16.sz)]) F 56 a w) (fun o e a w => (fun v => e = .exit 0 ∧ At B h0 (mkG [(5, fV (Rep.slice r_u16) v.1), (6, fV r_u32 v.2)]) (mkO [(5, tipE 35 r_u16.sz)]) F 56 a w) o) ?_ N (v4, 0, 0) o14 _ _ hl15 ?_) ?_
    · clear H hAt hl15; intro s5 r18 a w H hAt; unfold f_exact_plus_L1 at H; refine wp_seq ?_
      refine reg [⟨fV Rep.bool (cmpI .lss s5.2.2 (List.length o2.1 : Int)), [], [(22, none), (21, none)], []⟩] [1, 5, 6, 20, 21, 22, 23] [5] hAt
          ⟨ok_cmp (op := .lss) (by simp) rfl rfl opd0 opd1, trivial⟩ (by kernel_rfl) ?_
      clear hAt; intro a w hAt; replace hAt : At B h0 (mkG [(1, fV (Rep.slice r_u16) o2.2), (5, fV (Rep.slice r_u16) s5.1), (6, fV r_u32 s5.2.1), (20, fV (Rep.slice r_u16) o2.1), (21, fV r_i64 (List.length o2.1 : Int)), (22, fV r_i64 s5.2.2), (23, fV Rep.bool (cmpI .lss s5.2.2 (List.length o2.1 : Int)))]) (mkO [(5, tipE 35 r_u16.sz)]) F 56 a w := hAt; refine then_n ?_; refine wp_seq ?_
      refine wp_if hAt (by rfl) ?_ ?_
      · intro hb13; have H := iteT hb13 H; refine wp_skip ?_; refine then_n ?_; refine wp_seq ?_; refine wp_block ?_; refine wp_seq ?_; obtain ⟨v6, hv6, H⟩ := bindE H
        refine reg [⟨fV r_i64 s5.2.2, [], [(22, none)], []⟩,
            ⟨fRef r_u16 v6, [], [(20, none), (22, none)], []⟩,
            ⟨fV r_u16 v6, [], [(25, some 1)], []⟩,
            ⟨fV r_i64 s5.2.2, [], [(24, some 0)], []⟩,
            ⟨fV r_u16 v6, [], [(26, some 2)], []⟩] [1, 5, 6, 7, 8, 20, 21, 22] [5] hAt
            ⟨ok_move rfl opd0,
            ok_index ty35 un28 hv6 rfl opd0 opd1,
            ok_load ty35 rfl opd0,
            ok_assign rfl opd0,
            ok_assign rfl opd0, trivial⟩ (by kernel_rfl) ?_
        clear hAt; intro a w hAt; replace hAt : At B h0 (mkG [(1, fV (Rep.slice r_u16) o2.2), (5, fV (Rep.slice r_u16) s5.1), (6, fV r_u32 s5.2.1), (7, fV r_i64 s5.2.2), (8, fV r_u16 v6), (20, fV (Rep.slice r_u16) o2.1), (21, fV r_i64 (List.length o2.1 : Int)), (22, fV r_i64 s5.2.2)]) (mkO [(5, tipE 35 r_u16.sz)]) F 56 a w := hAt; refine then_n ?_; refine wp_seq ?_
        refine reg [⟨fV r_u32 s5.2.1, [], [(6, none)], []⟩,
            ⟨fV r_u16 v6, [], [(8, none)], []⟩,
            ⟨fV r_u32 (IntKind.u32.wrap v6), [], [(28, some 1)], []⟩,
            ⟨fV r_u32 (IntKind.u32.wrap (s5.2.1 + (IntKind.u32.wrap v6))), [], [(27, some 0), (29, some 2)], []⟩,
            ⟨fV r_u32 (IntKind.u32.wrap (s5.2.1 + (IntKind.u32.wrap v6))), [], [(30, some 3)], []⟩] [1, 5, 6, 7, 20, 21, 22] [5] hAt
            ⟨ok_move rfl opd0,
            ok_move rfl opd0,
            ok_conv un35 un154 rfl opd0,
            ok_add rfl opd0 opd1,
            ok_assign rfl opd0, trivial⟩ (by kernel_rfl) ?_
        clear hAt; intro a w hAt; replace hAt : At B h0 (mkG [(1, fV (Rep.slice r_u16) o2.2), (5, fV (Rep.slice r_u16) s5.1), (6, fV r_u32 (IntKind.u32.wrap (s5.2.1 + (IntKind.u32.wrap v6)))), (7, fV r_i64 s5.2.2), (20, fV (Rep.slice r_u16) o2.1), (21, fV r_i64 (List.length o2.1 : Int)), (22, fV r_i64 s5.2.2)]) (mkO [(5, tipE 35 r_u16.sz)]) F 56 a w := hAt; refine then_n ?_; refine wp_seq ?_
        obtain ⟨o9, hl10, H⟩ := bindE H; refine wp_mono (Q := (fun o e a w => (fun v => e = .normal ∧ At B h0 (mkG [(1, fV (Rep.slice r_u16) o2.2), (5, fV (Rep.slice r_u16) s5.1), (6, fV r_u32 v), (20, fV (Rep.slice r_u16) o2.1), (21, fV r_i64 (List.length o2.1 : Int)), (22, fV r_i64 s5.2.2)]) (mkO [(5, tipE 35 r_u16.sz)]) F 56 a w) o) o9) ?_ ?_
        · clear H; have H := hl10; clear hl10; refine wp_seq ?_
          refine reg [⟨fV r_i64 s5.2.2, [], [(7, none)], []⟩,
              ⟨fV (Rep.slice r_u16) o2.2, [], [(1, none)], []⟩,
              ⟨fV r_i64 (List.length o2.2 : Int), [], [(32, some 1)], []⟩,
              ⟨fV Rep.bool (cmpI .lss s5.2.2 (List.length o2.2 : Int)), [], [(31, some 0), (33, some 2)], []⟩] [1, 5, 6, 7, 20, 21, 22, 34] [5] hAt
              ⟨ok_move rfl opd0,
              ok_move rfl opd0,
              ok_len un28 rfl opd0,
              ok_cmp (op := .lss) (by simp) rfl rfl opd0 opd1, trivial⟩ (by kernel_rfl) ?_
          clear hAt; intro a w hAt
          replace hAt : At B h0 (mkG [(1, fV (Rep.slice r_u16) o2.2), (5, fV (Rep.slice r_u16) s5.1), (6, fV r_u32 (IntKind.u32.wrap (s5.2.1 + (IntKind.u32.wrap v6)))), (7, fV r_i64 s5.2.2), (20, fV (Rep.slice r_u16) o2.1), (21, fV r_i64 (List.length o2.1 : Int)), (22, fV r_i64 s5.2.2), (34, fV Rep.bool (cmpI .lss s5.2.2 (List.length o2.2 : Int)))]) (mkO [(5, tipE 35 r_u16.sz)]) F 56 a w := hAt
          refine then_n ?_; refine wp_if hAt (by rfl) ?_ ?_
          · intro hb8; have H := iteT hb8 H; obtain ⟨v7, hv7, H⟩ := bindE H
            refine reg [⟨fV r_u32 (IntKind.u32.wrap (s5.2.1 + (IntKind.u32.wrap v6))), [], [(6, none)], []⟩,
                ⟨fV (Rep.slice r_u16) o2.2, [], [(1, none)], []⟩,
                ⟨fV r_i64 s5.2.2, [], [(7, none)], []⟩,
                ⟨fRef r_u16 v7, [], [(36, some 1), (37, some 2)], []⟩,
                ⟨fV r_u16 v7, [], [(38, some 3)], []⟩,
                ⟨fV r_u32 (IntKind.u32.wrap v7), [], [(39, some 4)], []⟩,
                ⟨fV r_u32 (IntKind.u32.wrap ((IntKind.u32.wrap (s5.2.1 + (IntKind.u32.wrap v6))) + (IntKind.u32.wrap v7))), [], [(35, some 0), (40, some 5)], []⟩,
                ⟨fV r_u32 (IntKind.u32.wrap ((IntKind.u32.wrap (s5.2.1 + (IntKind.u32.wrap v6))) + (IntKind.u32.wrap v7))), [], [(41, some 6)], []⟩] [1, 5, 6, 20, 21, 22] [5] hAt
                ⟨ok_move rfl opd0,
                ok_move rfl opd0,
                ok_move rfl opd0,
                ok_index ty35 un28 hv7 rfl opd0 opd1,
                ok_load ty35 rfl opd0,
                ok_conv un35 un154 rfl opd0,
                ok_add rfl opd0 opd1,
                ok_assign rfl opd0, trivial⟩ (by kernel_rfl) ?_
            clear hAt; intro a w hAt; replace hAt : At B h0 (mkG [(1, fV (Rep.slice r_u16) o2.2), (5, fV (Rep.slice r_u16) s5.1), (6, fV r_u32 (IntKind.u32.wrap ((IntKind.u32.wrap (s5.2.1 + (IntKind.u32.wrap v6))) + (IntKind.u32.wrap v7)))), (20, fV (Rep.slice r_u16) o2.1), (21, fV r_i64 (List.length o2.1 : Int)), (22, fV r_i64 s5.2.2)]) (mkO [(5, tipE 35 r_u16.sz)]) F 56 a w := hAt
            cases H
            exact ⟨rfl, hAt.pick [1, 5, 6, 20, 21, 22] [5]⟩
          · intro hb8; have H := iteF hb8 H; refine wp_skip ?_
            cases H
            exact ⟨rfl, hAt.pick [1, 5, 6, 20, 21, 22] [5]⟩
        · clear hAt; intro e a w hp; obtain ⟨rfl, hAt⟩ := hp; refine then_n ?_; refine wp_seq ?_; obtain ⟨v11, hv11, H⟩ := bindE H
          refine reg [⟨fV (Rep.slice r_u16) s5.1, [(5, none), (42, some (tipE 35 r_u16.sz))], [(5, none)], [(5, none)]⟩,
              ⟨fV r_u32 o9, [], [(6, none)], []⟩,
              ⟨fV r_u16 (IntKind.u16.wrap o9), [], [(43, some 1)], []⟩,
              ⟨fV (Rep.slice r_u16) [(IntKind.u16.wrap o9)], [], [(44, some 2)], []⟩,
              ⟨fV (Rep.slice r_u16) v11, [(42, none), (46, some (tipE 35 r_u16.sz))], [(42, some 0), (45, some 3)], [(42, some 0)]⟩,
              ⟨fV (Rep.slice r_u16) v11, [(46, none), (5, some (tipE 35 r_u16.sz))], [(46, some 4)], [(46, some 4)]⟩] [1, 5, 6, 20, 21, 22] [5] hAt
              ⟨ok_moveOwn rfl rfl (.inl rfl) opd0,
              ok_move rfl opd0,
              ok_conv un154 un35 rfl opd0,
              ok_buildSlice ty35 un28 rfl rfl (fillC (Lens.arr _ _ 0 (by decide)) rfl opd0 fillN),
              ok_append hv11 el35 un28 rfl rfl rfl opd0 opd1,
              ok_moveOwn rfl rfl (.inr rfl) opd0, trivial⟩ (by kernel_rfl) ?_
          clear hAt; intro a w hAt; replace hAt : At B h0 (mkG [(1, fV (Rep.slice r_u16) o2.2), (5, fV (Rep.slice r_u16) v11), (6, fV r_u32 o9), (20, fV (Rep.slice r_u16) o2.1), (21, fV r_i64 (List.length o2.1 : Int)), (22, fV r_i64 s5.2.2)]) (mkO [(5, tipE 35 r_u16.sz)]) F 56 a w := hAt; refine then_n ?_; obtain ⟨v12, hv12, H⟩ := bindE H
          refine reg [⟨fV r_u32 o9, [], [(6, none)], []⟩,
              ⟨fV r_u32 v12, [], [(47, some 0)], []⟩,
              ⟨fV r_u32 v12, [], [(48, some 1)], []⟩] [1, 5, 6, 20, 21, 22] [5] hAt
              ⟨ok_move rfl opd0,
              ok_shr hv12 rfl opd0 opdI,
              ok_assign rfl opd0, trivial⟩ (by kernel_rfl) ?_
          clear hAt; intro a w hAt; replace hAt : At B h0 (mkG [(1, fV (Rep.slice r_u16) o2.2), (5, fV (Rep.slice r_u16) v11), (6, fV r_u32 v12), (20, fV (Rep.slice r_u16) o2.1), (21, fV r_i64 (List.length o2.1 : Int)), (22, fV r_i64 s5.2.2)]) (mkO [(5, tipE 35 r_u16.sz)]) F 56 a w := hAt; refine blk_n ?_; refine then_n ?_
          refine reg [⟨fV r_i64 (IntKind.i64.wrap (s5.2.2 + 1)), [], [(22, none)], []⟩,
              ⟨fV r_i64 (IntKind.i64.wrap (s5.2.2 + 1)), [], [(49, some 0)], []⟩] [1, 5, 6, 20, 21, 22] [5] hAt
              ⟨ok_add rfl opd0 opdI,
              ok_move rfl opd0, trivial⟩ (by kernel_rfl) ?_
          clear hAt; intro a w hAt; replace hAt : At B h0 (mkG [(1, fV (Rep.slice r_u16) o2.2), (5, fV (Rep.slice r_u16) v11), (6, fV r_u32 v12), (20, fV (Rep.slice r_u16) o2.1), (21, fV r_i64 (List.length o2.1 : Int)), (22, fV r_i64 (IntKind.i64.wrap (s5.2.2 + 1)))]) (mkO [(5, tipE 35 r_u16.sz)]) F 56 a w := hAt
          cases H
          exact ⟨rfl, hAt.pick [1, 5, 6, 20, 21, 22] [5]⟩
      · intro hb13; have H := iteF hb13 H; refine wp_exit ?_; refine then_x ?_
        cases H
        exact ⟨ex_ne, rfl, hAt.pick [5, 6] [5]⟩
    · exact hAt.pick [1, 5, 6, 20, 21, 22] [5]
    · clear hAt; intro e a w hp; obtain ⟨rfl, hAt⟩ := hp; refine blk_eq ?_; refine then_n ?_; refine wp_seq ?_; obtain ⟨v16, hv16, H⟩ := bindE H; obtain ⟨v17, hv17, H⟩ := bindE H
      refine reg [⟨fV (Rep.slice r_u16) o14.1, [(5, none), (50, some (tipE 35 r_u16.sz))], [(5, none)], [(5, none)]⟩,
          ⟨fV r_u32 o14.2, [], [(6, none)], []⟩,
          ⟨fV r_u16 (IntKind.u16.wrap o14.2), [], [(51, some 1)], []⟩,
          ⟨fV (Rep.slice r_u16) [(IntKind.u16.wrap o14.2)], [], [(52, some 2)], []⟩,
          ⟨fV (Rep.slice r_u16) v16, [(50, none), (54, some (tipE 35 r_u16.sz))], [(50, some 0), (53, some 3)], [(50, some 0)]⟩,
          ⟨fV (Rep.slice r_u16) v17, [], [(54, some 4)], []⟩,
          ⟨fV (Rep.slice r_u16) v17, [], [(55, some 5)], []⟩] [4] [] hAt
          ⟨ok_moveOwn rfl rfl (.inl rfl) opd0,
          ok_move rfl opd0,
          ok_conv un154 un35 rfl opd0,
          ok_buildSlice ty35 un28 rfl rfl (fillC (Lens.arr _ _ 0 (by decide)) rfl opd0 fillN),
          ok_append hv16 el35 un28 rfl rfl rfl opd0 opd1,
          ok_call (ok_f_exact_trim N v16 _ hv17) Try.func71 (by kernel_rfl) (by kernel_rfl) rfl ⟨opd0, trivial⟩,
          ok_assign rfl opd0, trivial⟩ (by kernel_rfl) ?_
      clear hAt; intro a w hAt; replace hAt : At B h0 (mkG [(4, fV (Rep.slice r_u16) v17)]) (mkO []) F 56 a w := hAt; refine then_n ?_; refine wp_ret ?_
      cases H
      exact ret1 rfl (rv_tmp rfl rfl) hAt
theorem ok_f_exact_minus (N : Nat) (x0 : (List Int)) (x1 : (List Int)) (r : (List Int)) (H : f_exact_minus N x0 x1 = some r) : FnOk Try.prog 101 [fV (Rep.slice r_u16) x0, fV (Rep.slice r_u16) x1] (fV (Rep.slice r_u16) r) := by
  unfold f_exact_minus at H; refine fn_enter Try.func101 rfl rfl (by kernel_rfl) ?_; intro κ B h0 F a w hAt; refine wp_seq ?_
  refine reg [⟨fV (Rep.slice r_u16) [], [(4, some (tipE 35 r_u16.sz))], [], []⟩] [0, 1] [] hAt
      ⟨ok_nilTip rfl (.inl rfl), trivial⟩ (by kernel_rfl) ?_
  clear hAt; intro a w hAt; replace hAt : At B h0 (mkG [(0, fV (Rep.slice r_u16) x0), (1, fV (Rep.slice r_u16) x1)]) (mkO []) F 50 a w := hAt; refine then_n ?_; refine wp_seq ?_; obtain ⟨v1, hv1, H⟩ := bindE H
  refine reg [⟨fV (Rep.slice r_u16) x0, [], [(0, none)], []⟩,
      ⟨fV r_i64 (List.length x0 : Int), [], [(10, some 0)], []⟩,
      ⟨Fact.triv, [(12, some (arrE 35 r_u16 v1))], [(11, some 1)], []⟩,
      ⟨Fact.triv, [(12, none), (5, some (arrE 35 r_u16 v1))], [], [(12, some 2)]⟩] [0, 1] [5] hAt
      ⟨ok_move rfl opd0,
      ok_len un28 rfl opd0,
      ok_makeArr hv1 el35 ty35 un28 rfl rfl opd0 opd0,
      (ok_moveOwn (f := Fact.triv) rfl rfl (.inr rfl) (fun _ _ _ => trivial)), trivial⟩ (by kernel_rfl) ?_
  clear hAt; intro a w hAt; replace hAt : At B h0 (mkG [(0, fV (Rep.slice r_u16) x0), (1, fV (Rep.slice r_u16) x1)]) (mkO [(5, arrE 35 r_u16 v1)]) F 50 a w := hAt; refine then_n ?_; refine wp_seq ?_
  refine reg [⟨fV r_u32 0, [], [], []⟩] [0, 1, 6] [5] hAt
      ⟨ok_assign rfl opdI, trivial⟩ (by kernel_rfl) ?_
  clear hAt; intro a w hAt; replace hAt : At B h0 (mkG [(0, fV (Rep.slice r_u16) x0), (1, fV (Rep.slice r_u16) x1), (6, fV r_u32 0)]) (mkO [(5, arrE 35 r_u16 v1)]) F 50 a w := hAt; refine then_n ?_; refine wp_seq ?_; refine wp_seq ?_
  refine reg [⟨fV (Rep.slice r_u16) x0, [], [(0, none)], []⟩,
      ⟨fV r_i64 (List.length x0 : Int), [], [(13, some 0)], []⟩,
      ⟨fV r_i64 0, [], [], []⟩] [1, 6, 13, 14, 15] [5] hAt
      ⟨ok_move rfl opd0,
      ok_len un28 rfl opd0,
      ok_move rfl opdI, trivial⟩ (by kernel_rfl) ?_
  clear hAt; intro a w hAt; replace hAt : At B h0 (mkG [(1, fV (Rep.slice r_u16) x1), (6, fV r_u32 0), (13, fV (Rep.slice r_u16) x0), (14, fV r_i64 (List.length x0 : Int)), (15, fV r_i64 0)]) (mkO [(5, arrE 35 r_u16 v1)]) F 50 a w := hAt; refine then_n ?_; refine wp_block ?_; obtain ⟨o14, hl15, H⟩ := bindE H
  refine wp_mono (wp_loopN (f := f_exact_minus_L1 N x0 x1) (fun (s2 : ((List Int) × Int × Int)) a w => At B h0 (mkG [(1, fV (Rep.slice r_u16) x1), (6, fV r_u32 s2.2.1), (13, fV (Rep.slice r_u16) x0), (14, fV r_i64 (List.length x0 : Int)), (15, fV r_i64 s2.2.2)]) (mkO [(5, arrE 35 r_u16 s2.1)]) F 50 a w) (fun o e a w => (fun v => e = .exit 0 ∧ At B h0 (mkG []) (mkO [(5, arrE 35 r_u16 v)]) F 50 a w) o) ?_ N (v1, 0, 0) o14 _ _ hl15 ?_) ?_
  · clear H hAt hl15; intro s2 r17 a w H hAt; unfold f_exact_minus_L1 at H; refine wp_seq ?_
    refine reg [⟨fV Rep.bool (cmpI .lss s2.2.2 (List.length x0 : Int)), [], [(15, none), (14, none)], []⟩] [1, 6, 13, 14, 15, 16] [5] hAt
        ⟨ok_cmp (op := .lss) (by simp) rfl rfl opd0 opd1, trivial⟩ (by kernel_rfl) ?_
    clear hAt; intro a w hAt; replace hAt : At B h0 (mkG [(1, fV (Rep.slice r_u16) x1), (6, fV r_u32 s2.2.1), (13, fV (Rep.slice r_u16) x0), (14, fV r_i64 (List.length x0 : Int)), (15, fV r_i64 s2.2.2), (16, fV Rep.bool (cmpI .lss s2.2.2 (List.length x0 : Int)))]) (mkO [(5, arrE 35 r_u16 s2.1)]) F 50 a w := hAt; refine then_n ?_; refine wp_seq ?_; refine wp_if hAt (by rfl) ?_ ?_
    · intro hb13; have H := iteT hb13 H; refine wp_skip ?_; refine then_n ?_; refine wp_seq ?_; refine wp_block ?_; refine wp_seq ?_; obtain ⟨v3, hv3, H⟩ := bindE H
      refine reg [⟨fV r_i64 s2.2.2, [], [(15, none)], []⟩,
          ⟨fRef r_u16 v3, [], [(13, none), (15, none)], []⟩,
          ⟨fV r_u16 v3, [], [(18, some 1)], []⟩,
          ⟨fV r_i64 s2.2.2, [], [(17, some 0)], []⟩,
          ⟨fV r_u16 v3, [], [(19, some 2)], []⟩] [1, 6, 7, 8, 13, 14, 15] [5] hAt
          ⟨ok_move rfl opd0,
          ok_index ty35 un28 hv3 rfl opd0 opd1,
          ok_load ty35 rfl opd0,
          ok_assign rfl opd0,
          ok_assign rfl opd0, trivial⟩ (by kernel_rfl) ?_
      clear hAt; intro a w hAt; replace hAt : At B h0 (mkG [(1, fV (Rep.slice r_u16) x1), (6, fV r_u32 s2.2.1), (7, fV r_i64 s2.2.2), (8, fV r_u16 v3), (13, fV (Rep.slice r_u16) x0), (14, fV r_i64 (List.length x0 : Int)), (15, fV r_i64 s2.2.2)]) (mkO [(5, arrE 35 r_u16 s2.1)]) F 50 a w := hAt; refine then_n ?_; refine wp_seq ?_
      refine reg [⟨fV r_u32 s2.2.1, [], [(6, none)], []⟩,
          ⟨fV r_u32 s2.2.1, [], [(20, some 0)], []⟩] [1, 7, 8, 9, 13, 14, 15] [5] hAt
          ⟨ok_move rfl opd0,
          ok_assign rfl opd0, trivial⟩ (by kernel_rfl) ?_
      clear hAt; intro a w hAt; replace hAt : At B h0 (mkG [(1, fV (Rep.slice r_u16) x1), (7, fV r_i64 s2.2.2), (8, fV r_u16 v3), (9, fV r_u32 s2.2.1), (13, fV (Rep.slice r_u16) x0), (14, fV r_i64 (List.length x0 : Int)), (15, fV r_i64 s2.2.2)]) (mkO [(5, arrE 35 r_u16 s2.1)]) F 50 a w := hAt; refine then_n ?_; refine wp_seq ?_; obtain ⟨o6, hl7, H⟩ := bindE H
      refine wp_mono (Q := (fun o e a w => (fun v => e = .normal ∧ At B h0 (mkG [(1, fV (Rep.slice r_u16) x1), (7, fV r_i64 s2.2.2), (8, fV r_u16 v3), (9, fV r_u32 v), (13, fV (Rep.slice r_u16) x0), (14, fV r_i64 (List.length x0 : Int)), (15, fV r_i64 s2.2.2)]) (mkO [(5, arrE 35 r_u16 s2.1)]) F 50 a w) o) o6) ?_ ?_
      · clear H; have H := hl7; clear hl7; refine wp_seq ?_
        refine reg [⟨fV r_i64 s2.2.2, [], [(7, none)], []⟩,
            ⟨fV (Rep.slice r_u16) x1, [], [(1, none)], []⟩,
            ⟨fV r_i64 (List.length x1 : Int), [], [(22, some 1)], []⟩,
            ⟨fV Rep.bool (cmpI .lss s2.2.2 (List.length x1 : Int)), [], [(21, some 0), (23, some 2)], []⟩] [1, 7, 8, 9, 13, 14, 15, 24] [5] hAt
            ⟨ok_move rfl opd0,
            ok_move rfl opd0,
            ok_len un28 rfl opd0,
            ok_cmp (op := .lss) (by simp) rfl rfl opd0 opd1, trivial⟩ (by kernel_rfl) ?_
        clear hAt; intro a w hAt; replace hAt : At B h0 (mkG [(1, fV (Rep.slice r_u16) x1), (7, fV r_i64 s2.2.2), (8, fV r_u16 v3), (9, fV r_u32 s2.2.1), (13, fV (Rep.slice r_u16) x0), (14, fV r_i64 (List.length x0 : Int)), (15, fV r_i64 s2.2.2), (24, fV Rep.bool (cmpI .lss s2.2.2 (List.length x1 : Int)))]) (mkO [(5, arrE 35 r_u16 s2.1)]) F 50 a w := hAt; refine then_n ?_; refine wp_if hAt (by rfl) ?_ ?_
        · intro hb5; have H := iteT hb5 H; obtain ⟨v4, hv4, H⟩ := bindE H
          refine reg [⟨fV r_u32 s2.2.1, [], [(9, none)], []⟩,
              ⟨fV (Rep.slice r_u16) x1, [], [(1, none)], []⟩,
              ⟨fV r_i64 s2.2.2, [], [(7, none)], []⟩,
              ⟨fRef r_u16 v4, [], [(26, some 1), (27, some 2)], []⟩,
              ⟨fV r_u16 v4, [], [(28, some 3)], []⟩,
              ⟨fV r_u32 (IntKind.u32.wrap v4), [], [(29, some 4)], []⟩,
              ⟨fV r_u32 (IntKind.u32.wrap (s2.2.1 + (IntKind.u32.wrap v4))), [], [(25, some 0), (30, some 5)], []⟩,
              ⟨fV r_u32 (IntKind.u32.wrap (s2.2.1 + (IntKind.u32.wrap v4))), [], [(31, some 6)], []⟩] [1, 7, 8, 9, 13, 14, 15] [5] hAt
              ⟨ok_move rfl opd0,
              ok_move rfl opd0,
              ok_move rfl opd0,
              ok_index ty35 un28 hv4 rfl opd0 opd1,
              ok_load ty35 rfl opd0,
              ok_conv un35 un154 rfl opd0,
              ok_add rfl opd0 opd1,
              ok_assign rfl opd0, trivial⟩ (by kernel_rfl) ?_
          clear hAt; intro a w hAt; replace hAt : At B h0 (mkG [(1, fV (Rep.slice r_u16) x1), (7, fV r_i64 s2.2.2), (8, fV r_u16 v3), (9, fV r_u32 (IntKind.u32.wrap (s2.2.1 + (IntKind.u32.wrap v4)))), (13, fV (Rep.slice r_u16) x0), (14, fV r_i64 (List.length x0 : Int)), (15, fV r_i64 s2.2.2)]) (mkO [(5, arrE 35 r_u16 s2.1)]) F 50 a w := hAt
          cases H
          exact ⟨rfl, hAt.pick [1, 7, 8, 9, 13, 14, 15] [5]⟩
        · intro hb5; have H := iteF hb5 H; refine wp_skip ?_
          cases H
          exact ⟨rfl, hAt.pick [1, 7, 8, 9, 13, 14, 15] [5]⟩
      · clear hAt; intro e a w hp; obtain ⟨rfl, hAt⟩ := hp; refine then_n ?_; refine wp_seq ?_
        refine reg [⟨fV r_u32 0, [], [], []⟩] [1, 6, 7, 8, 9, 13, 14, 15] [5] hAt
            ⟨ok_assign rfl opdI, trivial⟩ (by kernel_rfl) ?_
        clear hAt; intro a w hAt; replace hAt : At B h0 (mkG [(1, fV (Rep.slice r_u16) x1), (6, fV r_u32 0), (7, fV r_i64 s2.2.2), (8, fV r_u16 v3), (9, fV r_u32 o6), (13, fV (Rep.slice r_u16) x0), (14, fV r_i64 (List.length x0 : Int)), (15, fV r_i64 s2.2.2)]) (mkO [(5, arrE 35 r_u16 s2.1)]) F 50 a w := hAt; refine then_n ?_; refine wp_seq ?_; refine wp_seq ?_
        refine reg [⟨fV r_u16 v3, [], [(8, none)], []⟩,
            ⟨fV r_u32 (IntKind.u32.wrap v3), [], [(32, some 0)], []⟩,
            ⟨fV r_u32 o6, [], [(9, none)], []⟩,
            ⟨fV Rep.bool (cmpI .lss (IntKind.u32.wrap v3) o6), [], [(33, some 1), (34, some 2)], []⟩] [1, 6, 7, 8, 9, 13, 14, 15, 35] [5] hAt
            ⟨ok_move rfl opd0,
            ok_conv un35 un154 rfl opd0,
            ok_move rfl opd0,
            ok_cmp (op := .lss) (by simp) rfl rfl opd0 opd1, trivial⟩ (by kernel_rfl) ?_
        clear hAt; intro a w hAt; replace hAt : At B h0 (mkG [(1, fV (Rep.slice r_u16) x1), (6, fV r_u32 0), (7, fV r_i64 s2.2.2), (8, fV r_u16 v3), (9, fV r_u32 o6), (13, fV (Rep.slice r_u16) x0), (14, fV r_i64 (List.length x0 : Int)), (15, fV r_i64 s2.2.2), (35, fV Rep.bool (cmpI .lss (IntKind.u32.wrap v3) o6))]) (mkO [(5, arrE 35 r_u16 s2.1)]) F 50 a w := hAt; refine then_n ?_
        refine wp_if hAt (by rfl) ?_ ?_
        · intro hb12; have H := iteT hb12 H
          refine reg [⟨fV r_u32 1, [], [], []⟩] [1, 6, 7, 8, 9, 13, 14, 15] [5] hAt
              ⟨ok_assign rfl opdI, trivial⟩ (by kernel_rfl) ?_
          clear hAt; intro a w hAt; replace hAt : At B h0 (mkG [(1, fV (Rep.slice r_u16) x1), (6, fV r_u32 1), (7, fV r_i64 s2.2.2), (8, fV r_u16 v3), (9, fV r_u32 o6), (13, fV (Rep.slice r_u16) x0), (14, fV r_i64 (List.length x0 : Int)), (15, fV r_i64 s2.2.2)]) (mkO [(5, arrE 35 r_u16 s2.1)]) F 50 a w := hAt; refine then_n ?_; obtain ⟨v8, hv8, H⟩ := bindE H; obtain ⟨v9, hv9, H⟩ := bindE H
          refine reg [⟨fCp 5, [], [], []⟩,
              ⟨fV r_i64 s2.2.2, [], [(7, none)], []⟩,
              ⟨fV r_u16 v3, [], [(8, none)], []⟩,
              ⟨fV r_u32 (IntKind.u32.wrap v3), [], [(38, some 2)], []⟩,
              ⟨fV r_u32 1, [], [(6, none)], []⟩,
              ⟨fV r_u32 v8, [], [(40, some 4)], []⟩,
              ⟨fV r_u32 (IntKind.u32.wrap ((IntKind.u32.wrap v3) + v8)), [], [(39, some 3), (41, some 5)], []⟩,
              ⟨fV r_u32 o6, [], [(9, none)], []⟩,
              ⟨fV r_u32 (IntKind.u32.wrap ((IntKind.u32.wrap ((IntKind.u32.wrap v3) + v8)) - o6)), [], [(42, some 6), (43, some 7)], []⟩,
              ⟨fV r_u16 (IntKind.u16.wrap (IntKind.u32.wrap ((IntKind.u32.wrap ((IntKind.u32.wrap v3) + v8)) - o6))), [], [(44, some 8)], []⟩,
              ⟨fEl 5 ((Int.toNat s2.2.2) * r_u16.sz + 0), [], [(36, some 0), (37, some 1)], [(5, none)]⟩,
              ⟨Fact.triv, [(5, some (arrE 35 r_u16 (List.set s2.1 (Int.toNat s2.2.2) (IntKind.u16.wrap (IntKind.u32.wrap ((IntKind.u32.wrap ((IntKind.u32.wrap v3) + v8)) - o6))))))], [(46, some 10), (45, some 9)], [(5, none)]⟩] [1, 6, 13, 14, 15] [5] hAt
              ⟨ok_cp rfl,
              ok_move rfl opd0,
              ok_move rfl opd0,
              ok_conv un35 un154 rfl opd0,
              ok_move rfl opd0,
              ok_shl hv8 rfl opd0 opdI,
              ok_add rfl opd0 opd1,
              ok_move rfl opd0,
              ok_sub rfl opd0 opd1,
              ok_conv un154 un35 rfl opd0,
              ok_elArr hv9 ty35 un28 rfl opd0 opd1,
              ok_storeArr (idx_spec hv9).2.2 (Lens.refl _) ty35 rfl rfl opd0 opd1 rfl, trivial⟩ (by kernel_rfl) ?_
          clear hAt; intro a w hAt; replace hAt : At B h0 (mkG [(1, fV (Rep.slice r_u16) x1), (6, fV r_u32 1), (13, fV (Rep.slice r_u16) x0), (14, fV r_i64 (List.length x0 : Int)), (15, fV r_i64 s2.2.2)]) (mkO [(5, arrE 35 r_u16 (List.set s2.1 (Int.toNat s2.2.2) (IntKind.u16.wrap (IntKind.u32.wrap ((IntKind.u32.wrap ((IntKind.u32.wrap v3) + v8)) - o6)))))]) F 50 a w := hAt; refine blk_n ?_; refine then_n ?_
          refine reg [⟨fV r_i64 (IntKind.i64.wrap (s2.2.2 + 1)), [], [(15, none)], []⟩,
              ⟨fV r_i64 (IntKind.i64.wrap (s2.2.2 + 1)), [], [(47, some 0)], []⟩] [1, 6, 13, 14, 15] [5] hAt
              ⟨ok_add rfl opd0 opdI,
              ok_move rfl opd0, trivial⟩ (by kernel_rfl) ?_
          clear hAt; intro a w hAt; replace hAt : At B h0 (mkG [(1, fV (Rep.slice r_u16) x1), (6, fV r_u32 1), (13, fV (Rep.slice r_u16) x0), (14, fV r_i64 (List.length x0 : Int)), (15, fV r_i64 (IntKind.i64.wrap (s2.2.2 + 1)))]) (mkO [(5, arrE 35 r_u16 (List.set s2.1 (Int.toNat s2.2.2) (IntKind.u16.wrap (IntKind.u32.wrap ((IntKind.u32.wrap ((IntKind.u32.wrap v3) + v8)) - o6)))))]) F 50 a w := hAt
          cases H
          exact ⟨rfl, hAt.pick [1, 6, 13, 14, 15] [5]⟩
        · intro hb12; have H := iteF hb12 H; refine wp_skip ?_; refine then_n ?_; obtain ⟨v10, hv10, H⟩ := bindE H; obtain ⟨v11, hv11, H⟩ := bindE H
          refine reg [⟨fCp 5, [], [], []⟩,
              ⟨fV r_i64 s2.2.2, [], [(7, none)], []⟩,
              ⟨fV r_u16 v3, [], [(8, none)], []⟩,
              ⟨fV r_u32 (IntKind.u32.wrap v3), [], [(38, some 2)], []⟩,
              ⟨fV r_u32 0, [], [(6, none)], []⟩,
              ⟨fV r_u32 v10, [], [(40, some 4)], []⟩,
              ⟨fV r_u32 (IntKind.u32.wrap ((IntKind.u32.wrap v3) + v10)), [], [(39, some 3), (41, some 5)], []⟩,
              ⟨fV r_u32 o6, [], [(9, none)], []⟩,
              ⟨fV r_u32 (IntKind.u32.wrap ((IntKind.u32.wrap ((IntKind.u32.wrap v3) + v10)) - o6)), [], [(42, some 6), (43, some 7)], []⟩,
              ⟨fV r_u16 (IntKind.u16.wrap (IntKind.u32.wrap ((IntKind.u32.wrap ((IntKind.u32.wrap v3) + v10)) - o6))), [], [(44, some 8)], []⟩,
              ⟨fEl 5 ((Int.toNat s2.2.2) * r_u16.sz + 0), [], [(36, some 0), (37, some 1)], [(5, none)]⟩,
              ⟨Fact.triv, [(5, some (arrE 35 r_u16 (List.set s2.1 (Int.toNat s2.2.2) (IntKind.u16.wrap (IntKind.u32.wrap ((IntKind.u32.wrap ((IntKind.u32.wrap v3) + v10)) - o6))))))], [(46, some 10), (45, some 9)], [(5, none)]⟩] [1, 6, 13, 14, 15] [5] hAt
              ⟨ok_cp rfl,
              ok_move rfl opd0,
              ok_move rfl opd0,
              ok_conv un35 un154 rfl opd0,
              ok_move rfl opd0,
              ok_shl hv10 rfl opd0 opdI,
              ok_add rfl opd0 opd1,
              ok_move rfl opd0,
              ok_sub rfl opd0 opd1,
              ok_conv un154 un35 rfl opd0,
              ok_elArr hv11 ty35 un28 rfl opd0 opd1,
              ok_storeArr (idx_spec hv11).2.2 (Lens.refl _) ty35 rfl rfl opd0 opd1 rfl, trivial⟩ (by kernel_rfl) ?_
          clear hAt; intro a w hAt; replace hAt : At B h0 (mkG [(1, fV (Rep.slice r_u16) x1), (6, fV r_u32 0), (13, fV (Rep.slice r_u16) x0), (14, fV r_i64 (List.length x0 : Int)), (15, fV r_i64 s2.2.2)]) (mkO [(5, arrE 35 r_u16 (List.set s2.1 (Int.toNat s2.2.2) (IntKind.u16.wrap (IntKind.u32.wrap ((IntKind.u32.wrap ((IntKind.u32.wrap v3) + v10)) - o6)))))]) F 50 a w := hAt; refine blk_n ?_; refine then_n ?_
          refine reg [⟨fV r_i64 (IntKind.i64.wrap (s2.2.2 + 1)), [], [(15, none)], []⟩,
              ⟨fV r_i64 (IntKind.i64.wrap (s2.2.2 + 1)), [], [(47, some 0)], []⟩] [1, 6, 13, 14, 15] [5] hAt
              ⟨ok_add rfl opd0 opdI,
              ok_move rfl opd0, trivial⟩ (by kernel_rfl) ?_
          clear hAt; intro a w hAt; replace hAt : At B h0 (mkG [(1, fV (Rep.slice r_u16) x1), (6, fV r_u32 0), (13, fV (Rep.slice r_u16) x0), (14, fV r_i64 (List.length x0 : Int)), (15, fV r_i64 (IntKind.i64.wrap (s2.2.2 + 1)))]) (mkO [(5, arrE 35 r_u16 (List.set s2.1 (Int.toNat s2.2.2) (IntKind.u16.wrap (IntKind.u32.wrap ((IntKind.u32.wrap ((IntKind.u32.wrap v3) + v10)) - o6)))))]) F 50 a w := hAt
          cases H
          exact ⟨rfl, hAt.pick [1, 6, 13, 14, 15] [5]⟩
    · intro hb13; have H := iteF hb13 H; refine wp_exit ?_; refine then_x ?_
      cases H
      exact ⟨ex_ne, rfl, hAt.pick [] [5]⟩
  · exact hAt.pick [1, 6, 13, 14, 15] [5]
  · clear hAt; intro e a w hp; obtain ⟨rfl, hAt⟩ := hp; refine blk_eq ?_; refine then_n ?_; refine wp_seq ?_; have hAt := At.freeze 5 hAt rfl; replace hAt := hAt.pick [5] []; replace hAt : At B h0 (mkG [(5, fV (Rep.slice r_u16) o14)]) (mkO []) F 50 a w := hAt; obtain ⟨v16, hv16, H⟩ := bindE H
    refine reg [⟨fV (Rep.slice r_u16) o14, [], [(5, none)], []⟩,
        ⟨fV (Rep.slice r_u16) v16, [], [(48, some 0)], []⟩,
        ⟨fV (Rep.slice r_u16) v16, [], [(49, some 1)], []⟩] [4] [] hAt
        ⟨ok_move rfl opd0,
        ok_call (ok_f_exact_trim N o14 _ hv16) Try.func71 (by kernel_rfl) (by kernel_rfl) rfl ⟨opd0, trivial⟩,
        ok_assign rfl opd0, trivial⟩ (by kernel_rfl) ?_
    clear hAt; intro a w hAt; replace hAt : At B h0 (mkG [(4, fV (Rep.slice r_u16) v16)]) (mkO []) F 50 a w := hAt; refine then_n ?_; refine wp_ret ?_
    cases H
    exact ret1 rfl (rv_tmp rfl rfl) hAt
end Go.KB
