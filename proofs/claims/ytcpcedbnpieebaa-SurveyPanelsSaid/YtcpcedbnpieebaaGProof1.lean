/- The Go functions compute what the plain functions compute. Printed by a program. No condition. -/
import Derived.Test.YtcpcedbnpieebaaGProof0
namespace Go.KB
open Go.Proofs
set_option maxRecDepth 100000
set_option linter.unusedVariables false
theorem ok_f_exact_digit (N : Nat) (x0 : (List Int)) (x1 : (List Int)) (r : Int) (H : f_exact_digit N x0 x1 = some r) : FnOk Try.prog 174 [fV (Rep.slice r_u16) x0, fV (Rep.slice r_u16) x1] (fV r_u16 r) := by
  unfold f_exact_digit at H
  refine fn_enter Try.func174 rfl rfl (by kernel_rfl) ?_
  intro κ B h0 F a w hAt
  refine wp_seq ?_
  refine reg [⟨fV r_u16 0, [], [], []⟩] [0, 1] [] hAt
      ⟨ok_assign rfl opdI, trivial⟩ (by kernel_rfl) ?_
  clear hAt
  intro a w hAt
  replace hAt : At B h0 (mkG [(0, fV (Rep.slice r_u16) x0), (1, fV (Rep.slice r_u16) x1)]) (mkO []) F 161 a w := hAt
  refine then_n ?_
  refine wp_seq ?_
  refine reg [⟨fV (Rep.slice r_u16) x1, [], [(1, none)], []⟩,
      ⟨fV r_i64 (List.length x1 : Int), [], [(16, some 0)], []⟩,
      ⟨fV r_i64 (List.length x1 : Int), [], [(17, some 1)], []⟩] [0, 1, 5] [] hAt
      ⟨ok_move rfl opd0,
      ok_len un45 rfl opd0,
      ok_assign rfl opd0, trivial⟩ (by kernel_rfl) ?_
  clear hAt
  intro a w hAt
  replace hAt : At B h0 (mkG [(0, fV (Rep.slice r_u16) x0), (1, fV (Rep.slice r_u16) x1), (5, fV r_i64 (List.length x1 : Int))]) (mkO []) F 161 a w := hAt
  refine then_n ?_
  refine wp_seq ?_
  obtain ⟨v1, hv1, H⟩ := bindE H
  obtain ⟨v2, hv2, H⟩ := bindE H
  obtain ⟨v3, hv3, H⟩ := bindE H
  refine regd [⟨fV (Rep.slice r_u16) x0, [], [(0, none)], []⟩,
      ⟨fV r_i64 (List.length x1 : Int), [], [(5, none)], []⟩,
      ⟨fRef r_u16 v1, [], [(18, some 0), (19, some 1)], []⟩,
      ⟨fV r_u16 v1, [], [(20, some 2)], []⟩,
      ⟨fV r_u64 (IntKind.u64.wrap v1), [], [(21, some 3)], []⟩,
      ⟨fV r_u64 v2, [], [(22, some 4)], []⟩,
      ⟨fV (Rep.slice r_u16) x0, [], [(0, none)], []⟩,
      ⟨fV r_i64 (List.length x1 : Int), [], [(5, none)], []⟩,
      ⟨fV r_i64 (IntKind.i64.wrap ((List.length x1 : Int) - 1)), [], [(25, some 7)], []⟩,
      ⟨fRef r_u16 v3, [], [(24, some 6), (26, some 8)], []⟩,
      ⟨fV r_u16 v3, [], [(27, some 9)], []⟩,
      ⟨fV r_u64 (IntKind.u64.wrap v3), [], [(28, some 10)], []⟩,
      ⟨fV r_u64 (bitI .or .u64 v2 (IntKind.u64.wrap v3)), [], [(23, some 5), (29, some 11)], []⟩,
      ⟨fV r_u64 (bitI .or .u64 v2 (IntKind.u64.wrap v3)), [], [(30, some 12)], []⟩] [0, 1, 2, 3, 4, 5, 6, 7, 8, 9, 10, 11, 12, 13] [0, 1, 2, 3, 4, 5, 6, 7, 8, 9, 10, 11, 12, 13] [0, 1, 5, 6] [] hAt
      ⟨ok_move rfl opd0,
      ok_move rfl opd0,
      ok_index ty103 un45 hv1 rfl opd0 opd1,
      ok_load ty103 rfl opd0,
      ok_conv un103 un186 rfl opd0,
      ok_shl hv2 rfl opd0 opdI,
      ok_move rfl opd0,
      ok_move rfl opd0,
      ok_sub rfl opd0 opdI,
      ok_index ty103 un45 hv3 rfl opd0 opd1,
      ok_load ty103 rfl opd0,
      ok_conv un103 un186 rfl opd0,
      ok_bit (op := .or) (by simp) rfl opd0 opd1,
      ok_assign rfl opd0, trivial⟩ (by kernel_rfl) ?_
  clear hAt
  intro a w hAt
  replace hAt : At B h0 (mkG [(0, fV (Rep.slice r_u16) x0), (1, fV (Rep.slice r_u16) x1), (5, fV r_i64 (List.length x1 : Int)), (6, fV r_u64 (bitI .or .u64 v2 (IntKind.u64.wrap v3)))]) (mkO []) F 161 a w := hAt
  refine then_n ?_
  refine wp_seq ?_
  obtain ⟨v4, hv4, H⟩ := bindE H
  obtain ⟨v5, hv5, H⟩ := bindE H
  obtain ⟨v6, hv6, H⟩ := bindE H
  obtain ⟨v7, hv7, H⟩ := bindE H
  refine regd [⟨fV r_u64 (bitI .or .u64 v2 (IntKind.u64.wrap v3)), [], [(6, none)], []⟩,
      ⟨fV (Rep.slice r_u16) x1, [], [(1, none)], []⟩,
      ⟨fV r_i64 (List.length x1 : Int), [], [(5, none)], []⟩,
      ⟨fV r_i64 (IntKind.i64.wrap ((List.length x1 : Int) - 1)), [], [(33, some 2)], []⟩,
      ⟨fRef r_u16 v4, [], [(32, some 1), (34, some 3)], []⟩,
      ⟨fV r_u16 v4, [], [(35, some 4)], []⟩,
      ⟨fV r_u64 (IntKind.u64.wrap v4), [], [(36, some 5)], []⟩,
      ⟨fV r_u64 v5, [], [(31, some 0), (37, some 6)], []⟩,
      ⟨fV r_u64 (bitI .or .u64 v2 (IntKind.u64.wrap v3)), [], [(6, none)], []⟩,
      ⟨fV (Rep.slice r_u16) x1, [], [(1, none)], []⟩,
      ⟨fV r_i64 (List.length x1 : Int), [], [(5, none)], []⟩,
      ⟨fV r_i64 (IntKind.i64.wrap ((List.length x1 : Int) - 1)), [], [(41, some 10)], []⟩,
      ⟨fRef r_u16 v6, [], [(40, some 9), (42, some 11)], []⟩,
      ⟨fV r_u16 v6, [], [(43, some 12)], []⟩,
      ⟨fV r_u64 (IntKind.u64.wrap v6), [], [(44, some 13)], []⟩,
      ⟨fV r_u64 v7, [], [(39, some 8), (45, some 14)], []⟩,
      ⟨fV r_u64 v5, [], [(38, some 7)], []⟩,
      ⟨fV r_u64 v7, [], [(46, some 15)], []⟩] [0, 1, 2, 3, 4, 5, 6, 7, 8, 9, 10, 11, 12, 13, 14, 15, 16, 17] [0, 1, 2, 3, 4, 5, 6, 7, 16, 8, 9, 10, 11, 12, 13, 14, 15, 17] [0, 1, 5, 7, 8] [] hAt
      ⟨ok_move rfl opd0,
      ok_move rfl opd0,
      ok_move rfl opd0,
      ok_sub rfl opd0 opdI,
      ok_index ty103 un45 hv4 rfl opd0 opd1,
      ok_load ty103 rfl opd0,
      ok_conv un103 un186 rfl opd0,
      ok_quo hv5 rfl opd0 opd1,
      ok_move rfl opd0,
      ok_move rfl opd0,
      ok_move rfl opd0,
      ok_sub rfl opd0 opdI,
      ok_index ty103 un45 hv6 rfl opd0 opd1,
      ok_load ty103 rfl opd0,
      ok_conv un103 un186 rfl opd0,
      ok_rem hv7 rfl opd0 opd1,
      ok_assign rfl opd0,
      ok_assign rfl opd0, trivial⟩ (by kernel_rfl) ?_
  clear hAt
  intro a w hAt
  replace hAt : At B h0 (mkG [(0, fV (Rep.slice r_u16) x0), (1, fV (Rep.slice r_u16) x1), (5, fV r_i64 (List.length x1 : Int)), (7, fV r_u64 v5), (8, fV r_u64 v7)]) (mkO []) F 161 a w := hAt
  refine then_n ?_
  refine wp_seq ?_
  refine wp_block ?_
  obtain ⟨o14, hl15, H⟩ := bindE H
  refine wp_mono (wp_loopN (f := f_exact_digit_L3 N x0 x1) (fun (s8 : (Int × Int)) a w => At B h0 (mkG [(0, fV (Rep.slice r_u16) x0), (1, fV (Rep.slice r_u16) x1), (5, fV r_i64 (List.length x1 : Int)), (7, fV r_u64 s8.1), (8, fV r_u64 s8.2)]) (mkO []) F 161 a w) (fun o e a w => (fun v => e = .exit 0 ∧ At B h0 (mkG [(0, fV (Rep.slice r_u16) x0), (1, fV (Rep.slice r_u16) x1), (5, fV r_i64 (List.length x1 : Int)), (7, fV r_u64 v)]) (mkO []) F 161 a w) o) ?_ N (v5, v7) o14 _ _ hl15 ?_) ?_
  · clear H hAt hl15
    intro s8 r39 a w H hAt
    unfold f_exact_digit_L3 at H
    refine wp_seq ?_
    refine wp_seq ?_
    obtain ⟨v9, hv9, H⟩ := bindE H
    obtain ⟨v10, hv10, H⟩ := bindE H
    obtain ⟨v11, hv11, H⟩ := bindE H
    refine regd [⟨fV r_u64 s8.2, [], [(8, none)], []⟩,
        ⟨fV Rep.bool (cmpI .lss s8.2 65536), [], [(47, some 0)], []⟩,
        ⟨fV Rep.bool (cmpI .lss s8.2 65536), [], [(48, some 1)], []⟩,
        ⟨Fact.when ((cmpI .lss s8.2 65536) = true) (fV r_u64 s8.1), [], [(49, some 2), (7, none)], []⟩,
        ⟨Fact.when ((cmpI .lss s8.2 65536) = true) (fV Rep.bool (cmpI .gtr s8.1 65535)), [], [(49, some 2), (50, some 3)], []⟩,
        ⟨Fact.when ((cmpI .lss s8.2 65536) = true) (fV Rep.bool (cmpI .gtr s8.1 65535)), [], [(49, some 2), (51, some 4)], []⟩,
        ⟨Fact.when (((cmpI .lss s8.2 65536) && (!(cmpI .gtr s8.1 65535))) = true) (fV r_u64 s8.1), [], [(52, some 5), (7, none)], []⟩,
        ⟨Fact.when (((cmpI .lss s8.2 65536) && (!(cmpI .gtr s8.1 65535))) = true) (fV (Rep.slice r_u16) x1), [], [(52, some 5), (1, none)], []⟩,
        ⟨Fact.when (((cmpI .lss s8.2 65536) && (!(cmpI .gtr s8.1 65535))) = true) (fV r_i64 (List.length x1 : Int)), [], [(52, some 5), (5, none)], []⟩,
        ⟨Fact.when (((cmpI .lss s8.2 65536) && (!(cmpI .gtr s8.1 65535))) = true) (fV r_i64 (IntKind.i64.wrap ((List.length x1 : Int) - 2))), [], [(52, some 5), (55, some 8)], []⟩,
        ⟨Fact.when (((cmpI .lss s8.2 65536) && (!(cmpI .gtr s8.1 65535))) = true) (fRef r_u16 v9), [], [(52, some 5), (54, some 7), (56, some 9)], []⟩,
        ⟨Fact.when (((cmpI .lss s8.2 65536) && (!(cmpI .gtr s8.1 65535))) = true) (fV r_u16 v9), [], [(52, some 5), (57, some 10)], []⟩,
        ⟨Fact.when (((cmpI .lss s8.2 65536) && (!(cmpI .gtr s8.1 65535))) = true) (fV r_u64 (IntKind.u64.wrap v9)), [], [(52, some 5), (58, some 11)], []⟩,
        ⟨Fact.when (((cmpI .lss s8.2 65536) && (!(cmpI .gtr s8.1 65535))) = true) (fV r_u64 (IntKind.u64.wrap (s8.1 * (IntKind.u64.wrap v9)))), [], [(52, some 5), (53, some 6), (59, some 12)], []⟩,
        ⟨Fact.when (((cmpI .lss s8.2 65536) && (!(cmpI .gtr s8.1 65535))) = true) (fV r_u64 s8.2), [], [(52, some 5), (8, none)], []⟩,
        ⟨Fact.when (((cmpI .lss s8.2 65536) && (!(cmpI .gtr s8.1 65535))) = true) (fV r_u64 v10), [], [(52, some 5), (61, some 14)], []⟩,
        ⟨Fact.when (((cmpI .lss s8.2 65536) && (!(cmpI .gtr s8.1 65535))) = true) (fV (Rep.slice r_u16) x0), [], [(52, some 5), (0, none)], []⟩,
        ⟨Fact.when (((cmpI .lss s8.2 65536) && (!(cmpI .gtr s8.1 65535))) = true) (fV r_i64 (List.length x1 : Int)), [], [(52, some 5), (5, none)], []⟩,
        ⟨Fact.when (((cmpI .lss s8.2 65536) && (!(cmpI .gtr s8.1 65535))) = true) (fV r_i64 (IntKind.i64.wrap ((List.length x1 : Int) - 2))), [], [(52, some 5), (64, some 17)], []⟩,
        ⟨Fact.when (((cmpI .lss s8.2 65536) && (!(cmpI .gtr s8.1 65535))) = true) (fRef r_u16 v11), [], [(52, some 5), (63, some 16), (65, some 18)], []⟩,
        ⟨Fact.when (((cmpI .lss s8.2 65536) && (!(cmpI .gtr s8.1 65535))) = true) (fV r_u16 v11), [], [(52, some 5), (66, some 19)], []⟩,
        ⟨Fact.when (((cmpI .lss s8.2 65536) && (!(cmpI .gtr s8.1 65535))) = true) (fV r_u64 (IntKind.u64.wrap v11)), [], [(52, some 5), (67, some 20)], []⟩,
        ⟨Fact.when (((cmpI .lss s8.2 65536) && (!(cmpI .gtr s8.1 65535))) = true) (fV r_u64 (bitI .or .u64 v10 (IntKind.u64.wrap v11))), [], [(52, some 5), (62, some 15), (68, some 21)], []⟩,
        ⟨Fact.when (((cmpI .lss s8.2 65536) && (!(cmpI .gtr s8.1 65535))) = true) (fV Rep.bool (cmpI .gtr (IntKind.u64.wrap (s8.1 * (IntKind.u64.wrap v9))) (bitI .or .u64 v10 (IntKind.u64.wrap v11)))), [], [(52, some 5), (60, some 13), (69, some 22)], []⟩,
        ⟨Fact.when ((cmpI .lss s8.2 65536) = true) (fV Rep.bool ((cmpI .gtr s8.1 65535) || (cmpI .gtr (IntKind.u64.wrap (s8.1 * (IntKind.u64.wrap v9))) (bitI .or .u64 v10 (IntKind.u64.wrap v11))))), [], [(49, some 2), (52, some 5), (70, some 23)], []⟩,
        ⟨fV Rep.bool ((cmpI .lss s8.2 65536) && ((cmpI .gtr s8.1 65535) || (cmpI .gtr (IntKind.u64.wrap (s8.1 * (IntKind.u64.wrap v9))) (bitI .or .u64 v10 (IntKind.u64.wrap v11))))), [], [(49, some 2), (71, some 24)], []⟩] [0, 1, 2, 3, 4, 5, 6, 7, 8, 9, 10, 11, 12, 13, 14, 15, 16, 17, 18, 19, 20, 21, 22, 23, 24, 25] [0, 1, 2, 3, 4, 5, 6, 7, 8, 9, 10, 11, 12, 13, 14, 15, 16, 17, 18, 19, 20, 21, 22, 23, 24, 25] [0, 1, 5, 7, 8, 72] [] hAt
        ⟨ok_move rfl opd0,
        ok_cmp (op := .lss) (by simp) rfl rfl opd0 opdI,
        ok_move rfl opd0,
        obl_tt rfl rfl rfl rfl rfl rfl rfl (fun hg => ok_move rfl opd1),
        obl_tt rfl rfl rfl rfl rfl rfl rfl (fun hg => ok_cmp (op := .gtr) (by simp) rfl rfl (opd1.on hg) opdI),
        obl_tt rfl rfl rfl rfl rfl rfl rfl (fun hg => ok_move rfl (opd1.on hg)),
        obl_wf rfl rfl rfl rfl rfl rfl rfl (fun hg => ok_move rfl opd1),
        obl_wf rfl rfl rfl rfl rfl rfl rfl (fun hg => ok_move rfl opd1),
        obl_wf rfl rfl rfl rfl rfl rfl rfl (fun hg => ok_move rfl opd1),
        obl_wf rfl rfl rfl rfl rfl rfl rfl (fun hg => ok_sub rfl (opd1.on hg) opdI),
        obl_wf rfl rfl rfl rfl rfl rfl rfl (fun hg => ok_index ty103 un45 (iteT hg hv9) rfl (opd1.on hg) (opd2.on hg)),
        obl_wf rfl rfl rfl rfl rfl rfl rfl (fun hg => ok_load ty103 rfl (opd1.on hg)),
        obl_wf rfl rfl rfl rfl rfl rfl rfl (fun hg => ok_conv un103 un186 rfl (opd1.on hg)),
        obl_wf rfl rfl rfl rfl rfl rfl rfl (fun hg => ok_mul rfl (opd1.on hg) (opd2.on hg)),
        obl_wf rfl rfl rfl rfl rfl rfl rfl (fun hg => ok_move rfl opd1),
        obl_wf rfl rfl rfl rfl rfl rfl rfl (fun hg => ok_shl (iteT hg hv10) rfl (opd1.on hg) opdI),
        obl_wf rfl rfl rfl rfl rfl rfl rfl (fun hg => ok_move rfl opd1),
        obl_wf rfl rfl rfl rfl rfl rfl rfl (fun hg => ok_move rfl opd1),
        obl_wf rfl rfl rfl rfl rfl rfl rfl (fun hg => ok_sub rfl (opd1.on hg) opdI),
        obl_wf rfl rfl rfl rfl rfl rfl rfl (fun hg => ok_index ty103 un45 (iteT hg hv11) rfl (opd1.on hg) (opd2.on hg)),
        obl_wf rfl rfl rfl rfl rfl rfl rfl (fun hg => ok_load ty103 rfl (opd1.on hg)),
        obl_wf rfl rfl rfl rfl rfl rfl rfl (fun hg => ok_conv un103 un186 rfl (opd1.on hg)),
        obl_wf rfl rfl rfl rfl rfl rfl rfl (fun hg => ok_bit (op := .or) (by simp) rfl (opd1.on hg) (opd2.on hg)),
        obl_wf rfl rfl rfl rfl rfl rfl rfl (fun hg => ok_cmp (op := .gtr) (by simp) rfl rfl (opd1.on hg) (opd2.on hg)),
        obl_tt rfl rfl rfl rfl rfl rfl rfl (fun hg => ok_or rfl (opd1.on hg) (fun e => (opd2.on (andT hg (notT e))))),
        ok_and rfl opd0 (fun e => (opd1.on e)), trivial⟩ (by kernel_rfl) ?_
    clear hAt
    intro a w hAt
    replace hAt : At B h0 (mkG [(0, fV (Rep.slice r_u16) x0), (1, fV (Rep.slice r_u16) x1), (5, fV r_i64 (List.length x1 : Int)), (7, fV r_u64 s8.1), (8, fV r_u64 s8.2), (72, fV Rep.bool ((cmpI .lss s8.2 65536) && ((cmpI .gtr s8.1 65535) || (cmpI .gtr (IntKind.u64.wrap (s8.1 * (IntKind.u64.wrap v9))) (bitI .or .u64 v10 (IntKind.u64.wrap v11))))))]) (mkO []) F 161 a w := hAt
    refine then_n ?_
    refine wp_if hAt (by rfl) ?_ ?_
    · intro hb13
      have H := iteT hb13 H
      refine wp_skip ?_
      refine then_n ?_
      refine wp_block ?_
      refine wp_seq ?_
      refine reg [⟨fV r_u64 s8.1, [], [(7, none)], []⟩,
          ⟨fV r_u64 (IntKind.u64.wrap (s8.1 - 1)), [], [(73, some 0)], []⟩,
          ⟨fV r_u64 (IntKind.u64.wrap (s8.1 - 1)), [], [(74, some 1)], []⟩] [0, 1, 5, 7, 8] [] hAt
          ⟨ok_move rfl opd0,
          ok_sub rfl opd0 opdI,
          ok_assign rfl opd0, trivial⟩ (by kernel_rfl) ?_
      clear hAt
      intro a w hAt
      replace hAt : At B h0 (mkG [(0, fV (Rep.slice r_u16) x0), (1, fV (Rep.slice r_u16) x1), (5, fV r_i64 (List.length x1 : Int)), (7, fV r_u64 (IntKind.u64.wrap (s8.1 - 1))), (8, fV r_u64 s8.2)]) (mkO []) F 161 a w := hAt
      refine then_n ?_
      obtain ⟨v12, hv12, H⟩ := bindE H
      refine reg [⟨fV r_u64 s8.2, [], [(8, none)], []⟩,
          ⟨fV (Rep.slice r_u16) x1, [], [(1, none)], []⟩,
          ⟨fV r_i64 (List.length x1 : Int), [], [(5, none)], []⟩,
          ⟨fV r_i64 (IntKind.i64.wrap ((List.length x1 : Int) - 1)), [], [(77, some 2)], []⟩,
          ⟨fRef r_u16 v12, [], [(76, some 1), (78, some 3)], []⟩,
          ⟨fV r_u16 v12, [], [(79, some 4)], []⟩,
          ⟨fV r_u64 (IntKind.u64.wrap v12), [], [(80, some 5)], []⟩,
          ⟨fV r_u64 (IntKind.u64.wrap (s8.2 + (IntKind.u64.wrap v12))), [], [(75, some 0), (81, some 6)], []⟩,
          ⟨fV r_u64 (IntKind.u64.wrap (s8.2 + (IntKind.u64.wrap v12))), [], [(82, some 7)], []⟩] [0, 1, 5, 7, 8] [] hAt
          ⟨ok_move rfl opd0,
          ok_move rfl opd0,
          ok_move rfl opd0,
          ok_sub rfl opd0 opdI,
          ok_index ty103 un45 hv12 rfl opd0 opd1,
          ok_load ty103 rfl opd0,
          ok_conv un103 un186 rfl opd0,
          ok_add rfl opd0 opd1,
          ok_assign rfl opd0, trivial⟩ (by kernel_rfl) ?_
      clear hAt
      intro a w hAt
      replace hAt : At B h0 (mkG [(0, fV (Rep.slice r_u16) x0), (1, fV (Rep.slice r_u16) x1), (5, fV r_i64 (List.length x1 : Int)), (7, fV r_u64 (IntKind.u64.wrap (s8.1 - 1))), (8, fV r_u64 (IntKind.u64.wrap (s8.2 + (IntKind.u64.wrap v12))))]) (mkO []) F 161 a w := hAt
      refine blk_n ?_
      cases H
      exact ⟨rfl, hAt.pick [0, 1, 5, 7, 8] []⟩
    · intro hb13
      have H := iteF hb13 H
      refine wp_exit ?_
      refine then_x ?_
      cases H
      exact ⟨ex_ne, rfl, hAt.pick [0, 1, 5, 7] []⟩
  · exact hAt.pick [0, 1, 5, 7, 8] []
  · clear hAt
    intro e a w hp
    obtain ⟨rfl, hAt⟩ := hp
    refine blk_eq ?_
    refine then_n ?_
    refine wp_seq ?_
    refine reg [⟨fV r_u64 0, [], [], []⟩,
        ⟨fV r_i64 0, [], [], []⟩] [0, 1, 5, 7, 9, 10] [] hAt
        ⟨ok_assign rfl opdI,
        ok_assign rfl opdI, trivial⟩ (by kernel_rfl) ?_
    clear hAt
    intro a w hAt
    replace hAt : At B h0 (mkG [(0, fV (Rep.slice r_u16) x0), (1, fV (Rep.slice r_u16) x1), (5, fV r_i64 (List.length x1 : Int)), (7, fV r_u64 o14), (9, fV r_u64 0), (10, fV r_i64 0)]) (mkO []) F 161 a w := hAt
    refine then_n ?_
    refine wp_seq ?_
    refine wp_seq ?_
    refine reg [⟨fV r_i64 (List.length x1 : Int), [], [(5, none)], []⟩,
        ⟨fV r_i64 (IntKind.i64.wrap ((List.length x1 : Int) + 1)), [], [(83, some 0)], []⟩,
        ⟨fV r_i64 0, [], [], []⟩] [0, 1, 5, 7, 9, 10, 84, 85] [] hAt
        ⟨ok_move rfl opd0,
        ok_add rfl opd0 opdI,
        ok_move rfl opdI, trivial⟩ (by kernel_rfl) ?_
    clear hAt
    intro a w hAt
    replace hAt : At B h0 (mkG [(0, fV (Rep.slice r_u16) x0), (1, fV (Rep.slice r_u16) x1), (5, fV r_i64 (List.length x1 : Int)), (7, fV r_u64 o14), (9, fV r_u64 0), (10, fV r_i64 0), (84, fV r_i64 (IntKind.i64.wrap ((List.length x1 : Int) + 1))), (85, fV r_i64 0)]) (mkO []) F 161 a w := hAt
    refine then_n ?_
    refine wp_block ?_
    obtain ⟨o25, hl26, H⟩ := bindE H
    refine wp_mono (wp_loopN (f := f_exact_digit_L2 N x1 o14) (fun (s16 : ((List Int) × Int × Int × Int)) a w => At B h0 (mkG [(0, fV (Rep.slice r_u16) s16.1), (1, fV (Rep.slice r_u16) x1), (5, fV r_i64 (List.length x1 : Int)), (7, fV r_u64 o14), (9, fV r_u64 s16.2.1), (10, fV r_i64 s16.2.2.1), (84, fV r_i64 (IntKind.i64.wrap ((List.length x1 : Int) + 1))), (85, fV r_i64 s16.2.2.2)]) (mkO []) F 161 a w) (fun o e a w => (fun v => e = .exit 2 ∧ At B h0 (mkG [(0, fV (Rep.slice r_u16) v.1), (1, fV (Rep.slice r_u16) x1), (5, fV r_i64 (List.length x1 : Int)), (7, fV r_u64 o14), (10, fV r_i64 v.2)]) (mkO []) F 161 a w) o) ?_ N (x0, 0, 0, 0) o25 _ _ hl26 ?_) ?_
    · clear H hAt hl26
      intro s16 r38 a w H hAt
      unfold f_exact_digit_L2 at H
      refine wp_seq ?_
      refine reg [⟨fV Rep.bool (cmpI .lss s16.2.2.2 (IntKind.i64.wrap ((List.length x1 : Int) + 1))), [], [(85, none), (84, none)], []⟩] [0, 1, 5, 7, 9, 10, 84, 85, 86] [] hAt
          ⟨ok_cmp (op := .lss) (by simp) rfl rfl opd0 opd1, trivial⟩ (by kernel_rfl) ?_
      clear hAt
      intro a w hAt
      replace hAt : At B h0 (mkG [(0, fV (Rep.slice r_u16) s16.1), (1, fV (Rep.slice r_u16) x1), (5, fV r_i64 (List.length x1 : Int)), (7, fV r_u64 o14), (9, fV r_u64 s16.2.1), (10, fV r_i64 s16.2.2.1), (84, fV r_i64 (IntKind.i64.wrap ((List.length x1 : Int) + 1))), (85, fV r_i64 s16.2.2.2), (86, fV Rep.bool (cmpI .lss s16.2.2.2 (IntKind.i64.wrap ((List.length x1 : Int) + 1))))]) (mkO []) F 161 a w := hAt
      refine then_n ?_
      refine wp_seq ?_
      refine wp_if hAt (by rfl) ?_ ?_
      · intro hb24
        have H := iteT hb24 H
        refine wp_skip ?_
        refine then_n ?_
        refine wp_seq ?_
        refine wp_block ?_
        refine wp_seq ?_
        refine reg [⟨fV r_i64 s16.2.2.2, [], [(85, none)], []⟩,
            ⟨fV r_i64 s16.2.2.2, [], [(87, some 0)], []⟩] [0, 1, 5, 7, 9, 10, 11, 84, 85] [] hAt
            ⟨ok_move rfl opd0,
            ok_assign rfl opd0, trivial⟩ (by kernel_rfl) ?_
        clear hAt
        intro a w hAt
        replace hAt : At B h0 (mkG [(0, fV (Rep.slice r_u16) s16.1), (1, fV (Rep.slice r_u16) x1), (5, fV r_i64 (List.length x1 : Int)), (7, fV r_u64 o14), (9, fV r_u64 s16.2.1), (10, fV r_i64 s16.2.2.1), (11, fV r_i64 s16.2.2.2), (84, fV r_i64 (IntKind.i64.wrap ((List.length x1 : Int) + 1))), (85, fV r_i64 s16.2.2.2)]) (mkO []) F 161 a w := hAt
        refine then_n ?_
        refine wp_seq ?_
        refine reg [⟨fV r_u64 s16.2.1, [], [(9, none)], []⟩,
            ⟨fV r_u64 s16.2.1, [], [(88, some 0)], []⟩] [0, 1, 5, 7, 10, 11, 12, 84, 85] [] hAt
            ⟨ok_move rfl opd0,
            ok_assign rfl opd0, trivial⟩ (by kernel_rfl) ?_
        clear hAt
        intro a w hAt
        replace hAt : At B h0 (mkG [(0, fV (Rep.slice r_u16) s16.1), (1, fV (Rep.slice r_u16) x1), (5, fV r_i64 (List.length x1 : Int)), (7, fV r_u64 o14), (10, fV r_i64 s16.2.2.1), (11, fV r_i64 s16.2.2.2), (12, fV r_u64 s16.2.1), (84, fV r_i64 (IntKind.i64.wrap ((List.length x1 : Int) + 1))), (85, fV r_i64 s16.2.2.2)]) (mkO []) F 161 a w := hAt
        refine then_n ?_
        refine wp_seq ?_
        obtain ⟨o19, hl20, H⟩ := bindE H
        refine wp_mono (Q := (fun o e a w => (fun v => e = .normal ∧ At B h0 (mkG [(0, fV (Rep.slice r_u16) s16.1), (1, fV (Rep.slice r_u16) x1), (5, fV r_i64 (List.length x1 : Int)), (7, fV r_u64 o14), (10, fV r_i64 s16.2.2.1), (11, fV r_i64 s16.2.2.2), (12, fV r_u64 v), (84, fV r_i64 (IntKind.i64.wrap ((List.length x1 : Int) + 1))), (85, fV r_i64 s16.2.2.2)]) (mkO []) F 161 a w) o) o19) ?_ ?_
        · clear H
          have H := hl20
          clear hl20
          refine wp_seq ?_
          refine reg [⟨fV r_i64 s16.2.2.2, [], [(11, none)], []⟩,
              ⟨fV r_i64 (List.length x1 : Int), [], [(5, none)], []⟩,
              ⟨fV Rep.bool (cmpI .lss s16.2.2.2 (List.length x1 : Int)), [], [(89, some 0), (90, some 1)], []⟩] [0, 1, 5, 7, 10, 11, 12, 84, 85, 91] [] hAt
              ⟨ok_move rfl opd0,
              ok_move rfl opd0,
              ok_cmp (op := .lss) (by simp) rfl rfl opd0 opd1, trivial⟩ (by kernel_rfl) ?_
          clear hAt
          intro a w hAt
          replace hAt : At B h0 (mkG [(0, fV (Rep.slice r_u16) s16.1), (1, fV (Rep.slice r_u16) x1), (5, fV r_i64 (List.length x1 : Int)), (7, fV r_u64 o14), (10, fV r_i64 s16.2.2.1), (11, fV r_i64 s16.2.2.2), (12, fV r_u64 s16.2.1), (84, fV r_i64 (IntKind.i64.wrap ((List.length x1 : Int) + 1))), (85, fV r_i64 s16.2.2.2), (91, fV Rep.bool (cmpI .lss s16.2.2.2 (List.length x1 : Int)))]) (mkO []) F 161 a w := hAt
          refine then_n ?_
          refine wp_if hAt (by rfl) ?_ ?_
          · intro hb18
            have H := iteT hb18 H
            obtain ⟨v17, hv17, H⟩ := bindE H
            refine reg [⟨fV r_u64 s16.2.1, [], [(12, none)], []⟩,
                ⟨fV r_u64 o14, [], [(7, none)], []⟩,
                ⟨fV (Rep.slice r_u16) x1, [], [(1, none)], []⟩,
                ⟨fV r_i64 s16.2.2.2, [], [(11, none)], []⟩,
                ⟨fRef r_u16 v17, [], [(94, some 2), (95, some 3)], []⟩,
                ⟨fV r_u16 v17, [], [(96, some 4)], []⟩,
                ⟨fV r_u64 (IntKind.u64.wrap v17), [], [(97, some 5)], []⟩,
                ⟨fV r_u64 (IntKind.u64.wrap (o14 * (IntKind.u64.wrap v17))), [], [(93, some 1), (98, some 6)], []⟩,
                ⟨fV r_u64 (IntKind.u64.wrap (s16.2.1 + (IntKind.u64.wrap (o14 * (IntKind.u64.wrap v17))))), [], [(92, some 0), (99, some 7)], []⟩,
                ⟨fV r_u64 (IntKind.u64.wrap (s16.2.1 + (IntKind.u64.wrap (o14 * (IntKind.u64.wrap v17))))), [], [(100, some 8)], []⟩] [0, 1, 5, 7, 10, 11, 12, 84, 85] [] hAt
                ⟨ok_move rfl opd0,
                ok_move rfl opd0,
                ok_move rfl opd0,
                ok_move rfl opd0,
                ok_index ty103 un45 hv17 rfl opd0 opd1,
                ok_load ty103 rfl opd0,
                ok_conv un103 un186 rfl opd0,
                ok_mul rfl opd0 opd1,
                ok_add rfl opd0 opd1,
                ok_assign rfl opd0, trivial⟩ (by kernel_rfl) ?_
            clear hAt
            intro a w hAt
            replace hAt : At B h0 (mkG [(0, fV (Rep.slice r_u16) s16.1), (1, fV (Rep.slice r_u16) x1), (5, fV r_i64 (List.length x1 : Int)), (7, fV r_u64 o14), (10, fV r_i64 s16.2.2.1), (11, fV r_i64 s16.2.2.2), (12, fV r_u64 (IntKind.u64.wrap (s16.2.1 + (IntKind.u64.wrap (o14 * (IntKind.u64.wrap v17)))))), (84, fV r_i64 (IntKind.i64.wrap ((List.length x1 : Int) + 1))), (85, fV r_i64 s16.2.2.2)]) (mkO []) F 161 a w := hAt
            cases H
            exact ⟨rfl, hAt.pick [0, 1, 5, 7, 10, 11, 12, 84, 85] []⟩
          · intro hb18
            have H := iteF hb18 H
            refine wp_skip ?_
            cases H
            exact ⟨rfl, hAt.pick [0, 1, 5, 7, 10, 11, 12, 84, 85] []⟩
        · clear hAt
          intro e a w hp
          obtain ⟨rfl, hAt⟩ := hp
          refine then_n ?_
          refine wp_seq ?_
          obtain ⟨v21, hv21, H⟩ := bindE H
          refine reg [⟨fV r_u64 o19, [], [(12, none)], []⟩,
              ⟨fV r_u64 v21, [], [(101, some 0)], []⟩,
              ⟨fV r_u64 v21, [], [(102, some 1)], []⟩] [0, 1, 5, 7, 9, 10, 11, 12, 84, 85] [] hAt
              ⟨ok_move rfl opd0,
              ok_shr hv21 rfl opd0 opdI,
              ok_assign rfl opd0, trivial⟩ (by kernel_rfl) ?_
          clear hAt
          intro a w hAt
          replace hAt : At B h0 (mkG [(0, fV (Rep.slice r_u16) s16.1), (1, fV (Rep.slice r_u16) x1), (5, fV r_i64 (List.length x1 : Int)), (7, fV r_u64 o14), (9, fV r_u64 v21), (10, fV r_i64 s16.2.2.1), (11, fV r_i64 s16.2.2.2), (12, fV r_u64 o19), (84, fV r_i64 (IntKind.i64.wrap ((List.length x1 : Int) + 1))), (85, fV r_i64 s16.2.2.2)]) (mkO []) F 161 a w := hAt
          refine then_n ?_
          refine wp_seq ?_
          obtain ⟨v22, hv22, H⟩ := bindE H
          refine reg [⟨fV (Rep.slice r_u16) s16.1, [], [(0, none)], []⟩,
              ⟨fV r_i64 s16.2.2.2, [], [(11, none)], []⟩,
              ⟨fRef r_u16 v22, [], [(103, some 0), (104, some 1)], []⟩,
              ⟨fV r_u16 v22, [], [(105, some 2)], []⟩,
              ⟨fV r_i64 (IntKind.i64.wrap v22), [], [(106, some 3)], []⟩,
              ⟨fV r_u64 o19, [], [(12, none)], []⟩,
              ⟨fV r_u64 (bitI .and .u64 o19 65535), [], [(108, some 5)], []⟩,
              ⟨fV r_i64 (IntKind.i64.wrap (bitI .and .u64 o19 65535)), [], [(109, some 6)], []⟩,
              ⟨fV r_i64 (IntKind.i64.wrap ((IntKind.i64.wrap v22) - (IntKind.i64.wrap (bitI .and .u64 o19 65535)))), [], [(107, some 4), (110, some 7)], []⟩,
              ⟨fV r_i64 s16.2.2.1, [], [(10, none)], []⟩,
              ⟨fV r_i64 (IntKind.i64.wrap ((IntKind.i64.wrap ((IntKind.i64.wrap v22) - (IntKind.i64.wrap (bitI .and .u64 o19 65535)))) + s16.2.2.1)), [], [(111, some 8), (112, some 9)], []⟩,
              ⟨fV r_i64 (IntKind.i64.wrap ((IntKind.i64.wrap ((IntKind.i64.wrap v22) - (IntKind.i64.wrap (bitI .and .u64 o19 65535)))) + s16.2.2.1)), [], [(113, some 10)], []⟩] [0, 1, 5, 7, 9, 11, 13, 84, 85] [] hAt
              ⟨ok_move rfl opd0,
              ok_move rfl opd0,
              ok_index ty103 un45 hv22 rfl opd0 opd1,
              ok_load ty103 rfl opd0,
              ok_conv un103 un2 rfl opd0,
              ok_move rfl opd0,
              ok_bit (op := .and) (by simp) rfl opd0 opdI,
              ok_conv un186 un2 rfl opd0,
              ok_sub rfl opd0 opd1,
              ok_move rfl opd0,
              ok_add rfl opd0 opd1,
              ok_assign rfl opd0, trivial⟩ (by kernel_rfl) ?_
          clear hAt
          intro a w hAt
          replace hAt : At B h0 (mkG [(0, fV (Rep.slice r_u16) s16.1), (1, fV (Rep.slice r_u16) x1), (5, fV r_i64 (List.length x1 : Int)), (7, fV r_u64 o14), (9, fV r_u64 v21), (11, fV r_i64 s16.2.2.2), (13, fV r_i64 (IntKind.i64.wrap ((IntKind.i64.wrap ((IntKind.i64.wrap v22) - (IntKind.i64.wrap (bitI .and .u64 o19 65535)))) + s16.2.2.1))), (84, fV r_i64 (IntKind.i64.wrap ((List.length x1 : Int) + 1))), (85, fV r_i64 s16.2.2.2)]) (mkO []) F 161 a w := hAt
          refine then_n ?_
          refine wp_seq ?_
          cases H
      · intro hb24
        have H := iteF hb24 H
        refine wp_exit ?_
        refine then_x ?_
        cases H
        exact ⟨ex_ne, rfl, hAt.pick [0, 1, 5, 7, 10] []⟩
    · exact hAt.pick [0, 1, 5, 7, 9, 10, 84, 85] []
    · clear hAt
      intro e a w hp
      obtain ⟨rfl, hAt⟩ := hp
      refine blk_eq ?_
      refine then_n ?_
      refine wp_seq ?_
      refine wp_seq ?_
      refine reg [⟨fV r_i64 o25.2, [], [(10, none)], []⟩,
          ⟨fV Rep.bool (cmpI .lss o25.2 0), [], [(122, some 0)], []⟩] [0, 1, 5, 7, 123] [] hAt
          ⟨ok_move rfl opd0,
          ok_cmp (op := .lss) (by simp) rfl rfl opd0 opdI, trivial⟩ (by kernel_rfl) ?_
      clear hAt
      intro a w hAt
      replace hAt : At B h0 (mkG [(0, fV (Rep.slice r_u16) o25.1), (1, fV (Rep.slice r_u16) x1), (5, fV r_i64 (List.length x1 : Int)), (7, fV r_u64 o14), (123, fV Rep.bool (cmpI .lss o25.2 0))]) (mkO []) F 161 a w := hAt
      refine then_n ?_
      refine wp_if hAt (by rfl) ?_ ?_
      · intro hb37
        have H := iteT hb37 H
        refine wp_seq ?_
        refine reg [⟨fV r_u64 o14, [], [(7, none)], []⟩,
            ⟨fV r_u64 (IntKind.u64.wrap (o14 - 1)), [], [(124, some 0)], []⟩,
            ⟨fV r_u64 (IntKind.u64.wrap (o14 - 1)), [], [(125, some 1)], []⟩] [0, 1, 5, 7] [] hAt
            ⟨ok_move rfl opd0,
            ok_sub rfl opd0 opdI,
            ok_assign rfl opd0, trivial⟩ (by kernel_rfl) ?_
        clear hAt
        intro a w hAt
        replace hAt : At B h0 (mkG [(0, fV (Rep.slice r_u16) o25.1), (1, fV (Rep.slice r_u16) x1), (5, fV r_i64 (List.length x1 : Int)), (7, fV r_u64 (IntKind.u64.wrap (o14 - 1)))]) (mkO []) F 161 a w := hAt
        refine then_n ?_
        refine wp_seq ?_
        refine reg [⟨fV r_u32 0, [], [], []⟩] [0, 1, 5, 7, 14] [] hAt
            ⟨ok_assign rfl opdI, trivial⟩ (by kernel_rfl) ?_
        clear hAt
        intro a w hAt
        replace hAt : At B h0 (mkG [(0, fV (Rep.slice r_u16) o25.1), (1, fV (Rep.slice r_u16) x1), (5, fV r_i64 (List.length x1 : Int)), (7, fV r_u64 (IntKind.u64.wrap (o14 - 1))), (14, fV r_u32 0)]) (mkO []) F 161 a w := hAt
        refine then_n ?_
        refine wp_seq ?_
        refine wp_seq ?_
        refine reg [⟨fV r_i64 (List.length x1 : Int), [], [(5, none)], []⟩,
            ⟨fV r_i64 0, [], [], []⟩] [0, 1, 5, 7, 14, 126, 127] [] hAt
            ⟨ok_move rfl opd0,
            ok_move rfl opdI, trivial⟩ (by kernel_rfl) ?_
        clear hAt
        intro a w hAt
        replace hAt : At B h0 (mkG [(0, fV (Rep.slice r_u16) o25.1), (1, fV (Rep.slice r_u16) x1), (5, fV r_i64 (List.length x1 : Int)), (7, fV r_u64 (IntKind.u64.wrap (o14 - 1))), (14, fV r_u32 0), (126, fV r_i64 (List.length x1 : Int)), (127, fV r_i64 0)]) (mkO []) F 161 a w := hAt
        refine then_n ?_
        refine wp_block ?_
        obtain ⟨o32, hl33, H⟩ := bindE H
        refine wp_mono (wp_loopN (f := f_exact_digit_L1 N x1) (fun (s27 : ((List Int) × Int × Int)) a w => At B h0 (mkG [(0, fV (Rep.slice r_u16) s27.1), (1, fV (Rep.slice r_u16) x1), (5, fV r_i64 (List.length x1 : Int)), (7, fV r_u64 (IntKind.u64.wrap (o14 - 1))), (14, fV r_u32 s27.2.1), (126, fV r_i64 (List.length x1 : Int)), (127, fV r_i64 s27.2.2)]) (mkO []) F 161 a w) (fun o e a w => (fun v => e = .exit 4 ∧ At B h0 (mkG [(0, fV (Rep.slice r_u16) v.1), (5, fV r_i64 (List.length x1 : Int)), (7, fV r_u64 (IntKind.u64.wrap (o14 - 1))), (14, fV r_u32 v.2)]) (mkO []) F 161 a w) o) ?_ N (o25.1, 0, 0) o32 _ _ hl33 ?_) ?_
        · clear H hAt hl33
          intro s27 r36 a w H hAt
          unfold f_exact_digit_L1 at H
          refine wp_seq ?_
          refine reg [⟨fV Rep.bool (cmpI .lss s27.2.2 (List.length x1 : Int)), [], [(127, none), (126, none)], []⟩] [0, 1, 5, 7, 14, 126, 127, 128] [] hAt
              ⟨ok_cmp (op := .lss) (by simp) rfl rfl opd0 opd1, trivial⟩ (by kernel_rfl) ?_
          clear hAt
          intro a w hAt
          replace hAt : At B h0 (mkG [(0, fV (Rep.slice r_u16) s27.1), (1, fV (Rep.slice r_u16) x1), (5, fV r_i64 (List.length x1 : Int)), (7, fV r_u64 (IntKind.u64.wrap (o14 - 1))), (14, fV r_u32 s27.2.1), (126, fV r_i64 (List.length x1 : Int)), (127, fV r_i64 s27.2.2), (128, fV Rep.bool (cmpI .lss s27.2.2 (List.length x1 : Int)))]) (mkO []) F 161 a w := hAt
          refine then_n ?_
          refine wp_seq ?_
          refine wp_if hAt (by rfl) ?_ ?_
          · intro hb31
            have H := iteT hb31 H
            refine wp_skip ?_
            refine then_n ?_
            refine wp_seq ?_
            refine wp_block ?_
            refine wp_seq ?_
            refine reg [⟨fV r_i64 s27.2.2, [], [(127, none)], []⟩,
                ⟨fV r_i64 s27.2.2, [], [(129, some 0)], []⟩] [0, 1, 5, 7, 14, 15, 126, 127] [] hAt
                ⟨ok_move rfl opd0,
                ok_assign rfl opd0, trivial⟩ (by kernel_rfl) ?_
            clear hAt
            intro a w hAt
            replace hAt : At B h0 (mkG [(0, fV (Rep.slice r_u16) s27.1), (1, fV (Rep.slice r_u16) x1), (5, fV r_i64 (List.length x1 : Int)), (7, fV r_u64 (IntKind.u64.wrap (o14 - 1))), (14, fV r_u32 s27.2.1), (15, fV r_i64 s27.2.2), (126, fV r_i64 (List.length x1 : Int)), (127, fV r_i64 s27.2.2)]) (mkO []) F 161 a w := hAt
            refine then_n ?_
            refine wp_seq ?_
            obtain ⟨v28, hv28, H⟩ := bindE H
            obtain ⟨v29, hv29, H⟩ := bindE H
            refine regd [⟨fV r_u32 s27.2.1, [], [(14, none)], []⟩,
                ⟨fV (Rep.slice r_u16) s27.1, [], [(0, none)], []⟩,
                ⟨fV r_i64 s27.2.2, [], [(15, none)], []⟩,
                ⟨fRef r_u16 v28, [], [(131, some 1), (132, some 2)], []⟩,
                ⟨fV r_u16 v28, [], [(133, some 3)], []⟩,
                ⟨fV r_u32 (IntKind.u32.wrap v28), [], [(134, some 4)], []⟩,
                ⟨fV (Rep.slice r_u16) x1, [], [(1, none)], []⟩,
                ⟨fV r_i64 s27.2.2, [], [(15, none)], []⟩,
                ⟨fRef r_u16 v29, [], [(136, some 6), (137, some 7)], []⟩,
                ⟨fV r_u16 v29, [], [(138, some 8)], []⟩,
                ⟨fV r_u32 (IntKind.u32.wrap v29), [], [(139, some 9)], []⟩,
                ⟨fV r_u32 (IntKind.u32.wrap ((IntKind.u32.wrap v28) + (IntKind.u32.wrap v29))), [], [(135, some 5), (140, some 10)], []⟩,
                ⟨fV r_u32 (IntKind.u32.wrap (s27.2.1 + (IntKind.u32.wrap ((IntKind.u32.wrap v28) + (IntKind.u32.wrap v29))))), [], [(130, some 0), (141, some 11)], []⟩,
                ⟨fV r_u32 (IntKind.u32.wrap (s27.2.1 + (IntKind.u32.wrap ((IntKind.u32.wrap v28) + (IntKind.u32.wrap v29))))), [], [(142, some 12)], []⟩] [0, 1, 2, 3, 4, 5, 6, 7, 8, 9, 10, 11, 12, 13] [0, 1, 2, 3, 4, 5, 6, 7, 8, 9, 10, 11, 12, 13] [0, 1, 5, 7, 14, 15, 126, 127] [] hAt
                ⟨ok_move rfl opd0,
                ok_move rfl opd0,
                ok_move rfl opd0,
                ok_index ty103 un45 hv28 rfl opd0 opd1,
                ok_load ty103 rfl opd0,
                ok_conv un103 un229 rfl opd0,
                ok_move rfl opd0,
                ok_move rfl opd0,
                ok_index ty103 un45 hv29 rfl opd0 opd1,
                ok_load ty103 rfl opd0,
                ok_conv un103 un229 rfl opd0,
                ok_add rfl opd0 opd1,
                ok_add rfl opd0 opd1,
                ok_assign rfl opd0, trivial⟩ (by kernel_rfl) ?_
            clear hAt
            intro a w hAt
            replace hAt : At B h0 (mkG [(0, fV (Rep.slice r_u16) s27.1), (1, fV (Rep.slice r_u16) x1), (5, fV r_i64 (List.length x1 : Int)), (7, fV r_u64 (IntKind.u64.wrap (o14 - 1))), (14, fV r_u32 (IntKind.u32.wrap (s27.2.1 + (IntKind.u32.wrap ((IntKind.u32.wrap v28) + (IntKind.u32.wrap v29)))))), (15, fV r_i64 s27.2.2), (126, fV r_i64 (List.length x1 : Int)), (127, fV r_i64 s27.2.2)]) (mkO []) F 161 a w := hAt
            refine then_n ?_
            refine wp_seq ?_
            cases H
          · intro hb31
            have H := iteF hb31 H
            refine wp_exit ?_
            refine then_x ?_
            cases H
            exact ⟨ex_ne, rfl, hAt.pick [0, 5, 7, 14] []⟩
        · exact hAt.pick [0, 1, 5, 7, 14, 126, 127] []
        · clear hAt
          intro e a w hp
          obtain ⟨rfl, hAt⟩ := hp
          refine blk_eq ?_
          refine then_n ?_
          cases H
      · intro hb37
        have H := iteF hb37 H
        refine wp_skip ?_
        refine then_n ?_
        refine wp_seq ?_
        refine reg [⟨fV r_u64 o14, [], [(7, none)], []⟩,
            ⟨fV r_u16 (IntKind.u16.wrap o14), [], [(159, some 0)], []⟩,
            ⟨fV r_u16 (IntKind.u16.wrap o14), [], [(160, some 1)], []⟩] [4] [] hAt
            ⟨ok_move rfl opd0,
            ok_conv un186 un103 rfl opd0,
            ok_assign rfl opd0, trivial⟩ (by kernel_rfl) ?_
        clear hAt
        intro a w hAt
        replace hAt : At B h0 (mkG [(4, fV r_u16 (IntKind.u16.wrap o14))]) (mkO []) F 161 a w := hAt
        refine then_n ?_
        refine wp_ret ?_
        cases H
        exact ret1 rfl (rv_tmp rfl rfl) hAt
theorem ok_f_exact_divide (N : Nat) (x0 : (List Int)) (x1 : (List Int)) (r : (List Int) × (List Int)) (H : f_exact_divide N x0 x1 = some r) : FnOk Try.prog 145 [fV (Rep.slice r_u16) x0, fV (Rep.slice r_u16) x1] (fT2 (fV (Rep.slice r_u16) (r.1)) (fV (Rep.slice r_u16) (r.2))) := by
  unfold f_exact_divide at H
  refine fn_enter Try.func145 rfl rfl (by kernel_rfl) ?_
  intro κ B h0 F a w hAt
  refine wp_seq ?_
  refine reg [⟨Fact.triv, [(4, some (arrE 103 r_u16 []))], [], []⟩,
      ⟨Fact.triv, [(5, some (arrE 103 r_u16 []))], [], []⟩] [0, 1] [] hAt
      ⟨ok_nilArr rfl (.inl rfl),
      ok_nilArr rfl (.inl rfl), trivial⟩ (by kernel_rfl) ?_
  clear hAt
  intro a w hAt
  replace hAt : At B h0 (mkG [(0, fV (Rep.slice r_u16) x0), (1, fV (Rep.slice r_u16) x1)]) (mkO []) F 109 a w := hAt
  refine then_n ?_
  refine wp_seq ?_
  refine wp_seq ?_
  obtain ⟨v1, hv1, H⟩ := bindE H
  refine reg [⟨fV (Rep.slice r_u16) x0, [], [(0, none)], []⟩,
      ⟨fV (Rep.slice r_u16) x1, [], [(1, none)], []⟩,
      ⟨fV r_i64 v1, [], [(14, some 0), (15, some 1)], []⟩,
      ⟨fV Rep.bool (cmpI .lss v1 0), [], [(16, some 2)], []⟩] [0, 1, 17] [] hAt
      ⟨ok_move rfl opd0,
      ok_move rfl opd0,
      ok_call (ok_f_exact_compare N x0 x1 _ hv1) Try.func150 (by kernel_rfl) (by kernel_rfl) rfl ⟨opd0, ⟨opd1, trivial⟩⟩,
      ok_cmp (op := .lss) (by simp) rfl rfl opd0 opdI, trivial⟩ (by kernel_rfl) ?_
  clear hAt
  intro a w hAt
  replace hAt : At B h0 (mkG [(0, fV (Rep.slice r_u16) x0), (1, fV (Rep.slice r_u16) x1), (17, fV Rep.bool (cmpI .lss v1 0))]) (mkO []) F 109 a w := hAt
  refine then_n ?_
  refine wp_if hAt (by rfl) ?_ ?_
  · intro hb34
    have H := iteT hb34 H
    refine wp_seq ?_
    obtain ⟨v2, hv2, H⟩ := bindE H
    refine reg [⟨fV (Rep.slice r_u16) x0, [], [(0, none)], []⟩,
        ⟨fV (Rep.slice r_u16) v2, [], [(18, some 0)], []⟩,
        ⟨Fact.triv, [(4, some (arrE 103 r_u16 []))], [], []⟩,
        ⟨fV (Rep.slice r_u16) v2, [], [(19, some 1)], []⟩] [5] [4] hAt
        ⟨ok_move rfl opd0,
        ok_call (ok_f_slices_Cloneluint16_uint16 N x0 _ hv2) Try.func170 (by kernel_rfl) (by kernel_rfl) rfl ⟨opd0, trivial⟩,
        ok_nilArr rfl (.inl rfl),
        ok_assign rfl opd0, trivial⟩ (by kernel_rfl) ?_
    clear hAt
    intro a w hAt
    replace hAt : At B h0 (mkG [(5, fV (Rep.slice r_u16) v2)]) (mkO [(4, arrE 103 r_u16 [])]) F 109 a w := hAt
    refine then_n ?_
    refine wp_ret ?_
    refine then_r ?_
    cases H
    have hAt := At.freeze 4 hAt rfl
    replace hAt := hAt.pick [4, 5] []
    replace hAt : At B h0 (mkG [(4, fV (Rep.slice r_u16) []), (5, fV (Rep.slice r_u16) v2)]) (mkO []) F 109 a w := hAt
    exact ret2 rfl (rv_tmp rfl rfl) (rv_tmp rfl rfl) hAt
  · intro hb34
    have H := iteF hb34 H
    refine wp_skip ?_
    refine then_n ?_
    refine wp_seq ?_
    refine wp_seq ?_
    refine reg [⟨fV (Rep.slice r_u16) x1, [], [(1, none)], []⟩,
        ⟨fV r_i64 (List.length x1 : Int), [], [(20, some 0)], []⟩,
        ⟨fV Rep.bool (cmpI .eql (List.length x1 : Int) 1), [], [(21, some 1)], []⟩] [0, 1, 22] [] hAt
        ⟨ok_move rfl opd0,
        ok_len un45 rfl opd0,
        ok_cmp (op := .eql) (by simp) rfl rfl opd0 opdI, trivial⟩ (by kernel_rfl) ?_
    clear hAt
    intro a w hAt
    replace hAt : At B h0 (mkG [(0, fV (Rep.slice r_u16) x0), (1, fV (Rep.slice r_u16) x1), (22, fV Rep.bool (cmpI .eql (List.length x1 : Int) 1))]) (mkO []) F 109 a w := hAt
    refine then_n ?_
    refine wp_if hAt (by rfl) ?_ ?_
    · intro hb33
      have H := iteT hb33 H
      refine wp_seq ?_
      obtain ⟨v3, hv3, H⟩ := bindE H
      obtain ⟨v4, hv4, H⟩ := bindE H
      refine reg [⟨fV (Rep.slice r_u16) x0, [], [(0, none)], []⟩,
          ⟨fV (Rep.slice r_u16) x1, [], [(1, none)], []⟩,
          ⟨fRef r_u16 v3, [], [(25, some 1)], []⟩,
          ⟨fV r_u16 v3, [], [(26, some 2)], []⟩,
          ⟨fT2 (fV (Rep.slice r_u16) v4.1) (fV r_u16 v4.2), [], [(24, some 0), (27, some 3)], []⟩,
          ⟨fT2 (fV (Rep.slice r_u16) v4.1) (fV r_u16 v4.2), [], [(28, some 4)], []⟩,
          ⟨fV (Rep.slice r_u16) v4.1, [], [(23, some 5)], []⟩,
          ⟨fV r_u16 v4.2, [], [(23, some 5)], []⟩,
          ⟨fV (Rep.slice r_u16) v4.1, [], [(29, some 6)], []⟩,
          ⟨fV r_u16 v4.2, [], [(30, some 7)], []⟩] [6, 7] [] hAt
          ⟨ok_move rfl opd0,
          ok_move rfl opd0,
          ok_index ty103 un45 hv3 rfl opd0 opdI,
          ok_load ty103 rfl opd0,
          ok_call (ok_f_exact_short N x0 v3 _ hv4) Try.func171 (by kernel_rfl) (by kernel_rfl) rfl ⟨opd0, ⟨opd1, trivial⟩⟩,
          ok_move rfl opd0,
          ok_ext20 rfl rfl opd0,
          ok_ext21 rfl rfl opd0,
          ok_assign rfl opd0,
          ok_assign rfl opd0, trivial⟩ (by kernel_rfl) ?_
      clear hAt
      intro a w hAt
      replace hAt : At B h0 (mkG [(6, fV (Rep.slice r_u16) v4.1), (7, fV r_u16 v4.2)]) (mkO []) F 109 a w := hAt
      refine then_n ?_
      refine wp_seq ?_
      obtain ⟨v5, hv5, H⟩ := bindE H
      refine reg [⟨fV (Rep.slice r_u16) v4.1, [], [(6, none)], []⟩,
          ⟨fV r_u16 v4.2, [], [(7, none)], []⟩,
          ⟨fV (Rep.slice r_u16) [v4.2], [], [(32, some 1)], []⟩,
          ⟨fV (Rep.slice r_u16) v5, [], [(33, some 2)], []⟩,
          ⟨fV (Rep.slice r_u16) v4.1, [], [(31, some 0)], []⟩,
          ⟨fV (Rep.slice r_u16) v5, [], [(34, some 3)], []⟩] [4, 5] [] hAt
          ⟨ok_move rfl opd0,
          ok_move rfl opd0,
          ok_buildSlice ty103 un45 rfl rfl (fillC (Lens.arr _ _ 0 (by decide)) rfl opd0 fillN),
          ok_call (ok_f_exact_trim N [v4.2] _ hv5) Try.func143 (by kernel_rfl) (by kernel_rfl) rfl ⟨opd0, trivial⟩,
          ok_assign rfl opd0,
          ok_assign rfl opd0, trivial⟩ (by kernel_rfl) ?_
      clear hAt
      intro a w hAt
      replace hAt : At B h0 (mkG [(4, fV (Rep.slice r_u16) v4.1), (5, fV (Rep.slice r_u16) v5)]) (mkO []) F 109 a w := hAt
      refine then_n ?_
      refine wp_ret ?_
      refine then_r ?_
      cases H
      exact ret2 rfl (rv_tmp rfl rfl) (rv_tmp rfl rfl) hAt
    · intro hb33
      have H := iteF hb33 H
      refine wp_skip ?_
      refine then_n ?_
      refine wp_seq ?_
      obtain ⟨v6, hv6, H⟩ := bindE H
      obtain ⟨v7, hv7, H⟩ := bindE H
      refine reg [⟨fV (Rep.slice r_u16) x1, [], [(1, none)], []⟩,
          ⟨fV (Rep.slice r_u16) x1, [], [(1, none)], []⟩,
          ⟨fV r_i64 (List.length x1 : Int), [], [(36, some 1)], []⟩,
          ⟨fV r_i64 (IntKind.i64.wrap ((List.length x1 : Int) - 1)), [], [(37, some 2)], []⟩,
          ⟨fRef r_u16 v6, [], [(35, some 0), (38, some 3)], []⟩,
          ⟨fV r_u16 v6, [], [(39, some 4)], []⟩,
          ⟨fV r_i64 v7, [], [(40, some 5)], []⟩,
          ⟨fV r_i64 v7, [], [(41, some 6)], []⟩] [0, 1, 8] [] hAt
          ⟨ok_move rfl opd0,
          ok_move rfl opd0,
          ok_len un45 rfl opd0,
          ok_sub rfl opd0 opdI,
          ok_index ty103 un45 hv6 rfl opd0 opd1,
          ok_load ty103 rfl opd0,
          ok_call (ok_f_bits_LeadingZeros16 N v6 _ hv7) Try.func172 (by kernel_rfl) (by kernel_rfl) rfl ⟨opd0, trivial⟩,
          ok_assign rfl opd0, trivial⟩ (by kernel_rfl) ?_
      clear hAt
      intro a w hAt
      replace hAt : At B h0 (mkG [(0, fV (Rep.slice r_u16) x0), (1, fV (Rep.slice r_u16) x1), (8, fV r_i64 v7)]) (mkO []) F 109 a w := hAt
      refine then_n ?_
      refine wp_seq ?_
      obtain ⟨v8, hv8, H⟩ := bindE H
      obtain ⟨v9, hv9, H⟩ := bindE H
      obtain ⟨v10, hv10, H⟩ := bindE H
      refine regd [⟨fV (Rep.slice r_u16) x0, [], [(0, none)], []⟩,
          ⟨fV r_i64 v7, [], [(8, none)], []⟩,
          ⟨fV (Rep.slice r_u16) v8, [], [(42, some 0), (43, some 1)], []⟩,
          ⟨fV (Rep.slice r_u16) x1, [], [(1, none)], []⟩,
          ⟨fV r_i64 v7, [], [(8, none)], []⟩,
          ⟨fV (Rep.slice r_u16) v9, [], [(45, some 3), (46, some 4)], []⟩,
          ⟨fV (Rep.slice r_u16) x1, [], [(1, none)], []⟩,
          ⟨fV r_i64 (List.length x1 : Int), [], [(48, some 6)], []⟩,
          ⟨fV (Rep.slice r_u16) v10, [], [(47, some 5), (49, some 7)], []⟩,
          ⟨fV (Rep.slice r_u16) v8, [], [(44, some 2)], []⟩,
          ⟨fV (Rep.slice r_u16) v10, [], [(50, some 8)], []⟩] [0, 1, 2, 3, 4, 5, 6, 7, 8, 9, 10] [0, 1, 2, 3, 4, 5, 6, 7, 8, 9, 10] [8, 9, 10] [] hAt
          ⟨ok_move rfl opd0,
          ok_move rfl opd0,
          ok_call (ok_f_exact_shifted N x0 v7 _ hv8) Try.func173 (by kernel_rfl) (by kernel_rfl) rfl ⟨opd0, ⟨opd1, trivial⟩⟩,
          ok_move rfl opd0,
          ok_move rfl opd0,
          ok_call (ok_f_exact_shifted N x1 v7 _ hv9) Try.func173 (by kernel_rfl) (by kernel_rfl) rfl ⟨opd0, ⟨opd1, trivial⟩⟩,
          ok_move rfl opd0,
          ok_len un45 rfl opd0,
          ok_slice hv10 ty103 un45 rfl opd0 bndN (bndS opd1),
          ok_assign rfl opd0,
          ok_assign rfl opd0, trivial⟩ (by kernel_rfl) ?_
      clear hAt
      intro a w hAt
      replace hAt : At B h0 (mkG [(8, fV r_i64 v7), (9, fV (Rep.slice r_u16) v8), (10, fV (Rep.slice r_u16) v10)]) (mkO []) F 109 a w := hAt
      refine then_n ?_
      refine wp_seq ?_
      refine reg [⟨fV (Rep.slice r_u16) v10, [], [(10, none)], []⟩,
          ⟨fV r_i64 (List.length v10 : Int), [], [(51, some 0)], []⟩,
          ⟨fV r_i64 (List.length v10 : Int), [], [(52, some 1)], []⟩] [8, 9, 10, 11] [] hAt
          ⟨ok_move rfl opd0,
          ok_len un45 rfl opd0,
          ok_assign rfl opd0, trivial⟩ (by kernel_rfl) ?_
      clear hAt
      intro a w hAt
      replace hAt : At B h0 (mkG [(8, fV r_i64 v7), (9, fV (Rep.slice r_u16) v8), (10, fV (Rep.slice r_u16) v10), (11, fV r_i64 (List.length v10 : Int))]) (mkO []) F 109 a w := hAt
      refine then_n ?_
      refine wp_seq ?_
      obtain ⟨v11, hv11, H⟩ := bindE H
      refine reg [⟨fV (Rep.slice r_u16) v8, [], [(9, none)], []⟩,
          ⟨fV r_i64 (List.length v8 : Int), [], [(53, some 0)], []⟩,
          ⟨fV r_i64 (List.length v10 : Int), [], [(11, none)], []⟩,
          ⟨fV r_i64 (IntKind.i64.wrap ((List.length v8 : Int) - (List.length v10 : Int))), [], [(54, some 1), (55, some 2)], []⟩,
          ⟨Fact.triv, [(57, some (arrE 103 r_u16 v11))], [(56, some 3)], []⟩,
          ⟨Fact.triv, [(57, none), (4, some (arrE 103 r_u16 v11))], [], [(57, some 4)]⟩] [8, 9, 10, 11] [4] hAt
          ⟨ok_move rfl opd0,
          ok_len un45 rfl opd0,
          ok_move rfl opd0,
          ok_sub rfl opd0 opd1,
          ok_makeArr hv11 el103 ty103 un45 rfl rfl opd0 opd0,
          (ok_moveOwn (f := Fact.triv) rfl rfl (.inr rfl) (fun _ _ _ => trivial)), trivial⟩ (by kernel_rfl) ?_
      clear hAt
      intro a w hAt
      replace hAt : At B h0 (mkG [(8, fV r_i64 v7), (9, fV (Rep.slice r_u16) v8), (10, fV (Rep.slice r_u16) v10), (11, fV r_i64 (List.length v10 : Int))]) (mkO [(4, arrE 103 r_u16 v11)]) F 109 a w := hAt
      refine then_n ?_
      refine wp_seq ?_
      refine wp_seq ?_
      refine reg [⟨fV (Rep.slice r_u16) v8, [], [(9, none)], []⟩,
          ⟨fV r_i64 (List.length v8 : Int), [], [(58, some 0)], []⟩,
          ⟨fV r_i64 (List.length v10 : Int), [], [(11, none)], []⟩,
          ⟨fV r_i64 (IntKind.i64.wrap ((List.length v8 : Int) - (List.length v10 : Int))), [], [(59, some 1), (60, some 2)], []⟩,
          ⟨fV r_i64 (IntKind.i64.wrap ((IntKind.i64.wrap ((List.length v8 : Int) - (List.length v10 : Int))) - 1)), [], [(61, some 3)], []⟩,
          ⟨fV r_i64 (IntKind.i64.wrap ((IntKind.i64.wrap ((List.length v8 : Int) - (List.length v10 : Int))) - 1)), [], [(62, some 4)], []⟩] [8, 9, 10, 11, 12] [4] hAt
          ⟨ok_move rfl opd0,
          ok_len un45 rfl opd0,
          ok_move rfl opd0,
          ok_sub rfl opd0 opd1,
          ok_sub rfl opd0 opdI,
          ok_assign rfl opd0, trivial⟩ (by kernel_rfl) ?_
      clear hAt
      intro a w hAt
      replace hAt : At B h0 (mkG [(8, fV r_i64 v7), (9, fV (Rep.slice r_u16) v8), (10, fV (Rep.slice r_u16) v10), (11, fV r_i64 (List.length v10 : Int)), (12, fV r_i64 (IntKind.i64.wrap ((IntKind.i64.wrap ((List.length v8 : Int) - (List.length v10 : Int))) - 1)))]) (mkO [(4, arrE 103 r_u16 v11)]) F 109 a w := hAt
      refine then_n ?_
      refine wp_block ?_
      obtain ⟨o17, hl18, H⟩ := bindE H
      refine wp_mono (wp_loopN (f := f_exact_divide_L2 N v8 v10) (fun (s12 : ((List Int) × Int)) a w => At B h0 (mkG [(8, fV r_i64 v7), (9, fV (Rep.slice r_u16) v8), (10, fV (Rep.slice r_u16) v10), (11, fV r_i64 (List.length v10 : Int)), (12, fV r_i64 s12.2)]) (mkO [(4, arrE 103 r_u16 s12.1)]) F 109 a w) (fun o e a w => (fun v => e = .exit 0 ∧ At B h0 (mkG [(8, fV r_i64 v7), (9, fV (Rep.slice r_u16) v8), (11, fV r_i64 (List.length v10 : Int))]) (mkO [(4, arrE 103 r_u16 v)]) F 109 a w) o) ?_ N (v11, (IntKind.i64.wrap ((IntKind.i64.wrap ((List.length v8 : Int) - (List.length v10 : Int))) - 1))) o17 _ _ hl18 ?_) ?_
      · clear H hAt hl18
        intro s12 r32 a w H hAt
        unfold f_exact_divide_L2 at H
        refine wp_seq ?_
        refine wp_seq ?_
        refine reg [⟨fV r_i64 s12.2, [], [(12, none)], []⟩,
            ⟨fV Rep.bool (cmpI .geq s12.2 0), [], [(63, some 0)], []⟩] [8, 9, 10, 11, 12, 64] [4] hAt
            ⟨ok_move rfl opd0,
            ok_cmp (op := .geq) (by simp) rfl rfl opd0 opdI, trivial⟩ (by kernel_rfl) ?_
        clear hAt
        intro a w hAt
        replace hAt : At B h0 (mkG [(8, fV r_i64 v7), (9, fV (Rep.slice r_u16) v8), (10, fV (Rep.slice r_u16) v10), (11, fV r_i64 (List.length v10 : Int)), (12, fV r_i64 s12.2), (64, fV Rep.bool (cmpI .geq s12.2 0))]) (mkO [(4, arrE 103 r_u16 s12.1)]) F 109 a w := hAt
        refine then_n ?_
        refine wp_if hAt (by rfl) ?_ ?_
        · intro hb16
          have H := iteT hb16 H
          refine wp_skip ?_
          refine then_n ?_
          refine wp_seq ?_
          refine wp_block ?_
          obtain ⟨v13, hv13, H⟩ := bindE H
          obtain ⟨v14, hv14, H⟩ := bindE H
          obtain ⟨v15, hv15, H⟩ := bindE H
          refine reg [⟨fCp 4, [], [], []⟩,
              ⟨fV r_i64 s12.2, [], [(12, none)], []⟩,
              ⟨fV (Rep.slice r_u16) v8, [], [(9, none)], []⟩,
              ⟨fV r_i64 s12.2, [], [(12, none)], []⟩,
              ⟨fV r_i64 s12.2, [], [(12, none)], []⟩,
              ⟨fV r_i64 (List.length v10 : Int), [], [(11, none)], []⟩,
              ⟨fV r_i64 (IntKind.i64.wrap (s12.2 + (List.length v10 : Int))), [], [(71, some 4), (72, some 5)], []⟩,
              ⟨fV r_i64 (IntKind.i64.wrap ((IntKind.i64.wrap (s12.2 + (List.length v10 : Int))) + 1)), [], [(73, some 6)], []⟩,
              ⟨fV (Rep.slice r_u16) v13, [], [(69, some 2), (70, some 3), (74, some 7)], []⟩,
              ⟨fV (Rep.slice r_u16) v10, [], [(10, none)], []⟩,
              ⟨fV r_u16 v14, [], [(75, some 8), (76, some 9)], []⟩,
              ⟨fEl 4 ((Int.toNat s12.2) * r_u16.sz + 0), [], [(67, some 0), (68, some 1)], [(4, none)]⟩,
              ⟨Fact.triv, [(4, some (arrE 103 r_u16 (List.set s12.1 (Int.toNat s12.2) v14)))], [(78, some 11), (77, some 10)], [(4, none)]⟩] [8, 9, 10, 11, 12] [4] hAt
              ⟨ok_cp rfl,
              ok_move rfl opd0,
              ok_move rfl opd0,
              ok_move rfl opd0,
              ok_move rfl opd0,
              ok_move rfl opd0,
              ok_add rfl opd0 opd1,
              ok_add rfl opd0 opdI,
              ok_slice hv13 ty103 un45 rfl opd0 (bndS opd1) (bndS opd2),
              ok_move rfl opd0,
              ok_call (ok_f_exact_digit N v13 v10 _ hv14) Try.func174 (by kernel_rfl) (by kernel_rfl) rfl ⟨opd0, ⟨opd1, trivial⟩⟩,
              ok_elArr hv15 ty103 un45 rfl opd0 opd1,
              ok_storeArr (idx_spec hv15).2.2 (Lens.refl _) ty103 rfl rfl opd0 opd1 rfl, trivial⟩ (by kernel_rfl) ?_
          clear hAt
          intro a w hAt
          replace hAt : At B h0 (mkG [(8, fV r_i64 v7), (9, fV (Rep.slice r_u16) v8), (10, fV (Rep.slice r_u16) v10), (11, fV r_i64 (List.length v10 : Int)), (12, fV r_i64 s12.2)]) (mkO [(4, arrE 103 r_u16 (List.set s12.1 (Int.toNat s12.2) v14))]) F 109 a w := hAt
          refine blk_n ?_
          refine then_n ?_
          refine reg [⟨fV r_i64 s12.2, [], [(12, none)], []⟩,
              ⟨fV r_i64 (IntKind.i64.wrap (s12.2 - 1)), [], [(65, some 0)], []⟩,
              ⟨fV r_i64 (IntKind.i64.wrap (s12.2 - 1)), [], [(66, some 1)], []⟩] [8, 9, 10, 11, 12] [4] hAt
              ⟨ok_move rfl opd0,
              ok_sub rfl opd0 opdI,
              ok_assign rfl opd0, trivial⟩ (by kernel_rfl) ?_
          clear hAt
          intro a w hAt
          replace hAt : At B h0 (mkG [(8, fV r_i64 v7), (9, fV (Rep.slice r_u16) v8), (10, fV (Rep.slice r_u16) v10), (11, fV r_i64 (List.length v10 : Int)), (12, fV r_i64 (IntKind.i64.wrap (s12.2 - 1)))]) (mkO [(4, arrE 103 r_u16 (List.set s12.1 (Int.toNat s12.2) v14))]) F 109 a w := hAt
          cases H
          exact ⟨rfl, hAt.pick [8, 9, 10, 11, 12] [4]⟩
        · intro hb16
          have H := iteF hb16 H
          refine wp_exit ?_
          refine then_x ?_
          cases H
          exact ⟨ex_ne, rfl, hAt.pick [8, 9, 11] [4]⟩
      · exact hAt.pick [8, 9, 10, 11, 12] [4]
      · clear hAt
        intro e a w hp
        obtain ⟨rfl, hAt⟩ := hp
        refine blk_eq ?_
        refine then_n ?_
        refine wp_seq ?_
        obtain ⟨v19, hv19, H⟩ := bindE H
        refine reg [⟨fV r_i64 (List.length v10 : Int), [], [(11, none)], []⟩,
            ⟨Fact.triv, [(80, some (arrE 103 r_u16 v19))], [(79, some 0)], []⟩,
            ⟨Fact.triv, [(80, none), (5, some (arrE 103 r_u16 v19))], [], [(80, some 1)]⟩] [8, 9, 11] [4, 5] hAt
            ⟨ok_move rfl opd0,
            ok_makeArr hv19 el103 ty103 un45 rfl rfl opd0 opd0,
            (ok_moveOwn (f := Fact.triv) rfl rfl (.inr rfl) (fun _ _ _ => trivial)), trivial⟩ (by kernel_rfl) ?_
        clear hAt
        intro a w hAt
        replace hAt : At B h0 (mkG [(8, fV r_i64 v7), (9, fV (Rep.slice r_u16) v8), (11, fV r_i64 (List.length v10 : Int))]) (mkO [(4, arrE 103 r_u16 o17), (5, arrE 103 r_u16 v19)]) F 109 a w := hAt
        refine then_n ?_
        refine wp_seq ?_
        refine wp_seq ?_
        refine reg [⟨fV r_i64 (List.length v10 : Int), [], [(11, none)], []⟩,
            ⟨fV r_i64 0, [], [], []⟩] [8, 9, 81, 82] [4, 5] hAt
            ⟨ok_move rfl opd0,
            ok_move rfl opdI, trivial⟩ (by kernel_rfl) ?_
        clear hAt
        intro a w hAt
        replace hAt : At B h0 (mkG [(8, fV r_i64 v7), (9, fV (Rep.slice r_u16) v8), (81, fV r_i64 (List.length v10 : Int)), (82, fV r_i64 0)]) (mkO [(4, arrE 103 r_u16 o17), (5, arrE 103 r_u16 v19)]) F 109 a w := hAt
        refine then_n ?_
        refine wp_block ?_
        obtain ⟨o27, hl28, H⟩ := bindE H
        refine wp_mono (wp_loopN (f := f_exact_divide_L1 N v7 v8 v10) (fun (s20 : ((List Int) × Int)) a w => At B h0 (mkG [(8, fV r_i64 v7), (9, fV (Rep.slice r_u16) v8), (81, fV r_i64 (List.length v10 : Int)), (82, fV r_i64 s20.2)]) (mkO [(4, arrE 103 r_u16 o17), (5, arrE 103 r_u16 s20.1)]) F 109 a w) (fun o e a w => (fun v => e = .exit 2 ∧ At B h0 (mkG []) (mkO [(4, arrE 103 r_u16 o17), (5, arrE 103 r_u16 v)]) F 109 a w) o) ?_ N (v19, 0) o27 _ _ hl28 ?_) ?_
        · clear H hAt hl28
          intro s20 r31 a w H hAt
          unfold f_exact_divide_L1 at H
          refine wp_seq ?_
          refine reg [⟨fV Rep.bool (cmpI .lss s20.2 (List.length v10 : Int)), [], [(82, none), (81, none)], []⟩] [8, 9, 81, 82, 83] [4, 5] hAt
              ⟨ok_cmp (op := .lss) (by simp) rfl rfl opd0 opd1, trivial⟩ (by kernel_rfl) ?_
          clear hAt
          intro a w hAt
          replace hAt : At B h0 (mkG [(8, fV r_i64 v7), (9, fV (Rep.slice r_u16) v8), (81, fV r_i64 (List.length v10 : Int)), (82, fV r_i64 s20.2), (83, fV Rep.bool (cmpI .lss s20.2 (List.length v10 : Int)))]) (mkO [(4, arrE 103 r_u16 o17), (5, arrE 103 r_u16 s20.1)]) F 109 a w := hAt
          refine then_n ?_
          refine wp_seq ?_
          refine wp_if hAt (by rfl) ?_ ?_
          · intro hb26
            have H := iteT hb26 H
            refine wp_skip ?_
            refine then_n ?_
            refine wp_seq ?_
            refine wp_block ?_
            refine wp_seq ?_
            refine reg [⟨fV r_i64 s20.2, [], [(82, none)], []⟩,
                ⟨fV r_i64 s20.2, [], [(84, some 0)], []⟩] [8, 9, 13, 81, 82] [4, 5] hAt
                ⟨ok_move rfl opd0,
                ok_assign rfl opd0, trivial⟩ (by kernel_rfl) ?_
            clear hAt
            intro a w hAt
            replace hAt : At B h0 (mkG [(8, fV r_i64 v7), (9, fV (Rep.slice r_u16) v8), (13, fV r_i64 s20.2), (81, fV r_i64 (List.length v10 : Int)), (82, fV r_i64 s20.2)]) (mkO [(4, arrE 103 r_u16 o17), (5, arrE 103 r_u16 s20.1)]) F 109 a w := hAt
            refine then_n ?_
            obtain ⟨v21, hv21, H⟩ := bindE H
            obtain ⟨v22, hv22, H⟩ := bindE H
            obtain ⟨v23, hv23, H⟩ := bindE H
            obtain ⟨v24, hv24, H⟩ := bindE H
            obtain ⟨v25, hv25, H⟩ := bindE H
            refine regd [⟨fCp 5, [], [], []⟩,
                ⟨fV r_i64 s20.2, [], [(13, none)], []⟩,
                ⟨fV (Rep.slice r_u16) v8, [], [(9, none)], []⟩,
                ⟨fV r_i64 s20.2, [], [(13, none)], []⟩,
                ⟨fRef r_u16 v21, [], [(87, some 2), (88, some 3)], []⟩,
                ⟨fV r_u16 v21, [], [(89, some 4)], []⟩,
                ⟨fV r_u32 (IntKind.u32.wrap v21), [], [(90, some 5)], []⟩,
                ⟨fV (Rep.slice r_u16) v8, [], [(9, none)], []⟩,
                ⟨fV r_i64 s20.2, [], [(13, none)], []⟩,
                ⟨fV r_i64 (IntKind.i64.wrap (s20.2 + 1)), [], [(93, some 8)], []⟩,
                ⟨fRef r_u16 v22, [], [(92, some 7), (94, some 9)], []⟩,
                ⟨fV r_u16 v22, [], [(95, some 10)], []⟩,
                ⟨fV r_u32 (IntKind.u32.wrap v22), [], [(96, some 11)], []⟩,
                ⟨fV r_u32 v23, [], [(97, some 12)], []⟩,
                ⟨fV r_u32 (bitI .or .u32 (IntKind.u32.wrap v21) v23), [], [(91, some 6), (98, some 13)], []⟩,
                ⟨fV r_i64 v7, [], [(8, none)], []⟩,
                ⟨fV r_u32 v24, [], [(99, some 14), (100, some 15)], []⟩,
                ⟨fV r_u16 (IntKind.u16.wrap v24), [], [(101, some 16)], []⟩,
                ⟨fEl 5 ((Int.toNat s20.2) * r_u16.sz + 0), [], [(85, some 0), (86, some 1)], [(5, none)]⟩,
                ⟨Fact.triv, [(5, some (arrE 103 r_u16 (List.set s20.1 (Int.toNat s20.2) (IntKind.u16.wrap v24))))], [(103, some 18), (102, some 17)], [(5, none)]⟩] [0, 1, 2, 3, 4, 5, 6, 7, 8, 9, 10, 11, 12, 13, 14, 15, 16, 17, 18, 19] [0, 1, 2, 3, 4, 5, 6, 7, 8, 9, 10, 11, 12, 13, 14, 15, 16, 17, 18, 19] [8, 9, 81, 82] [4, 5] hAt
                ⟨ok_cp rfl,
                ok_move rfl opd0,
                ok_move rfl opd0,
                ok_move rfl opd0,
                ok_index ty103 un45 hv21 rfl opd0 opd1,
                ok_load ty103 rfl opd0,
                ok_conv un103 un229 rfl opd0,
                ok_move rfl opd0,
                ok_move rfl opd0,
                ok_add rfl opd0 opdI,
                ok_index ty103 un45 hv22 rfl opd0 opd1,
                ok_load ty103 rfl opd0,
                ok_conv un103 un229 rfl opd0,
                ok_shl hv23 rfl opd0 opdI,
                ok_bit (op := .or) (by simp) rfl opd0 opd1,
                ok_move rfl opd0,
                ok_shr hv24 rfl opd0 opd1,
                ok_conv un229 un103 rfl opd0,
                ok_elArr hv25 ty103 un45 rfl opd0 opd1,
                ok_storeArr (idx_spec hv25).2.2 (Lens.refl _) ty103 rfl rfl opd0 opd1 rfl, trivial⟩ (by kernel_rfl) ?_
            clear hAt
            intro a w hAt
            replace hAt : At B h0 (mkG [(8, fV r_i64 v7), (9, fV (Rep.slice r_u16) v8), (81, fV r_i64 (List.length v10 : Int)), (82, fV r_i64 s20.2)]) (mkO [(4, arrE 103 r_u16 o17), (5, arrE 103 r_u16 (List.set s20.1 (Int.toNat s20.2) (IntKind.u16.wrap v24)))]) F 109 a w := hAt
            refine blk_n ?_
            refine then_n ?_
            refine reg [⟨fV r_i64 (IntKind.i64.wrap (s20.2 + 1)), [], [(82, none)], []⟩,
                ⟨fV r_i64 (IntKind.i64.wrap (s20.2 + 1)), [], [(104, some 0)], []⟩] [8, 9, 81, 82] [4, 5] hAt
                ⟨ok_add rfl opd0 opdI,
                ok_move rfl opd0, trivial⟩ (by kernel_rfl) ?_
            clear hAt
            intro a w hAt
            replace hAt : At B h0 (mkG [(8, fV r_i64 v7), (9, fV (Rep.slice r_u16) v8), (81, fV r_i64 (List.length v10 : Int)), (82, fV r_i64 (IntKind.i64.wrap (s20.2 + 1)))]) (mkO [(4, arrE 103 r_u16 o17), (5, arrE 103 r_u16 (List.set s20.1 (Int.toNat s20.2) (IntKind.u16.wrap v24)))]) F 109 a w := hAt
            cases H
            exact ⟨rfl, hAt.pick [8, 9, 81, 82] [4, 5]⟩
          · intro hb26
            have H := iteF hb26 H
            refine wp_exit ?_
            refine then_x ?_
            cases H
            exact ⟨ex_ne, rfl, hAt.pick [] [4, 5]⟩
        · exact hAt.pick [8, 9, 81, 82] [4, 5]
        · clear hAt
          intro e a w hp
          obtain ⟨rfl, hAt⟩ := hp
          refine blk_eq ?_
          refine then_n ?_
          refine wp_seq ?_
          have hAt := At.freeze 4 hAt rfl
          have hAt := At.freeze 5 hAt rfl
          replace hAt := hAt.pick [4, 5] []
          replace hAt : At B h0 (mkG [(4, fV (Rep.slice r_u16) o17), (5, fV (Rep.slice r_u16) o27)]) (mkO []) F 109 a w := hAt
          obtain ⟨v29, hv29, H⟩ := bindE H
          obtain ⟨v30, hv30, H⟩ := bindE H
          refine reg [⟨fV (Rep.slice r_u16) o17, [], [(4, none)], []⟩,
              ⟨fV (Rep.slice r_u16) v29, [], [(105, some 0)], []⟩,
              ⟨fV (Rep.slice r_u16) o27, [], [(5, none)], []⟩,
              ⟨fV (Rep.slice r_u16) v30, [], [(107, some 2)], []⟩,
              ⟨fV (Rep.slice r_u16) v29, [], [(106, some 1)], []⟩,
              ⟨fV (Rep.slice r_u16) v30, [], [(108, some 3)], []⟩] [4, 5] [] hAt
              ⟨ok_move rfl opd0,
              ok_call (ok_f_exact_trim N o17 _ hv29) Try.func143 (by kernel_rfl) (by kernel_rfl) rfl ⟨opd0, trivial⟩,
              ok_move rfl opd0,
              ok_call (ok_f_exact_trim N o27 _ hv30) Try.func143 (by kernel_rfl) (by kernel_rfl) rfl ⟨opd0, trivial⟩,
              ok_assign rfl opd0,
              ok_assign rfl opd0, trivial⟩ (by kernel_rfl) ?_
          clear hAt
          intro a w hAt
          replace hAt : At B h0 (mkG [(4, fV (Rep.slice r_u16) v29), (5, fV (Rep.slice r_u16) v30)]) (mkO []) F 109 a w := hAt
          refine then_n ?_
          refine wp_ret ?_
          cases H
          exact ret2 rfl (rv_tmp rfl rfl) (rv_tmp rfl rfl) hAt
theorem ok_f_exact_common (N : Nat) (x0 : (List Int)) (x1 : (List Int)) (r : (List Int)) (H : f_exact_common N x0 x1 = some r) : FnOk Try.prog 144 [fV (Rep.slice r_u16) x0, fV (Rep.slice r_u16) x1] (fV (Rep.slice r_u16) r) := by
  unfold f_exact_common at H
  refine fn_enter Try.func144 rfl rfl (by kernel_rfl) ?_
  intro κ B h0 F a w hAt
  refine wp_seq ?_
  refine reg [⟨fV (Rep.slice r_u16) [], [(4, some (tipE 103 r_u16.sz))], [], []⟩] [0, 1] [] hAt
      ⟨ok_nilTip rfl (.inl rfl), trivial⟩ (by kernel_rfl) ?_
  clear hAt
  intro a w hAt
  replace hAt : At B h0 (mkG [(0, fV (Rep.slice r_u16) x0), (1, fV (Rep.slice r_u16) x1)]) (mkO []) F 45 a w := hAt
  refine then_n ?_
  refine wp_seq ?_
  refine wp_block ?_
  obtain ⟨o14, hl15, H⟩ := bindE H
  refine wp_mono (wp_loopN (f := f_exact_common_L2 N) (fun (s1 : ((List Int) × (List Int))) a w => At B h0 (mkG [(0, fV (Rep.slice r_u16) s1.1), (1, fV (Rep.slice r_u16) s1.2)]) (mkO []) F 45 a w) (fun o e a w => (Sum.elim (fun v => e = .exit 0 ∧ At B h0 (mkG [(0, fV (Rep.slice r_u16) v)]) (mkO []) F 45 a w) (fun v => e = .ret ∧ At B h0 (mkG [(4, fV (Rep.slice r_u16) v)]) (mkO []) F 45 a w)) o) ?_ N (x0, x1) o14 _ _ hl15 ?_) ?_
  · clear H hAt hl15
    intro s1 r18 a w H hAt
    unfold f_exact_common_L2 at H
    refine wp_seq ?_
    refine wp_seq ?_
    refine reg [⟨fV (Rep.slice r_u16) s1.2, [], [(1, none)], []⟩,
        ⟨fV r_i64 (List.length s1.2 : Int), [], [(11, some 0)], []⟩,
        ⟨fV Rep.bool (cmpI .gtr (List.length s1.2 : Int) 0), [], [(12, some 1)], []⟩] [0, 1, 13] [] hAt
        ⟨ok_move rfl opd0,
        ok_len un45 rfl opd0,
        ok_cmp (op := .gtr) (by simp) rfl rfl opd0 opdI, trivial⟩ (by kernel_rfl) ?_
    clear hAt
    intro a w hAt
    replace hAt : At B h0 (mkG [(0, fV (Rep.slice r_u16) s1.1), (1, fV (Rep.slice r_u16) s1.2), (13, fV Rep.bool (cmpI .gtr (List.length s1.2 : Int) 0))]) (mkO []) F 45 a w := hAt
    refine then_n ?_
    refine wp_if hAt (by rfl) ?_ ?_
    · intro hb13
      have H := iteT hb13 H
      refine wp_skip ?_
      refine then_n ?_
      refine wp_block ?_
      refine wp_seq ?_
      obtain ⟨v2, hv2, H⟩ := bindE H
      refine reg [⟨fV (Rep.slice r_u16) s1.1, [], [(0, none)], []⟩,
          ⟨fT2 (fV r_u64 v2.1) (fV Rep.bool v2.2), [], [(15, some 0)], []⟩,
          ⟨fT2 (fV r_u64 v2.1) (fV Rep.bool v2.2), [], [(16, some 1)], []⟩,
          ⟨fV r_u64 v2.1, [], [(14, some 2)], []⟩,
          ⟨fV Rep.bool v2.2, [], [(14, some 2)], []⟩,
          ⟨fV r_u64 v2.1, [], [(17, some 3)], []⟩,
          ⟨fV Rep.bool v2.2, [], [(18, some 4)], []⟩] [0, 1, 5, 6] [] hAt
          ⟨ok_move rfl opd0,
          ok_call (ok_f_exact_word N s1.1 _ hv2) Try.func169 (by kernel_rfl) (by kernel_rfl) rfl ⟨opd0, trivial⟩,
          ok_move rfl opd0,
          ok_ext20 rfl rfl opd0,
          ok_ext21 rfl rfl opd0,
          ok_assign rfl opd0,
          ok_assign rfl opd0, trivial⟩ (by kernel_rfl) ?_
      clear hAt
      intro a w hAt
      replace hAt : At B h0 (mkG [(0, fV (Rep.slice r_u16) s1.1), (1, fV (Rep.slice r_u16) s1.2), (5, fV r_u64 v2.1), (6, fV Rep.bool v2.2)]) (mkO []) F 45 a w := hAt
      refine then_n ?_
      refine wp_seq ?_
      obtain ⟨v3, hv3, H⟩ := bindE H
      refine reg [⟨fV (Rep.slice r_u16) s1.2, [], [(1, none)], []⟩,
          ⟨fT2 (fV r_u64 v3.1) (fV Rep.bool v3.2), [], [(20, some 0)], []⟩,
          ⟨fT2 (fV r_u64 v3.1) (fV Rep.bool v3.2), [], [(21, some 1)], []⟩,
          ⟨fV r_u64 v3.1, [], [(19, some 2)], []⟩,
          ⟨fV Rep.bool v3.2, [], [(19, some 2)], []⟩,
          ⟨fV r_u64 v3.1, [], [(22, some 3)], []⟩,
          ⟨fV Rep.bool v3.2, [], [(23, some 4)], []⟩] [0, 1, 5, 6, 7, 8] [] hAt
          ⟨ok_move rfl opd0,
          ok_call (ok_f_exact_word N s1.2 _ hv3) Try.func169 (by kernel_rfl) (by kernel_rfl) rfl ⟨opd0, trivial⟩,
          ok_move rfl opd0,
          ok_ext20 rfl rfl opd0,
          ok_ext21 rfl rfl opd0,
          ok_assign rfl opd0,
          ok_assign rfl opd0, trivial⟩ (by kernel_rfl) ?_
      clear hAt
      intro a w hAt
      replace hAt : At B h0 (mkG [(0, fV (Rep.slice r_u16) s1.1), (1, fV (Rep.slice r_u16) s1.2), (5, fV r_u64 v2.1), (6, fV Rep.bool v2.2), (7, fV r_u64 v3.1), (8, fV Rep.bool v3.2)]) (mkO []) F 45 a w := hAt
      refine then_n ?_
      refine wp_seq ?_
      refine wp_seq ?_
      refine reg [⟨fV Rep.bool v2.2, [], [(6, none)], []⟩,
          ⟨fV Rep.bool v2.2, [], [(24, some 0)], []⟩,
          ⟨Fact.when (v2.2 = true) (fV Rep.bool v3.2), [], [(25, some 1), (8, none)], []⟩,
          ⟨fV Rep.bool (v2.2 && v3.2), [], [(25, some 1), (26, some 2)], []⟩] [0, 1, 5, 7, 27] [] hAt
          ⟨ok_move rfl opd0,
          ok_move rfl opd0,
          obl_tt rfl rfl rfl rfl rfl rfl rfl (fun hg => ok_move rfl opd1),
          ok_and rfl opd0 (fun e => (opd1.on e)), trivial⟩ (by kernel_rfl) ?_
      clear hAt
      intro a w hAt
      replace hAt : At B h0 (mkG [(0, fV (Rep.slice r_u16) s1.1), (1, fV (Rep.slice r_u16) s1.2), (5, fV r_u64 v2.1), (7, fV r_u64 v3.1), (27, fV Rep.bool (v2.2 && v3.2))]) (mkO []) F 45 a w := hAt
      refine then_n ?_
      refine wp_if hAt (by rfl) ?_ ?_
      · intro hb12
        have H := iteT hb12 H
        refine wp_seq ?_
        refine wp_block ?_
        obtain ⟨o7, hl8, H⟩ := bindE H
        refine wp_mono (wp_loopN (f := f_exact_common_L1 N) (fun (s4 : (Int × Int)) a w => At B h0 (mkG [(5, fV r_u64 s4.1), (7, fV r_u64 s4.2)]) (mkO []) F 45 a w) (fun o e a w => (fun v => e = .exit 2 ∧ At B h0 (mkG [(5, fV r_u64 v)]) (mkO []) F 45 a w) o) ?_ N (v2.1, v3.1) o7 _ _ hl8 ?_) ?_
        · clear H hAt hl8
          intro s4 r10 a w H hAt
          unfold f_exact_common_L1 at H
          refine wp_seq ?_
          refine wp_seq ?_
          refine reg [⟨fV r_u64 s4.2, [], [(7, none)], []⟩,
              ⟨fV Rep.bool (cmpI .gtr s4.2 0), [], [(28, some 0)], []⟩] [5, 7, 29] [] hAt
              ⟨ok_move rfl opd0,
              ok_cmp (op := .gtr) (by simp) rfl rfl opd0 opdI, trivial⟩ (by kernel_rfl) ?_
          clear hAt
          intro a w hAt
          replace hAt : At B h0 (mkG [(5, fV r_u64 s4.1), (7, fV r_u64 s4.2), (29, fV Rep.bool (cmpI .gtr s4.2 0))]) (mkO []) F 45 a w := hAt
          refine then_n ?_
          refine wp_if hAt (by rfl) ?_ ?_
          · intro hb6
            have H := iteT hb6 H
            refine wp_skip ?_
            refine then_n ?_
            refine wp_block ?_
            obtain ⟨v5, hv5, H⟩ := bindE H
            refine regd [⟨fV r_u64 s4.2, [], [(7, none)], []⟩,
                ⟨fV r_u64 s4.1, [], [(5, none)], []⟩,
                ⟨fV r_u64 s4.2, [], [(7, none)], []⟩,
                ⟨fV r_u64 v5, [], [(31, some 1), (32, some 2)], []⟩,
                ⟨fV r_u64 s4.2, [], [(30, some 0)], []⟩,
                ⟨fV r_u64 v5, [], [(33, some 3)], []⟩] [0, 1, 2, 3, 4, 5] [0, 1, 2, 3, 4, 5] [5, 7] [] hAt
                ⟨ok_move rfl opd0,
                ok_move rfl opd0,
                ok_move rfl opd0,
                ok_rem hv5 rfl opd0 opd1,
                ok_assign rfl opd0,
                ok_assign rfl opd0, trivial⟩ (by kernel_rfl) ?_
            clear hAt
            intro a w hAt
            replace hAt : At B h0 (mkG [(5, fV r_u64 s4.2), (7, fV r_u64 v5)]) (mkO []) F 45 a w := hAt
            refine blk_n ?_
            cases H
            exact ⟨rfl, hAt.pick [5, 7] []⟩
          · intro hb6
            have H := iteF hb6 H
            refine wp_exit ?_
            refine then_x ?_
            cases H
            exact ⟨ex_ne, rfl, hAt.pick [5] []⟩
        · exact hAt.pick [5, 7] []
        · clear hAt
          intro e a w hp
          obtain ⟨rfl, hAt⟩ := hp
          refine blk_eq ?_
          refine then_n ?_
          refine wp_seq ?_
          obtain ⟨v9, hv9, H⟩ := bindE H
          refine reg [⟨fV r_u64 o7, [], [(5, none)], []⟩,
              ⟨fV (Rep.slice r_u16) v9, [], [(34, some 0)], []⟩,
              ⟨fV (Rep.slice r_u16) v9, [], [(35, some 1)], []⟩] [4] [] hAt
              ⟨ok_move rfl opd0,
              ok_call (ok_f_exact_natural N o7 _ hv9) Try.func168 (by kernel_rfl) (by kernel_rfl) rfl ⟨opd0, trivial⟩,
              ok_assign rfl opd0, trivial⟩ (by kernel_rfl) ?_
          clear hAt
          intro a w hAt
          replace hAt : At B h0 (mkG [(4, fV (Rep.slice r_u16) v9)]) (mkO []) F 45 a w := hAt
          refine then_n ?_
          refine wp_ret ?_
          refine then_r ?_
          refine blk_r ?_
          cases H
          exact ⟨ret_ne, rfl, hAt.pick [4] []⟩
      · intro hb12
        have H := iteF hb12 H
        refine wp_skip ?_
        refine then_n ?_
        refine wp_seq ?_
        obtain ⟨v11, hv11, H⟩ := bindE H
        refine reg [⟨fV (Rep.slice r_u16) s1.1, [], [(0, none)], []⟩,
            ⟨fV (Rep.slice r_u16) s1.2, [], [(1, none)], []⟩,
            ⟨fT2 (fV (Rep.slice r_u16) v11.1) (fV (Rep.slice r_u16) v11.2), [], [(37, some 0), (38, some 1)], []⟩,
            ⟨fT2 (fV (Rep.slice r_u16) v11.1) (fV (Rep.slice r_u16) v11.2), [], [(39, some 2)], []⟩,
            ⟨fV (Rep.slice r_u16) v11.1, [], [(36, some 3)], []⟩,
            ⟨fV (Rep.slice r_u16) v11.2, [], [(36, some 3)], []⟩,
            ⟨fV (Rep.slice r_u16) v11.1, [], [(40, some 4)], []⟩,
            ⟨fV (Rep.slice r_u16) v11.2, [], [(41, some 5)], []⟩] [1, 10] [] hAt
            ⟨ok_move rfl opd0,
            ok_move rfl opd0,
            ok_call (ok_f_exact_divide N s1.1 s1.2 _ hv11) Try.func145 (by kernel_rfl) (by kernel_rfl) rfl ⟨opd0, ⟨opd1, trivial⟩⟩,
            ok_move rfl opd0,
            ok_ext20 rfl rfl opd0,
            ok_ext21 rfl rfl opd0,
            ok_assign rfl opd0,
            ok_assign rfl opd0, trivial⟩ (by kernel_rfl) ?_
        clear hAt
        intro a w hAt
        replace hAt : At B h0 (mkG [(1, fV (Rep.slice r_u16) s1.2), (10, fV (Rep.slice r_u16) v11.2)]) (mkO []) F 45 a w := hAt
        refine then_n ?_
        refine reg [⟨fV (Rep.slice r_u16) s1.2, [], [(1, none)], []⟩,
            ⟨fV (Rep.slice r_u16) v11.2, [], [(10, none)], []⟩,
            ⟨fV (Rep.slice r_u16) s1.2, [], [(42, some 0)], []⟩,
            ⟨fV (Rep.slice r_u16) v11.2, [], [(43, some 1)], []⟩] [0, 1] [] hAt
            ⟨ok_move rfl opd0,
            ok_move rfl opd0,
            ok_assign rfl opd0,
            ok_assign rfl opd0, trivial⟩ (by kernel_rfl) ?_
        clear hAt
        intro a w hAt
        replace hAt : At B h0 (mkG [(0, fV (Rep.slice r_u16) s1.2), (1, fV (Rep.slice r_u16) v11.2)]) (mkO []) F 45 a w := hAt
        refine blk_n ?_
        cases H
        exact ⟨rfl, hAt.pick [0, 1] []⟩
    · intro hb13
      have H := iteF hb13 H
      refine wp_exit ?_
      refine then_x ?_
      cases H
      exact ⟨ex_ne, rfl, hAt.pick [0] []⟩
  · exact hAt.pick [0, 1] []
  · clear hAt
    intro e a w hp
    cases o14 with
    | inl l16 =>
      rw [Sum.elim_inl] at H
      obtain ⟨rfl, hAt⟩ := hp
      refine blk_eq ?_
      refine then_n ?_
      refine wp_seq ?_
      refine reg [⟨fV (Rep.slice r_u16) l16, [], [(0, none)], []⟩,
          ⟨fV (Rep.slice r_u16) l16, [], [(44, some 0)], []⟩] [4] [] hAt
          ⟨ok_move rfl opd0,
          ok_assign rfl opd0, trivial⟩ (by kernel_rfl) ?_
      clear hAt
      intro a w hAt
      replace hAt : At B h0 (mkG [(4, fV (Rep.slice r_u16) l16)]) (mkO []) F 45 a w := hAt
      refine then_n ?_
      refine wp_ret ?_
      cases H
      exact ret1 rfl (rv_tmp rfl rfl) hAt
    | inr r17 =>
      rw [Sum.elim_inr] at H
      replace hp := hp
      obtain ⟨rfl, hAt⟩ := hp
      refine blk_r ?_
      refine then_r ?_
      cases H
      exact ret1 rfl (rv_tmp rfl rfl) hAt
theorem ok_f_exact_fraction (N : Nat) (x0 : GInt) (x1 : GInt) (r : GRat) (H : f_exact_fraction N x0 x1 = some r) : FnOk Try.prog 112 [fV GInt.rep x0, fV GInt.rep x1] (fV GRat.rep r) := by
  unfold f_exact_fraction at H
  refine fn_enter Try.func112 rfl rfl (by kernel_rfl) ?_
  intro κ B h0 F a w hAt
  refine wp_seq ?_
  refine reg [⟨fRef GInt.rep x0, [], [(0, none)], []⟩,
      ⟨fRef GInt.rep x1, [], [(1, none)], []⟩,
      ⟨Fact.triv, [(4, some (boxE 49 GRat.rep (⟨(⟨false, []⟩ : GInt), (⟨false, []⟩ : GInt)⟩ : GRat)))], [], []⟩] [2, 3] [4] hAt
      ⟨ok_box rfl opd0,
      ok_box rfl opd0,
      ok_alloc ty49 rfl rfl, trivial⟩ (by kernel_rfl) ?_
  clear hAt
  intro a w hAt
  replace hAt : At B h0 (mkG [(2, fRef GInt.rep x0), (3, fRef GInt.rep x1)]) (mkO [(4, boxE 49 GRat.rep (⟨(⟨false, []⟩ : GInt), (⟨false, []⟩ : GInt)⟩ : GRat))]) F 48 a w := hAt
  refine then_n ?_
  refine wp_seq ?_
  obtain ⟨v1, hv1, H⟩ := bindE H
  obtain ⟨v2, hv2, H⟩ := bindE H
  refine regd [⟨fRef (Rep.slice r_u16) x0.Limbs, [], [(2, none)], []⟩,
      ⟨fV (Rep.slice r_u16) x0.Limbs, [], [(8, some 0)], []⟩,
      ⟨fV (Rep.slice r_u16) v1, [], [(9, some 1)], []⟩,
      ⟨fRef (Rep.slice r_u16) x1.Limbs, [], [(3, none)], []⟩,
      ⟨fV (Rep.slice r_u16) x1.Limbs, [], [(11, some 3)], []⟩,
      ⟨fV (Rep.slice r_u16) v2, [], [(12, some 4)], []⟩,
      ⟨fV (Rep.slice r_u16) v1, [], [(10, some 2)], []⟩,
      ⟨fV (Rep.slice r_u16) v2, [], [(13, some 5)], []⟩] [0, 1, 2, 3, 4, 5, 6, 7] [0, 1, 2, 3, 4, 5, 6, 7] [2, 3, 5, 6] [4] hAt
      ⟨ok_field GInt.l1 fo47_1 rfl opd0,
      ok_load ty45 rfl opd0,
      ok_call (ok_f_exact_trim N x0.Limbs _ hv1) Try.func143 (by kernel_rfl) (by kernel_rfl) rfl ⟨opd0, trivial⟩,
      ok_field GInt.l1 fo47_1 rfl opd0,
      ok_load ty45 rfl opd0,
      ok_call (ok_f_exact_trim N x1.Limbs _ hv2) Try.func143 (by kernel_rfl) (by kernel_rfl) rfl ⟨opd0, trivial⟩,
      ok_assign rfl opd0,
      ok_assign rfl opd0, trivial⟩ (by kernel_rfl) ?_
  clear hAt
  intro a w hAt
  replace hAt : At B h0 (mkG [(2, fRef GInt.rep x0), (3, fRef GInt.rep x1), (5, fV (Rep.slice r_u16) v1), (6, fV (Rep.slice r_u16) v2)]) (mkO [(4, boxE 49 GRat.rep (⟨(⟨false, []⟩ : GInt), (⟨false, []⟩ : GInt)⟩ : GRat))]) F 48 a w := hAt
  refine then_n ?_
  refine wp_seq ?_
  obtain ⟨v3, hv3, H⟩ := bindE H
  refine reg [⟨fV (Rep.slice r_u16) v1, [], [(5, none)], []⟩,
      ⟨fV (Rep.slice r_u16) v2, [], [(6, none)], []⟩,
      ⟨fV (Rep.slice r_u16) v3, [], [(14, some 0), (15, some 1)], []⟩,
      ⟨fV (Rep.slice r_u16) v3, [], [(16, some 2)], []⟩] [2, 3, 5, 6, 7] [4] hAt
      ⟨ok_move rfl opd0,
      ok_move rfl opd0,
      ok_call (ok_f_exact_common N v1 v2 _ hv3) Try.func144 (by kernel_rfl) (by kernel_rfl) rfl ⟨opd0, ⟨opd1, trivial⟩⟩,
      ok_assign rfl opd0, trivial⟩ (by kernel_rfl) ?_
  clear hAt
  intro a w hAt
  replace hAt : At B h0 (mkG [(2, fRef GInt.rep x0), (3, fRef GInt.rep x1), (5, fV (Rep.slice r_u16) v1), (6, fV (Rep.slice r_u16) v2), (7, fV (Rep.slice r_u16) v3)]) (mkO [(4, boxE 49 GRat.rep (⟨(⟨false, []⟩ : GInt), (⟨false, []⟩ : GInt)⟩ : GRat))]) F 48 a w := hAt
  refine then_n ?_
  refine wp_seq ?_
  refine wp_seq ?_
  obtain ⟨v4, hv4, H⟩ := bindE H
  refine reg [⟨fV (Rep.slice r_u16) v3, [], [(7, none)], []⟩,
      ⟨fV r_i64 (List.length v3 : Int), [], [(17, some 0)], []⟩,
      ⟨fV Rep.bool (cmpI .neq (List.length v3 : Int) 1), [], [(18, some 1)], []⟩,
      ⟨fV Rep.bool (cmpI .neq (List.length v3 : Int) 1), [], [(19, some 2)], []⟩,
      ⟨Fact.when ((!(cmpI .neq (List.length v3 : Int) 1)) = true) (fV (Rep.slice r_u16) v3), [], [(20, some 3), (7, none)], []⟩,
      ⟨Fact.when ((!(cmpI .neq (List.length v3 : Int) 1)) = true) (fRef r_u16 v4), [], [(20, some 3), (21, some 4)], []⟩,
      ⟨Fact.when ((!(cmpI .neq (List.length v3 : Int) 1)) = true) (fV r_u16 v4), [], [(20, some 3), (22, some 5)], []⟩,
      ⟨Fact.when ((!(cmpI .neq (List.length v3 : Int) 1)) = true) (fV Rep.bool (cmpI .neq v4 1)), [], [(20, some 3), (23, some 6)], []⟩,
      ⟨fV Rep.bool ((cmpI .neq (List.length v3 : Int) 1) || (cmpI .neq v4 1)), [], [(20, some 3), (24, some 7)], []⟩] [2, 3, 5, 6, 7, 25] [4] hAt
      ⟨ok_move rfl opd0,
      ok_len un45 rfl opd0,
      ok_cmp (op := .neq) (by simp) rfl rfl opd0 opdI,
      ok_move rfl opd0,
      obl_tf rfl rfl rfl rfl rfl rfl rfl (fun hg => ok_move rfl opd1),
      obl_tf rfl rfl rfl rfl rfl rfl rfl (fun hg => ok_index ty103 un45 (iteT hg hv4) rfl (opd1.on hg) opdI),
      obl_tf rfl rfl rfl rfl rfl rfl rfl (fun hg => ok_load ty103 rfl (opd1.on hg)),
      obl_tf rfl rfl rfl rfl rfl rfl rfl (fun hg => ok_cmp (op := .neq) (by simp) rfl rfl (opd1.on hg) opdI),
      ok_or rfl opd0 (fun e => (opd1.on (notT e))), trivial⟩ (by kernel_rfl) ?_
  clear hAt
  intro a w hAt
  replace hAt : At B h0 (mkG [(2, fRef GInt.rep x0), (3, fRef GInt.rep x1), (5, fV (Rep.slice r_u16) v1), (6, fV (Rep.slice r_u16) v2), (7, fV (Rep.slice r_u16) v3), (25, fV Rep.bool ((cmpI .neq (List.length v3 : Int) 1) || (cmpI .neq v4 1)))]) (mkO [(4, boxE 49 GRat.rep (⟨(⟨false, []⟩ : GInt), (⟨false, []⟩ : GInt)⟩ : GRat))]) F 48 a w := hAt
  refine then_n ?_
  refine wp_if hAt (by rfl) ?_ ?_
  · intro hb11
    have H := iteT hb11 H
    refine wp_seq ?_
    obtain ⟨v5, hv5, H⟩ := bindE H
    refine reg [⟨fV (Rep.slice r_u16) v1, [], [(5, none)], []⟩,
        ⟨fV (Rep.slice r_u16) v3, [], [(7, none)], []⟩,
        ⟨fT2 (fV (Rep.slice r_u16) v5.1) (fV (Rep.slice r_u16) v5.2), [], [(27, some 0), (28, some 1)], []⟩,
        ⟨fT2 (fV (Rep.slice r_u16) v5.1) (fV (Rep.slice r_u16) v5.2), [], [(29, some 2)], []⟩,
        ⟨fV (Rep.slice r_u16) v5.1, [], [(26, some 3)], []⟩,
        ⟨fV (Rep.slice r_u16) v5.2, [], [(26, some 3)], []⟩,
        ⟨fV (Rep.slice r_u16) v5.1, [], [(30, some 4)], []⟩] [2, 3, 5, 6, 7] [4] hAt
        ⟨ok_move rfl opd0,
        ok_move rfl opd0,
        ok_call (ok_f_exact_divide N v1 v3 _ hv5) Try.func145 (by kernel_rfl) (by kernel_rfl) rfl ⟨opd0, ⟨opd1, trivial⟩⟩,
        ok_move rfl opd0,
        ok_ext20 rfl rfl opd0,
        ok_ext21 rfl rfl opd0,
        ok_assign rfl opd0, trivial⟩ (by kernel_rfl) ?_
    clear hAt
    intro a w hAt
    replace hAt : At B h0 (mkG [(2, fRef GInt.rep x0), (3, fRef GInt.rep x1), (5, fV (Rep.slice r_u16) v5.1), (6, fV (Rep.slice r_u16) v2), (7, fV (Rep.slice r_u16) v3)]) (mkO [(4, boxE 49 GRat.rep (⟨(⟨false, []⟩ : GInt), (⟨false, []⟩ : GInt)⟩ : GRat))]) F 48 a w := hAt
    refine then_n ?_
    obtain ⟨v6, hv6, H⟩ := bindE H
    refine reg [⟨fV (Rep.slice r_u16) v2, [], [(6, none)], []⟩,
        ⟨fV (Rep.slice r_u16) v3, [], [(7, none)], []⟩,
        ⟨fT2 (fV (Rep.slice r_u16) v6.1) (fV (Rep.slice r_u16) v6.2), [], [(33, some 0), (34, some 1)], []⟩,
        ⟨fT2 (fV (Rep.slice r_u16) v6.1) (fV (Rep.slice r_u16) v6.2), [], [(35, some 2)], []⟩,
        ⟨fV (Rep.slice r_u16) v6.1, [], [(32, some 3)], []⟩,
        ⟨fV (Rep.slice r_u16) v6.2, [], [(32, some 3)], []⟩,
        ⟨fV (Rep.slice r_u16) v6.1, [], [(36, some 4)], []⟩] [2, 3, 5, 6] [4] hAt
        ⟨ok_move rfl opd0,
        ok_move rfl opd0,
        ok_call (ok_f_exact_divide N v2 v3 _ hv6) Try.func145 (by kernel_rfl) (by kernel_rfl) rfl ⟨opd0, ⟨opd1, trivial⟩⟩,
        ok_move rfl opd0,
        ok_ext20 rfl rfl opd0,
        ok_ext21 rfl rfl opd0,
        ok_assign rfl opd0, trivial⟩ (by kernel_rfl) ?_
    clear hAt
    intro a w hAt
    replace hAt : At B h0 (mkG [(2, fRef GInt.rep x0), (3, fRef GInt.rep x1), (5, fV (Rep.slice r_u16) v5.1), (6, fV (Rep.slice r_u16) v6.1)]) (mkO [(4, boxE 49 GRat.rep (⟨(⟨false, []⟩ : GInt), (⟨false, []⟩ : GInt)⟩ : GRat))]) F 48 a w := hAt
    refine then_n ?_
    refine wp_seq ?_
    obtain ⟨v7, hv7, H⟩ := bindE H
    obtain ⟨v8, hv8, H⟩ := bindE H
    refine reg [⟨fRef Rep.bool x0.Neg, [], [(2, none)], []⟩,
        ⟨fV Rep.bool x0.Neg, [], [(38, some 0)], []⟩,
        ⟨fRef Rep.bool x1.Neg, [], [(3, none)], []⟩,
        ⟨fV Rep.bool x1.Neg, [], [(40, some 2)], []⟩,
        ⟨fV Rep.bool (!(x0.Neg == x1.Neg)), [], [(39, some 1), (41, some 3)], []⟩,
        ⟨fV (Rep.slice r_u16) v5.1, [], [(5, none)], []⟩,
        ⟨fV GInt.rep v7, [], [(42, some 4), (43, some 5)], []⟩,
        ⟨fV (Rep.slice r_u16) v6.1, [], [(6, none)], []⟩,
        ⟨fV GInt.rep v8, [], [(45, some 7)], []⟩,
        ⟨fV GRat.rep (⟨v7, v8⟩ : GRat), [], [(44, some 6), (46, some 8)], []⟩,
        ⟨Fact.triv, [(4, some (boxE 49 GRat.rep (⟨v7, v8⟩ : GRat)))], [(47, some 9)], [(4, none)]⟩] [] [4] hAt
        ⟨ok_field GInt.l0 fo47_0 rfl opd0,
        ok_load ty4 rfl opd0,
        ok_field GInt.l0 fo47_0 rfl opd0,
        ok_load ty4 rfl opd0,
        ok_neB un4 rfl opd0 opd1,
        ok_move rfl opd0,
        ok_call (ok_f_exact_signed N (!(x0.Neg == x1.Neg)) v5.1 _ hv7) Try.func146 (by kernel_rfl) (by kernel_rfl) rfl ⟨opd0, ⟨opd1, trivial⟩⟩,
        ok_move rfl opd0,
        ok_call (ok_f_exact_signed N false v6.1 _ hv8) Try.func146 (by kernel_rfl) (by kernel_rfl) rfl ⟨opdB, ⟨opd0, trivial⟩⟩,
        ok_build ty49 rfl pl49 rfl (fillC GRat.l0 rfl opd0 (fillC GRat.l1 rfl opd1 fillN)),
        ok_storeBox ty49 rfl rfl opd0, trivial⟩ (by kernel_rfl) ?_
    clear hAt
    intro a w hAt
    replace hAt : At B h0 (mkG []) (mkO [(4, boxE 49 GRat.rep (⟨v7, v8⟩ : GRat))]) F 48 a w := hAt
    refine then_n ?_
    refine wp_ret ?_
    cases H
    exact ret1 rfl (rv_cell ty49 rfl) hAt
  · intro hb11
    have H := iteF hb11 H
    refine wp_skip ?_
    refine then_n ?_
    refine wp_seq ?_
    obtain ⟨v9, hv9, H⟩ := bindE H
    obtain ⟨v10, hv10, H⟩ := bindE H
    refine reg [⟨fRef Rep.bool x0.Neg, [], [(2, none)], []⟩,
        ⟨fV Rep.bool x0.Neg, [], [(38, some 0)], []⟩,
        ⟨fRef Rep.bool x1.Neg, [], [(3, none)], []⟩,
        ⟨fV Rep.bool x1.Neg, [], [(40, some 2)], []⟩,
        ⟨fV Rep.bool (!(x0.Neg == x1.Neg)), [], [(39, some 1), (41, some 3)], []⟩,
        ⟨fV (Rep.slice r_u16) v1, [], [(5, none)], []⟩,
        ⟨fV GInt.rep v9, [], [(42, some 4), (43, some 5)], []⟩,
        ⟨fV (Rep.slice r_u16) v2, [], [(6, none)], []⟩,
        ⟨fV GInt.rep v10, [], [(45, some 7)], []⟩,
        ⟨fV GRat.rep (⟨v9, v10⟩ : GRat), [], [(44, some 6), (46, some 8)], []⟩,
        ⟨Fact.triv, [(4, some (boxE 49 GRat.rep (⟨v9, v10⟩ : GRat)))], [(47, some 9)], [(4, none)]⟩] [] [4] hAt
        ⟨ok_field GInt.l0 fo47_0 rfl opd0,
        ok_load ty4 rfl opd0,
        ok_field GInt.l0 fo47_0 rfl opd0,
        ok_load ty4 rfl opd0,
        ok_neB un4 rfl opd0 opd1,
        ok_move rfl opd0,
        ok_call (ok_f_exact_signed N (!(x0.Neg == x1.Neg)) v1 _ hv9) Try.func146 (by kernel_rfl) (by kernel_rfl) rfl ⟨opd0, ⟨opd1, trivial⟩⟩,
        ok_move rfl opd0,
        ok_call (ok_f_exact_signed N false v2 _ hv10) Try.func146 (by kernel_rfl) (by kernel_rfl) rfl ⟨opdB, ⟨opd0, trivial⟩⟩,
        ok_build ty49 rfl pl49 rfl (fillC GRat.l0 rfl opd0 (fillC GRat.l1 rfl opd1 fillN)),
        ok_storeBox ty49 rfl rfl opd0, trivial⟩ (by kernel_rfl) ?_
    clear hAt
    intro a w hAt
    replace hAt : At B h0 (mkG []) (mkO [(4, boxE 49 GRat.rep (⟨v9, v10⟩ : GRat))]) F 48 a w := hAt
    refine then_n ?_
    refine wp_ret ?_
    cases H
    exact ret1 rfl (rv_cell ty49 rfl) hAt
theorem ok_f_exact_Ratio (N : Nat) (x0 : Int) (x1 : Int) (r : GRat × Int) (H : f_exact_Ratio N x0 x1 = some r) : FnOk Try.prog 108 [fV r_i64 x0, fV r_i64 x1] (fT2 (fV GRat.rep (r.1)) (fV r_i64 (r.2))) := by
  unfold f_exact_Ratio at H
  refine fn_enter Try.func108 rfl rfl (by kernel_rfl) ?_
  intro κ B h0 F a w hAt
  refine wp_seq ?_
  refine reg [⟨Fact.triv, [(4, some (boxE 49 GRat.rep (⟨(⟨false, []⟩ : GInt), (⟨false, []⟩ : GInt)⟩ : GRat)))], [], []⟩,
      ⟨fV r_i64 0, [], [], []⟩] [0, 1] [4] hAt
      ⟨ok_alloc ty49 rfl rfl,
      ok_assign rfl opdI, trivial⟩ (by kernel_rfl) ?_
  clear hAt
  intro a w hAt
  replace hAt : At B h0 (mkG [(0, fV r_i64 x0), (1, fV r_i64 x1)]) (mkO [(4, boxE 49 GRat.rep (⟨(⟨false, []⟩ : GInt), (⟨false, []⟩ : GInt)⟩ : GRat))]) F 14 a w := hAt
  refine then_n ?_
  refine wp_seq ?_
  refine wp_seq ?_
  refine reg [⟨fV r_i64 x1, [], [(1, none)], []⟩,
      ⟨fV Rep.bool (cmpI .eql x1 0), [], [(6, some 0)], []⟩] [0, 1, 7] [4] hAt
      ⟨ok_move rfl opd0,
      ok_cmp (op := .eql) (by simp) rfl rfl opd0 opdI, trivial⟩ (by kernel_rfl) ?_
  clear hAt
  intro a w hAt
  replace hAt : At B h0 (mkG [(0, fV r_i64 x0), (1, fV r_i64 x1), (7, fV Rep.bool (cmpI .eql x1 0))]) (mkO [(4, boxE 49 GRat.rep (⟨(⟨false, []⟩ : GInt), (⟨false, []⟩ : GInt)⟩ : GRat))]) F 14 a w := hAt
  refine then_n ?_
  refine wp_if hAt (by rfl) ?_ ?_
  · intro hb4
    have H := iteT hb4 H
    refine wp_seq ?_
    refine reg [⟨fV GRat.rep (⟨(⟨false, []⟩ : GInt), (⟨false, []⟩ : GInt)⟩ : GRat), [], [], []⟩,
        ⟨Fact.triv, [(4, some (boxE 49 GRat.rep (⟨(⟨false, []⟩ : GInt), (⟨false, []⟩ : GInt)⟩ : GRat)))], [(8, some 0)], [(4, none)]⟩,
        ⟨fV r_i64 9, [], [], []⟩] [5] [4] hAt
        ⟨ok_build ty49 rfl pl49 rfl fillN,
        ok_storeBox ty49 rfl rfl opd0,
        ok_assign rfl opdI, trivial⟩ (by kernel_rfl) ?_
    clear hAt
    intro a w hAt
    replace hAt : At B h0 (mkG [(5, fV r_i64 9)]) (mkO [(4, boxE 49 GRat.rep (⟨(⟨false, []⟩ : GInt), (⟨false, []⟩ : GInt)⟩ : GRat))]) F 14 a w := hAt
    refine then_n ?_
    refine wp_ret ?_
    refine then_r ?_
    cases H
    exact ret2 rfl (rv_cell ty49 rfl) (rv_tmp rfl rfl) hAt
  · intro hb4
    have H := iteF hb4 H
    refine wp_skip ?_
    refine then_n ?_
    refine wp_seq ?_
    obtain ⟨v1, hv1, H⟩ := bindE H
    obtain ⟨v2, hv2, H⟩ := bindE H
    obtain ⟨v3, hv3, H⟩ := bindE H
    refine reg [⟨fV r_i64 x0, [], [(0, none)], []⟩,
        ⟨fV GInt.rep v1, [], [(9, some 0)], []⟩,
        ⟨fV r_i64 x1, [], [(1, none)], []⟩,
        ⟨fV GInt.rep v2, [], [(11, some 2)], []⟩,
        ⟨fV GRat.rep v3, [], [(10, some 1), (12, some 3)], []⟩,
        ⟨Fact.triv, [(4, some (boxE 49 GRat.rep v3))], [(13, some 4)], [(4, none)]⟩,
        ⟨fV r_i64 0, [], [], []⟩] [5] [4] hAt
        ⟨ok_move rfl opd0,
        ok_call (ok_f_exact_Of N x0 _ hv1) Try.func141 (by kernel_rfl) (by kernel_rfl) rfl ⟨opd0, trivial⟩,
        ok_move rfl opd0,
        ok_call (ok_f_exact_Of N x1 _ hv2) Try.func141 (by kernel_rfl) (by kernel_rfl) rfl ⟨opd0, trivial⟩,
        ok_call (ok_f_exact_fraction N v1 v2 _ hv3) Try.func112 (by kernel_rfl) (by kernel_rfl) rfl ⟨opd0, ⟨opd1, trivial⟩⟩,
        ok_storeBox ty49 rfl rfl opd0,
        ok_assign rfl opdI, trivial⟩ (by kernel_rfl) ?_
    clear hAt
    intro a w hAt
    replace hAt : At B h0 (mkG [(5, fV r_i64 0)]) (mkO [(4, boxE 49 GRat.rep v3)]) F 14 a w := hAt
    refine then_n ?_
    refine wp_ret ?_
    cases H
    exact ret2 rfl (rv_cell ty49 rfl) (rv_tmp rfl rfl) hAt
theorem ok_f_survey_ratio (N : Nat) (x0 : Int) (x1 : Int) (r : GRat) (H : f_survey_ratio N x0 x1 = some r) : FnOk Try.prog 64 [fV r_i64 x0, fV r_i64 x1] (fV GRat.rep r) := by
  unfold f_survey_ratio at H
  refine fn_enter Try.func64 rfl rfl (by kernel_rfl) ?_
  intro κ B h0 F a w hAt
  refine wp_seq ?_
  refine reg [⟨Fact.triv, [(4, some (boxE 49 GRat.rep (⟨(⟨false, []⟩ : GInt), (⟨false, []⟩ : GInt)⟩ : GRat)))], [], []⟩] [0, 1] [4] hAt
      ⟨ok_alloc ty49 rfl rfl, trivial⟩ (by kernel_rfl) ?_
  clear hAt
  intro a w hAt
  replace hAt : At B h0 (mkG [(0, fV r_i64 x0), (1, fV r_i64 x1)]) (mkO [(4, boxE 49 GRat.rep (⟨(⟨false, []⟩ : GInt), (⟨false, []⟩ : GInt)⟩ : GRat))]) F 14 a w := hAt
  refine then_n ?_
  refine wp_seq ?_
  obtain ⟨v1, hv1, H⟩ := bindE H
  refine reg [⟨fV r_i64 x0, [], [(0, none)], []⟩,
      ⟨fV r_i64 x1, [], [(1, none)], []⟩,
      ⟨fT2 (fV GRat.rep v1.1) (fV r_i64 v1.2), [], [(8, some 0), (9, some 1)], []⟩,
      ⟨fT2 (fV GRat.rep v1.1) (fV r_i64 v1.2), [], [(10, some 2)], []⟩,
      ⟨fV GRat.rep v1.1, [], [(7, some 3)], []⟩,
      ⟨fV r_i64 v1.2, [], [(7, some 3)], []⟩,
      ⟨Fact.triv, [(5, some (boxE 49 GRat.rep (⟨(⟨false, []⟩ : GInt), (⟨false, []⟩ : GInt)⟩ : GRat)))], [], []⟩,
      ⟨Fact.triv, [(5, some (boxE 49 GRat.rep v1.1))], [(11, some 4)], [(5, some 6)]⟩,
      ⟨fV r_i64 v1.2, [], [(12, some 5)], []⟩] [] [4, 5] hAt
      ⟨ok_move rfl opd0,
      ok_move rfl opd0,
      ok_call (ok_f_exact_Ratio N x0 x1 _ hv1) Try.func108 (by kernel_rfl) (by kernel_rfl) rfl ⟨opd0, ⟨opd1, trivial⟩⟩,
      ok_move rfl opd0,
      ok_ext20 rfl rfl opd0,
      ok_ext21 rfl rfl opd0,
      ok_alloc ty49 rfl rfl,
      ok_storeBox ty49 rfl rfl opd0,
      ok_assign rfl opd0, trivial⟩ (by kernel_rfl) ?_
  clear hAt
  intro a w hAt
  replace hAt : At B h0 (mkG []) (mkO [(4, boxE 49 GRat.rep (⟨(⟨false, []⟩ : GInt), (⟨false, []⟩ : GInt)⟩ : GRat)), (5, boxE 49 GRat.rep v1.1)]) F 14 a w := hAt
  refine then_n ?_
  refine wp_seq ?_
  refine reg [⟨fV GRat.rep v1.1, [], [], [(5, none)]⟩,
      ⟨Fact.triv, [(4, some (boxE 49 GRat.rep v1.1))], [(13, some 0)], [(4, none)]⟩] [] [4] hAt
      ⟨ok_loadBox ty49 rfl,
      ok_storeBox ty49 rfl rfl opd0, trivial⟩ (by kernel_rfl) ?_
  clear hAt
  intro a w hAt
  replace hAt : At B h0 (mkG []) (mkO [(4, boxE 49 GRat.rep v1.1)]) F 14 a w := hAt
  refine then_n ?_
  refine wp_ret ?_
  cases H
  exact ret1 rfl (rv_cell ty49 rfl) hAt
theorem ok_f_survey_Speeds (N : Nat) (x0 : (List GRun)) (r : (List GRat) × Int) (H : f_survey_Speeds N x0 = some r) : FnOk Try.prog 25 [fV (Rep.slice GRun.rep) x0] (fT2 (fV (Rep.slice GRat.rep) (r.1)) (fV r_i64 (r.2))) := by
  unfold f_survey_Speeds at H
  refine fn_enter Try.func25 rfl rfl (by kernel_rfl) ?_
  intro κ B h0 F a w hAt
  refine wp_seq ?_
  refine reg [⟨fV (Rep.slice GRat.rep) [], [(2, some (tipE 49 GRat.rep.sz))], [], []⟩,
      ⟨fV r_i64 0, [], [], []⟩] [0] [] hAt
      ⟨ok_nilTip rfl (.inl rfl),
      ok_assign rfl opdI, trivial⟩ (by kernel_rfl) ?_
  clear hAt
  intro a w hAt
  replace hAt : At B h0 (mkG [(0, fV (Rep.slice GRun.rep) x0)]) (mkO []) F 29 a w := hAt
  refine then_n ?_
  refine wp_seq ?_
  refine wp_seq ?_
  obtain ⟨v1, hv1, H⟩ := bindE H
  refine reg [⟨fV (Rep.slice GRun.rep) x0, [], [(0, none)], []⟩,
      ⟨fV r_i64 v1, [], [(8, some 0)], []⟩,
      ⟨fV r_i64 v1, [], [(9, some 1)], []⟩] [0, 4] [] hAt
      ⟨ok_move rfl opd0,
      ok_call (ok_f_survey_CheckTrial N x0 _ hv1) Try.func29 (by kernel_rfl) (by kernel_rfl) rfl ⟨opd0, trivial⟩,
      ok_assign rfl opd0, trivial⟩ (by kernel_rfl) ?_
  clear hAt
  intro a w hAt
  replace hAt : At B h0 (mkG [(0, fV (Rep.slice GRun.rep) x0), (4, fV r_i64 v1)]) (mkO []) F 29 a w := hAt
  refine then_n ?_
  refine wp_seq ?_
  refine reg [⟨fV r_i64 v1, [], [(4, none)], []⟩,
      ⟨fV Rep.bool (cmpI .neq v1 0), [], [(10, some 0)], []⟩] [0, 4, 11] [] hAt
      ⟨ok_move rfl opd0,
      ok_cmp (op := .neq) (by simp) rfl rfl opd0 opdI, trivial⟩ (by kernel_rfl) ?_
  clear hAt
  intro a w hAt
  replace hAt : At B h0 (mkG [(0, fV (Rep.slice GRun.rep) x0), (4, fV r_i64 v1), (11, fV Rep.bool (cmpI .neq v1 0))]) (mkO []) F 29 a w := hAt
  refine then_n ?_
  refine wp_if hAt (by rfl) ?_ ?_
  · intro hb10
    have H := iteT hb10 H
    refine wp_seq ?_
    refine reg [⟨fV r_i64 v1, [], [(4, none)], []⟩,
        ⟨fV (Rep.slice GRat.rep) [], [(2, some (tipE 49 GRat.rep.sz))], [], []⟩,
        ⟨fV r_i64 v1, [], [(12, some 0)], []⟩] [2, 3] [2] hAt
        ⟨ok_move rfl opd0,
        ok_nilTip rfl (.inl rfl),
        ok_assign rfl opd0, trivial⟩ (by kernel_rfl) ?_
    clear hAt
    intro a w hAt
    replace hAt : At B h0 (mkG [(2, fV (Rep.slice GRat.rep) []), (3, fV r_i64 v1)]) (mkO [(2, tipE 49 GRat.rep.sz)]) F 29 a w := hAt
    refine then_n ?_
    refine wp_ret ?_
    refine then_r ?_
    cases H
    exact ret2 rfl (rv_tmp rfl rfl) (rv_tmp rfl rfl) hAt
  · intro hb10
    have H := iteF hb10 H
    refine wp_skip ?_
    refine then_n ?_
    refine wp_seq ?_
    refine reg [⟨fV (Rep.slice GRat.rep) [], [(5, some (tipE 49 GRat.rep.sz))], [], []⟩] [0, 5] [5] hAt
        ⟨ok_nilTip rfl (.inl rfl), trivial⟩ (by kernel_rfl) ?_
    clear hAt
    intro a w hAt
    replace hAt : At B h0 (mkG [(0, fV (Rep.slice GRun.rep) x0), (5, fV (Rep.slice GRat.rep) [])]) (mkO [(5, tipE 49 GRat.rep.sz)]) F 29 a w := hAt
    refine then_n ?_
    refine wp_seq ?_
    refine wp_seq ?_
    refine reg [⟨fV (Rep.slice GRun.rep) x0, [], [(0, none)], []⟩,
        ⟨fV r_i64 (List.length x0 : Int), [], [(13, some 0)], []⟩,
        ⟨fV r_i64 0, [], [], []⟩] [5, 13, 14, 15] [5] hAt
        ⟨ok_move rfl opd0,
        ok_len un43 rfl opd0,
        ok_move rfl opdI, trivial⟩ (by kernel_rfl) ?_
    clear hAt
    intro a w hAt
    replace hAt : At B h0 (mkG [(5, fV (Rep.slice GRat.rep) []), (13, fV (Rep.slice GRun.rep) x0), (14, fV r_i64 (List.length x0 : Int)), (15, fV r_i64 0)]) (mkO [(5, tipE 49 GRat.rep.sz)]) F 29 a w := hAt
    refine then_n ?_
    refine wp_block ?_
    obtain ⟨o7, hl8, H⟩ := bindE H
    refine wp_mono (wp_loopN (f := f_survey_Speeds_L1 N x0) (fun (s2 : ((List GRat) × Int)) a w => At B h0 (mkG [(5, fV (Rep.slice GRat.rep) s2.1), (13, fV (Rep.slice GRun.rep) x0), (14, fV r_i64 (List.length x0 : Int)), (15, fV r_i64 s2.2)]) (mkO [(5, tipE 49 GRat.rep.sz)]) F 29 a w) (fun o e a w => (fun v => e = .exit 0 ∧ At B h0 (mkG [(5, fV (Rep.slice GRat.rep) v)]) (mkO [(5, tipE 49 GRat.rep.sz)]) F 29 a w) o) ?_ N ([], 0) o7 _ _ hl8 ?_) ?_
    · clear H hAt hl8
      intro s2 r9 a w H hAt
      unfold f_survey_Speeds_L1 at H
      refine wp_seq ?_
      refine reg [⟨fV Rep.bool (cmpI .lss s2.2 (List.length x0 : Int)), [], [(15, none), (14, none)], []⟩] [5, 13, 14, 15, 16] [5] hAt
          ⟨ok_cmp (op := .lss) (by simp) rfl rfl opd0 opd1, trivial⟩ (by kernel_rfl) ?_
      clear hAt
      intro a w hAt
      replace hAt : At B h0 (mkG [(5, fV (Rep.slice GRat.rep) s2.1), (13, fV (Rep.slice GRun.rep) x0), (14, fV r_i64 (List.length x0 : Int)), (15, fV r_i64 s2.2), (16, fV Rep.bool (cmpI .lss s2.2 (List.length x0 : Int)))]) (mkO [(5, tipE 49 GRat.rep.sz)]) F 29 a w := hAt
      refine then_n ?_
      refine wp_seq ?_
      refine wp_if hAt (by rfl) ?_ ?_
      · intro hb6
        have H := iteT hb6 H
        refine wp_skip ?_
        refine then_n ?_
        refine wp_seq ?_
        refine wp_block ?_
        refine wp_seq ?_
        obtain ⟨v3, hv3, H⟩ := bindE H
        refine reg [⟨fRef GRun.rep v3, [], [(13, none), (15, none)], []⟩,
            ⟨fV GRun.rep v3, [], [(17, some 0)], []⟩,
            ⟨Fact.triv, [(7, some (boxE 131 GRun.rep (⟨0, 0, 0, false⟩ : GRun)))], [], []⟩,
            ⟨Fact.triv, [(7, some (boxE 131 GRun.rep v3))], [(18, some 1)], [(7, some 2)]⟩] [5, 13, 14, 15] [5, 7] hAt
            ⟨ok_index ty131 un43 hv3 rfl opd0 opd1,
            ok_load ty131 rfl opd0,
            ok_alloc ty131 rfl rfl,
            ok_storeBox ty131 rfl rfl opd0, trivial⟩ (by kernel_rfl) ?_
        clear hAt
        intro a w hAt
        replace hAt : At B h0 (mkG [(5, fV (Rep.slice GRat.rep) s2.1), (13, fV (Rep.slice GRun.rep) x0), (14, fV r_i64 (List.length x0 : Int)), (15, fV r_i64 s2.2)]) (mkO [(5, tipE 49 GRat.rep.sz), (7, boxE 131 GRun.rep v3)]) F 29 a w := hAt
        refine then_n ?_
        obtain ⟨v4, hv4, H⟩ := bindE H
        obtain ⟨v5, hv5, H⟩ := bindE H
        refine reg [⟨fV (Rep.slice GRat.rep) s2.1, [(5, none), (19, some (tipE 49 GRat.rep.sz))], [(5, none)], [(5, none)]⟩,
            ⟨fOff 7 2, [], [], [(7, none)]⟩,
            ⟨fV r_i64 v3.Metres, [], [(20, some 1)], [(7, none)]⟩,
            ⟨fOff 7 1, [], [], [(7, none)]⟩,
            ⟨fV r_i64 v3.Seconds, [], [(22, some 3)], [(7, none)]⟩,
            ⟨fV GRat.rep v4, [], [(21, some 2), (23, some 4)], []⟩,
            ⟨fV (Rep.slice GRat.rep) [v4], [], [(24, some 5)], []⟩,
            ⟨fV (Rep.slice GRat.rep) v5, [(19, none), (26, some (tipE 49 GRat.rep.sz))], [(19, some 0), (25, some 6)], [(19, some 0)]⟩,
            ⟨fV (Rep.slice GRat.rep) v5, [(26, none), (5, some (tipE 49 GRat.rep.sz))], [(26, some 7)], [(26, some 7)]⟩] [5, 13, 14, 15] [5] hAt
            ⟨ok_moveOwn rfl rfl (.inl rfl) opd0,
            ok_fieldOwn fo131_2 rfl,
            ok_loadOwn GRun.l2 ty3 rfl opd0,
            ok_fieldOwn fo131_1 rfl,
            ok_loadOwn GRun.l1 ty3 rfl opd0,
            ok_call (ok_f_survey_ratio N v3.Metres v3.Seconds _ hv4) Try.func64 (by kernel_rfl) (by kernel_rfl) rfl ⟨opd0, ⟨opd1, trivial⟩⟩,
            ok_buildSlice ty49 un29 rfl rfl (fillC (Lens.arr _ _ 0 (by decide)) rfl opd0 fillN),
            ok_append hv5 el49 un29 rfl rfl rfl opd0 opd1,
            ok_moveOwn rfl rfl (.inr rfl) opd0, trivial⟩ (by kernel_rfl) ?_
        clear hAt
        intro a w hAt
        replace hAt : At B h0 (mkG [(5, fV (Rep.slice GRat.rep) v5), (13, fV (Rep.slice GRun.rep) x0), (14, fV r_i64 (List.length x0 : Int)), (15, fV r_i64 s2.2)]) (mkO [(5, tipE 49 GRat.rep.sz)]) F 29 a w := hAt
        refine blk_n ?_
        refine then_n ?_
        refine reg [⟨fV r_i64 (IntKind.i64.wrap (s2.2 + 1)), [], [(15, none)], []⟩,
            ⟨fV r_i64 (IntKind.i64.wrap (s2.2 + 1)), [], [(27, some 0)], []⟩] [5, 13, 14, 15] [5] hAt
            ⟨ok_add rfl opd0 opdI,
            ok_move rfl opd0, trivial⟩ (by kernel_rfl) ?_
        clear hAt
        intro a w hAt
        replace hAt : At B h0 (mkG [(5, fV (Rep.slice GRat.rep) v5), (13, fV (Rep.slice GRun.rep) x0), (14, fV r_i64 (List.length x0 : Int)), (15, fV r_i64 (IntKind.i64.wrap (s2.2 + 1)))]) (mkO [(5, tipE 49 GRat.rep.sz)]) F 29 a w := hAt
        cases H
        exact ⟨rfl, hAt.pick [5, 13, 14, 15] [5]⟩
      · intro hb6
        have H := iteF hb6 H
        refine wp_exit ?_
        refine then_x ?_
        cases H
        exact ⟨ex_ne, rfl, hAt.pick [5] [5]⟩
    · exact hAt.pick [5, 13, 14, 15] [5]
    · clear hAt
      intro e a w hp
      obtain ⟨rfl, hAt⟩ := hp
      refine blk_eq ?_
      refine then_n ?_
      refine wp_seq ?_
      refine reg [⟨fV (Rep.slice GRat.rep) o7, [], [(5, none)], []⟩,
          ⟨fV (Rep.slice GRat.rep) o7, [], [(28, some 0)], []⟩,
          ⟨fV r_i64 0, [], [], []⟩] [2, 3] [] hAt
          ⟨ok_move rfl opd0,
          ok_assign rfl opd0,
          ok_assign rfl opdI, trivial⟩ (by kernel_rfl) ?_
      clear hAt
      intro a w hAt
      replace hAt : At B h0 (mkG [(2, fV (Rep.slice GRat.rep) o7), (3, fV r_i64 0)]) (mkO []) F 29 a w := hAt
      refine then_n ?_
      refine wp_ret ?_
      cases H
      exact ret2 rfl (rv_tmp rfl rfl) (rv_tmp rfl rfl) hAt
theorem okO_f_survey_Speeds (N : Nat) (x0 : (List GRun)) (r : (List GRat) × Int) (H : f_survey_Speeds N x0 = some r) : FnOkO Try.prog 25 [fV (Rep.slice GRun.rep) x0] (tupE (arrE 49 GRat.rep r.1)) (fT2 Fact.triv (fV r_i64 (r.2))) := by
  unfold f_survey_Speeds at H
  refine fn_enterO Try.func25 rfl rfl (by kernel_rfl) ?_
  intro κ B h0 F a w hAt
  refine wp_seq ?_
  refine reg [⟨Fact.triv, [(2, some (arrE 49 GRat.rep []))], [], []⟩,
      ⟨fV r_i64 0, [], [], []⟩] [0] [] hAt
      ⟨ok_nilArr rfl (.inl rfl),
      ok_assign rfl opdI, trivial⟩ (by kernel_rfl) ?_
  clear hAt
  intro a w hAt
  replace hAt : At B h0 (mkG [(0, fV (Rep.slice GRun.rep) x0)]) (mkO []) F 29 a w := hAt
  refine then_n ?_
  refine wp_seq ?_
  refine wp_seq ?_
  obtain ⟨v1, hv1, H⟩ := bindE H
  refine reg [⟨fV (Rep.slice GRun.rep) x0, [], [(0, none)], []⟩,
      ⟨fV r_i64 v1, [], [(8, some 0)], []⟩,
      ⟨fV r_i64 v1, [], [(9, some 1)], []⟩] [0, 4] [] hAt
      ⟨ok_move rfl opd0,
      ok_call (ok_f_survey_CheckTrial N x0 _ hv1) Try.func29 (by kernel_rfl) (by kernel_rfl) rfl ⟨opd0, trivial⟩,
      ok_assign rfl opd0, trivial⟩ (by kernel_rfl) ?_
  clear hAt
  intro a w hAt
  replace hAt : At B h0 (mkG [(0, fV (Rep.slice GRun.rep) x0), (4, fV r_i64 v1)]) (mkO []) F 29 a w := hAt
  refine then_n ?_
  refine wp_seq ?_
  refine reg [⟨fV r_i64 v1, [], [(4, none)], []⟩,
      ⟨fV Rep.bool (cmpI .neq v1 0), [], [(10, some 0)], []⟩] [0, 4, 11] [] hAt
      ⟨ok_move rfl opd0,
      ok_cmp (op := .neq) (by simp) rfl rfl opd0 opdI, trivial⟩ (by kernel_rfl) ?_
  clear hAt
  intro a w hAt
  replace hAt : At B h0 (mkG [(0, fV (Rep.slice GRun.rep) x0), (4, fV r_i64 v1), (11, fV Rep.bool (cmpI .neq v1 0))]) (mkO []) F 29 a w := hAt
  refine then_n ?_
  refine wp_if hAt (by rfl) ?_ ?_
  · intro hb10
    have H := iteT hb10 H
    refine wp_seq ?_
    refine reg [⟨fV r_i64 v1, [], [(4, none)], []⟩,
        ⟨Fact.triv, [(2, some (arrE 49 GRat.rep []))], [], []⟩,
        ⟨fV r_i64 v1, [], [(12, some 0)], []⟩] [3] [2] hAt
        ⟨ok_move rfl opd0,
        ok_nilArr rfl (.inl rfl),
        ok_assign rfl opd0, trivial⟩ (by kernel_rfl) ?_
    clear hAt
    intro a w hAt
    replace hAt : At B h0 (mkG [(3, fV r_i64 v1)]) (mkO [(2, arrE 49 GRat.rep [])]) F 29 a w := hAt
    refine then_n ?_
    refine wp_ret ?_
    refine then_r ?_
    cases H
    exact ret2O rfl rfl (rv_tmp rfl rfl) hAt
  · intro hb10
    have H := iteF hb10 H
    refine wp_skip ?_
    refine then_n ?_
    refine wp_seq ?_
    refine reg [⟨Fact.triv, [(5, some (arrE 49 GRat.rep []))], [], []⟩] [0] [5] hAt
        ⟨ok_nilArr rfl (.inl rfl), trivial⟩ (by kernel_rfl) ?_
    clear hAt
    intro a w hAt
    replace hAt : At B h0 (mkG [(0, fV (Rep.slice GRun.rep) x0)]) (mkO [(5, arrE 49 GRat.rep [])]) F 29 a w := hAt
    refine then_n ?_
    refine wp_seq ?_
    refine wp_seq ?_
    refine reg [⟨fV (Rep.slice GRun.rep) x0, [], [(0, none)], []⟩,
        ⟨fV r_i64 (List.length x0 : Int), [], [(13, some 0)], []⟩,
        ⟨fV r_i64 0, [], [], []⟩] [13, 14, 15] [5] hAt
        ⟨ok_move rfl opd0,
        ok_len un43 rfl opd0,
        ok_move rfl opdI, trivial⟩ (by kernel_rfl) ?_
    clear hAt
    intro a w hAt
    replace hAt : At B h0 (mkG [(13, fV (Rep.slice GRun.rep) x0), (14, fV r_i64 (List.length x0 : Int)), (15, fV r_i64 0)]) (mkO [(5, arrE 49 GRat.rep [])]) F 29 a w := hAt
    refine then_n ?_
    refine wp_block ?_
    obtain ⟨o7, hl8, H⟩ := bindE H
    refine wp_mono (wp_loopN (f := f_survey_Speeds_L1 N x0) (fun (s2 : ((List GRat) × Int)) a w => At B h0 (mkG [(13, fV (Rep.slice GRun.rep) x0), (14, fV r_i64 (List.length x0 : Int)), (15, fV r_i64 s2.2)]) (mkO [(5, arrE 49 GRat.rep s2.1)]) F 29 a w) (fun o e a w => (fun v => e = .exit 0 ∧ At B h0 (mkG []) (mkO [(5, arrE 49 GRat.rep v)]) F 29 a w) o) ?_ N ([], 0) o7 _ _ hl8 ?_) ?_
    · clear H hAt hl8
      intro s2 r9 a w H hAt
      unfold f_survey_Speeds_L1 at H
      refine wp_seq ?_
      refine reg [⟨fV Rep.bool (cmpI .lss s2.2 (List.length x0 : Int)), [], [(15, none), (14, none)], []⟩] [13, 14, 15, 16] [5] hAt
          ⟨ok_cmp (op := .lss) (by simp) rfl rfl opd0 opd1, trivial⟩ (by kernel_rfl) ?_
      clear hAt
      intro a w hAt
      replace hAt : At B h0 (mkG [(13, fV (Rep.slice GRun.rep) x0), (14, fV r_i64 (List.length x0 : Int)), (15, fV r_i64 s2.2), (16, fV Rep.bool (cmpI .lss s2.2 (List.length x0 : Int)))]) (mkO [(5, arrE 49 GRat.rep s2.1)]) F 29 a w := hAt
      refine then_n ?_
      refine wp_seq ?_
      refine wp_if hAt (by rfl) ?_ ?_
      · intro hb6
        have H := iteT hb6 H
        refine wp_skip ?_
        refine then_n ?_
        refine wp_seq ?_
        refine wp_block ?_
        refine wp_seq ?_
        obtain ⟨v3, hv3, H⟩ := bindE H
        refine reg [⟨fRef GRun.rep v3, [], [(13, none), (15, none)], []⟩,
            ⟨fV GRun.rep v3, [], [(17, some 0)], []⟩,
            ⟨Fact.triv, [(7, some (boxE 131 GRun.rep (⟨0, 0, 0, false⟩ : GRun)))], [], []⟩,
            ⟨Fact.triv, [(7, some (boxE 131 GRun.rep v3))], [(18, some 1)], [(7, some 2)]⟩] [13, 14, 15] [5, 7] hAt
            ⟨ok_index ty131 un43 hv3 rfl opd0 opd1,
            ok_load ty131 rfl opd0,
            ok_alloc ty131 rfl rfl,
            ok_storeBox ty131 rfl rfl opd0, trivial⟩ (by kernel_rfl) ?_
        clear hAt
        intro a w hAt
        replace hAt : At B h0 (mkG [(13, fV (Rep.slice GRun.rep) x0), (14, fV r_i64 (List.length x0 : Int)), (15, fV r_i64 s2.2)]) (mkO [(5, arrE 49 GRat.rep s2.1), (7, boxE 131 GRun.rep v3)]) F 29 a w := hAt
        refine then_n ?_
        obtain ⟨v4, hv4, H⟩ := bindE H
        obtain ⟨v5, hv5, H⟩ := bindE H
        refine reg [⟨fCp 5, [], [], []⟩,
            ⟨fOff 7 2, [], [], [(7, none)]⟩,
            ⟨fV r_i64 v3.Metres, [], [(20, some 1)], [(7, none)]⟩,
            ⟨fOff 7 1, [], [], [(7, none)]⟩,
            ⟨fV r_i64 v3.Seconds, [], [(22, some 3)], [(7, none)]⟩,
            ⟨fV GRat.rep v4, [], [(21, some 2), (23, some 4)], []⟩,
            ⟨fV (Rep.slice GRat.rep) [v4], [], [(24, some 5)], []⟩,
            ⟨Fact.triv, [(5, none), (26, some (arrE 49 GRat.rep v5))], [(19, some 0), (25, some 6)], [(5, none)]⟩,
            ⟨Fact.triv, [(26, none), (5, some (arrE 49 GRat.rep v5))], [], [(26, some 7)]⟩] [13, 14, 15] [5] hAt
            ⟨ok_cp rfl,
            ok_fieldOwn fo131_2 rfl,
            ok_loadOwn GRun.l2 ty3 rfl opd0,
            ok_fieldOwn fo131_1 rfl,
            ok_loadOwn GRun.l1 ty3 rfl opd0,
            ok_call (ok_f_survey_ratio N v3.Metres v3.Seconds _ hv4) Try.func64 (by kernel_rfl) (by kernel_rfl) rfl ⟨opd0, ⟨opd1, trivial⟩⟩,
            ok_buildSlice ty49 un29 rfl rfl (fillC (Lens.arr _ _ 0 (by decide)) rfl opd0 fillN),
            ok_appendArr hv5 el49 un29 rfl rfl rfl opd0 opd1,
            (ok_moveOwn (f := Fact.triv) rfl rfl (.inr rfl) (fun _ _ _ => trivial)), trivial⟩ (by kernel_rfl) ?_
        clear hAt
        intro a w hAt
        replace hAt : At B h0 (mkG [(13, fV (Rep.slice GRun.rep) x0), (14, fV r_i64 (List.length x0 : Int)), (15, fV r_i64 s2.2)]) (mkO [(5, arrE 49 GRat.rep v5)]) F 29 a w := hAt
        refine blk_n ?_
        refine then_n ?_
        refine reg [⟨fV r_i64 (IntKind.i64.wrap (s2.2 + 1)), [], [(15, none)], []⟩,
            ⟨fV r_i64 (IntKind.i64.wrap (s2.2 + 1)), [], [(27, some 0)], []⟩] [13, 14, 15] [5] hAt
            ⟨ok_add rfl opd0 opdI,
            ok_move rfl opd0, trivial⟩ (by kernel_rfl) ?_
        clear hAt
        intro a w hAt
        replace hAt : At B h0 (mkG [(13, fV (Rep.slice GRun.rep) x0), (14, fV r_i64 (List.length x0 : Int)), (15, fV r_i64 (IntKind.i64.wrap (s2.2 + 1)))]) (mkO [(5, arrE 49 GRat.rep v5)]) F 29 a w := hAt
        cases H
        exact ⟨rfl, hAt.pick [13, 14, 15] [5]⟩
      · intro hb6
        have H := iteF hb6 H
        refine wp_exit ?_
        refine then_x ?_
        cases H
        exact ⟨ex_ne, rfl, hAt.pick [] [5]⟩
    · exact hAt.pick [13, 14, 15] [5]
    · clear hAt
      intro e a w hp
      obtain ⟨rfl, hAt⟩ := hp
      refine blk_eq ?_
      refine then_n ?_
      refine wp_seq ?_
      refine reg [⟨fCp 5, [], [], []⟩,
          ⟨Fact.triv, [(5, none), (2, some (arrE 49 GRat.rep o7))], [(28, some 0)], [(5, none)]⟩,
          ⟨fV r_i64 0, [], [], []⟩] [3] [2] hAt
          ⟨ok_cp rfl,
          ok_takeCp rfl rfl (.inr rfl) opd0,
          ok_assign rfl opdI, trivial⟩ (by kernel_rfl) ?_
      clear hAt
      intro a w hAt
      replace hAt : At B h0 (mkG [(3, fV r_i64 0)]) (mkO [(2, arrE 49 GRat.rep o7)]) F 29 a w := hAt
      refine then_n ?_
      refine wp_ret ?_
      cases H
      exact ret2O rfl rfl (rv_tmp rfl rfl) hAt
theorem ok_f_exact_sign (N : Nat) (x0 : GInt) (r : Int) (H : f_exact_sign N x0 = some r) : FnOk Try.prog 148 [fV GInt.rep x0] (fV r_i64 r) := by
  unfold f_exact_sign at H
  refine fn_enter Try.func148 rfl rfl (by kernel_rfl) ?_
  intro κ B h0 F a w hAt
  refine wp_seq ?_
  refine reg [⟨fRef GInt.rep x0, [], [(0, none)], []⟩,
      ⟨fV r_i64 0, [], [], []⟩] [1] [] hAt
      ⟨ok_box rfl opd0,
      ok_assign rfl opdI, trivial⟩ (by kernel_rfl) ?_
  clear hAt
  intro a w hAt
  replace hAt : At B h0 (mkG [(1, fRef GInt.rep x0)]) (mkO []) F 12 a w := hAt
  refine then_n ?_
  refine wp_seq ?_
  refine wp_block ?_
  refine wp_seq ?_
  obtain ⟨v1, hv1, H⟩ := bindE H
  refine reg [⟨fRef (Rep.slice r_u16) x0.Limbs, [], [(1, none)], []⟩,
      ⟨fV (Rep.slice r_u16) x0.Limbs, [], [(4, some 0)], []⟩,
      ⟨fV (Rep.slice r_u16) v1, [], [(5, some 1)], []⟩,
      ⟨fV r_i64 (List.length v1 : Int), [], [(6, some 2)], []⟩,
      ⟨fV Rep.bool (cmpI .eql (List.length v1 : Int) 0), [], [(7, some 3)], []⟩,
      ⟨fV Rep.bool (cmpI .eql (List.length v1 : Int) 0), [], [(8, some 4)], []⟩] [1, 3] [] hAt
      ⟨ok_field GInt.l1 fo47_1 rfl opd0,
      ok_load ty45 rfl opd0,
      ok_call (ok_f_exact_trim N x0.Limbs _ hv1) Try.func143 (by kernel_rfl) (by kernel_rfl) rfl ⟨opd0, trivial⟩,
      ok_len un45 rfl opd0,
      ok_cmp (op := .eql) (by simp) rfl rfl opd0 opdI,
      ok_assign rfl opd0, trivial⟩ (by kernel_rfl) ?_
  clear hAt
  intro a w hAt
  replace hAt : At B h0 (mkG [(1, fRef GInt.rep x0), (3, fV Rep.bool (cmpI .eql (List.length v1 : Int) 0))]) (mkO []) F 12 a w := hAt
  refine then_n ?_
  refine wp_if hAt (by rfl) ?_ ?_
  · intro hb3
    have H := iteT hb3 H
    refine wp_seq ?_
    refine reg [⟨fV r_i64 0, [], [], []⟩] [2] [] hAt
        ⟨ok_assign rfl opdI, trivial⟩ (by kernel_rfl) ?_
    clear hAt
    intro a w hAt
    replace hAt : At B h0 (mkG [(2, fV r_i64 0)]) (mkO []) F 12 a w := hAt
    refine then_n ?_
    refine wp_ret ?_
    refine blk_r ?_
    refine then_r ?_
    cases H
    exact ret1 rfl (rv_tmp rfl rfl) hAt
  · intro hb3
    have H := iteF hb3 H
    refine wp_seq ?_
    refine reg [⟨fRef Rep.bool x0.Neg, [], [(1, none)], []⟩,
        ⟨fV Rep.bool x0.Neg, [], [(10, some 0)], []⟩,
        ⟨fV Rep.bool x0.Neg, [], [(11, some 1)], []⟩] [9] [] hAt
        ⟨ok_field GInt.l0 fo47_0 rfl opd0,
        ok_load ty4 rfl opd0,
        ok_assign rfl opd0, trivial⟩ (by kernel_rfl) ?_
    clear hAt
    intro a w hAt
    replace hAt : At B h0 (mkG [(9, fV Rep.bool x0.Neg)]) (mkO []) F 12 a w := hAt
    refine then_n ?_
    refine wp_if hAt (by rfl) ?_ ?_
    · intro hb2
      have H := iteT hb2 H
      refine wp_seq ?_
      refine reg [⟨fV r_i64 (-1), [], [], []⟩] [2] [] hAt
          ⟨ok_assign rfl opdI, trivial⟩ (by kernel_rfl) ?_
      clear hAt
      intro a w hAt
      replace hAt : At B h0 (mkG [(2, fV r_i64 (-1))]) (mkO []) F 12 a w := hAt
      refine then_n ?_
      refine wp_ret ?_
      refine blk_r ?_
      refine then_r ?_
      cases H
      exact ret1 rfl (rv_tmp rfl rfl) hAt
    · intro hb2
      have H := iteF hb2 H
      refine wp_skip ?_
      refine blk_n ?_
      refine then_n ?_
      refine wp_seq ?_
      refine reg [⟨fV r_i64 1, [], [], []⟩] [2] [] hAt
          ⟨ok_assign rfl opdI, trivial⟩ (by kernel_rfl) ?_
      clear hAt
      intro a w hAt
      replace hAt : At B h0 (mkG [(2, fV r_i64 1)]) (mkO []) F 12 a w := hAt
      refine then_n ?_
      refine wp_ret ?_
      cases H
      exact ret1 rfl (rv_tmp rfl rfl) hAt
theorem ok_f_exact_isZero (N : Nat) (x0 : GRat) (r : Bool) (H : f_exact_isZero N x0 = some r) : FnOk Try.prog 115 [fV GRat.rep x0] (fV Rep.bool r) := by
  unfold f_exact_isZero at H
  refine fn_enter Try.func115 rfl rfl (by kernel_rfl) ?_
  intro κ B h0 F a w hAt
  refine wp_seq ?_
  refine reg [⟨fRef GRat.rep x0, [], [(0, none)], []⟩,
      ⟨fV Rep.bool false, [], [], []⟩] [1] [] hAt
      ⟨ok_box rfl opd0,
      ok_assign rfl opdB, trivial⟩ (by kernel_rfl) ?_
  clear hAt
  intro a w hAt
  replace hAt : At B h0 (mkG [(1, fRef GRat.rep x0)]) (mkO []) F 7 a w := hAt
  refine then_n ?_
  refine wp_seq ?_
  obtain ⟨v1, hv1, H⟩ := bindE H
  refine reg [⟨fRef GInt.rep x0.Num, [], [(1, none)], []⟩,
      ⟨fV GInt.rep x0.Num, [], [(3, some 0)], []⟩,
      ⟨fV r_i64 v1, [], [(4, some 1)], []⟩,
      ⟨fV Rep.bool (cmpI .eql v1 0), [], [(5, some 2)], []⟩,
      ⟨fV Rep.bool (cmpI .eql v1 0), [], [(6, some 3)], []⟩] [2] [] hAt
      ⟨ok_field GRat.l0 fo49_0 rfl opd0,
      ok_load ty47 rfl opd0,
      ok_call (ok_f_exact_sign N x0.Num _ hv1) Try.func148 (by kernel_rfl) (by kernel_rfl) rfl ⟨opd0, trivial⟩,
      ok_cmp (op := .eql) (by simp) rfl rfl opd0 opdI,
      ok_assign rfl opd0, trivial⟩ (by kernel_rfl) ?_
  clear hAt
  intro a w hAt
  replace hAt : At B h0 (mkG [(2, fV Rep.bool (cmpI .eql v1 0))]) (mkO []) F 7 a w := hAt
  refine then_n ?_
  refine wp_ret ?_
  cases H
  exact ret1 rfl (rv_tmp rfl rfl) hAt
theorem ok_f_exact_below (N : Nat) (x0 : GRat) (r : GInt) (H : f_exact_below N x0 = some r) : FnOk Try.prog 114 [fV GRat.rep x0] (fV GInt.rep r) := by
  unfold f_exact_below at H
  refine fn_enter Try.func114 rfl rfl (by kernel_rfl) ?_
  intro κ B h0 F a w hAt
  refine wp_seq ?_
  refine reg [⟨fRef GRat.rep x0, [], [(0, none)], []⟩,
      ⟨Fact.triv, [(2, some (boxE 47 GInt.rep (⟨false, []⟩ : GInt)))], [], []⟩] [1] [2] hAt
      ⟨ok_box rfl opd0,
      ok_alloc ty47 rfl rfl, trivial⟩ (by kernel_rfl) ?_
  clear hAt
  intro a w hAt
  replace hAt : At B h0 (mkG [(1, fRef GRat.rep x0)]) (mkO [(2, boxE 47 GInt.rep (⟨false, []⟩ : GInt))]) F 11 a w := hAt
  refine then_n ?_
  refine wp_seq ?_
  refine wp_seq ?_
  obtain ⟨v1, hv1, H⟩ := bindE H
  refine reg [⟨fRef GInt.rep x0.Den, [], [(1, none)], []⟩,
      ⟨fV GInt.rep x0.Den, [], [(3, some 0)], []⟩,
      ⟨fV r_i64 v1, [], [(4, some 1)], []⟩,
      ⟨fV Rep.bool (cmpI .eql v1 0), [], [(5, some 2)], []⟩] [1, 6] [2] hAt
      ⟨ok_field GRat.l1 fo49_1 rfl opd0,
      ok_load ty47 rfl opd0,
      ok_call (ok_f_exact_sign N x0.Den _ hv1) Try.func148 (by kernel_rfl) (by kernel_rfl) rfl ⟨opd0, trivial⟩,
      ok_cmp (op := .eql) (by simp) rfl rfl opd0 opdI, trivial⟩ (by kernel_rfl) ?_
  clear hAt
  intro a w hAt
  replace hAt : At B h0 (mkG [(1, fRef GRat.rep x0), (6, fV Rep.bool (cmpI .eql v1 0))]) (mkO [(2, boxE 47 GInt.rep (⟨false, []⟩ : GInt))]) F 11 a w := hAt
  refine then_n ?_
  refine wp_if hAt (by rfl) ?_ ?_
  · intro hb2
    have H := iteT hb2 H
    refine wp_seq ?_
    refine reg [⟨fV (Rep.slice r_u16) [1], [], [], []⟩,
        ⟨fV GInt.rep (⟨false, [1]⟩ : GInt), [], [(7, some 0)], []⟩,
        ⟨Fact.triv, [(2, some (boxE 47 GInt.rep (⟨false, [1]⟩ : GInt)))], [(8, some 1)], [(2, none)]⟩] [] [2] hAt
        ⟨ok_buildSlice ty103 un45 rfl rfl (fillC (Lens.arr _ _ 0 (by decide)) rfl opdI fillN),
        ok_build ty47 rfl pl47 rfl (fillC GInt.l1 rfl opd0 fillN),
        ok_storeBox ty47 rfl rfl opd0, trivial⟩ (by kernel_rfl) ?_
    clear hAt
    intro a w hAt
    replace hAt : At B h0 (mkG []) (mkO [(2, boxE 47 GInt.rep (⟨false, [1]⟩ : GInt))]) F 11 a w := hAt
    refine then_n ?_
    refine wp_ret ?_
    refine then_r ?_
    cases H
    exact ret1 rfl (rv_cell ty47 rfl) hAt
  · intro hb2
    have H := iteF hb2 H
    refine wp_skip ?_
    refine then_n ?_
    refine wp_seq ?_
    refine reg [⟨fRef GInt.rep x0.Den, [], [(1, none)], []⟩,
        ⟨fV GInt.rep x0.Den, [], [(9, some 0)], []⟩,
        ⟨Fact.triv, [(2, some (boxE 47 GInt.rep x0.Den))], [(10, some 1)], [(2, none)]⟩] [] [2] hAt
        ⟨ok_field GRat.l1 fo49_1 rfl opd0,
        ok_load ty47 rfl opd0,
        ok_storeBox ty47 rfl rfl opd0, trivial⟩ (by kernel_rfl) ?_
    clear hAt
    intro a w hAt
    replace hAt : At B h0 (mkG []) (mkO [(2, boxE 47 GInt.rep x0.Den)]) F 11 a w := hAt
    refine then_n ?_
    refine wp_ret ?_
    cases H
    exact ret1 rfl (rv_cell ty47 rfl) hAt
theorem ok_f_exact_lowest (N : Nat) (x0 : GRat) (r : GRat) (H : f_exact_lowest N x0 = some r) : FnOk Try.prog 116 [fV GRat.rep x0] (fV GRat.rep r) := by
  unfold f_exact_lowest at H
  refine fn_enter Try.func116 rfl rfl (by kernel_rfl) ?_
  intro κ B h0 F a w hAt
  refine wp_seq ?_
  refine reg [⟨fRef GRat.rep x0, [], [(0, none)], []⟩,
      ⟨Fact.triv, [(2, some (boxE 49 GRat.rep (⟨(⟨false, []⟩ : GInt), (⟨false, []⟩ : GInt)⟩ : GRat)))], [], []⟩] [1] [2] hAt
      ⟨ok_box rfl opd0,
      ok_alloc ty49 rfl rfl, trivial⟩ (by kernel_rfl) ?_
  clear hAt
  intro a w hAt
  replace hAt : At B h0 (mkG [(1, fRef GRat.rep x0)]) (mkO [(2, boxE 49 GRat.rep (⟨(⟨false, []⟩ : GInt), (⟨false, []⟩ : GInt)⟩ : GRat))]) F 8 a w := hAt
  refine then_n ?_
  refine wp_seq ?_
  obtain ⟨v1, hv1, H⟩ := bindE H
  obtain ⟨v2, hv2, H⟩ := bindE H
  refine regd [⟨fRef GInt.rep x0.Num, [], [(1, none)], []⟩,
      ⟨fV GInt.rep x0.Num, [], [(3, some 0)], []⟩,
      ⟨fV GRat.rep x0, [], [(1, none)], []⟩,
      ⟨fV GInt.rep v1, [], [(5, some 2)], []⟩,
      ⟨fV GRat.rep v2, [], [(4, some 1), (6, some 3)], []⟩,
      ⟨Fact.triv, [(2, some (boxE 49 GRat.rep v2))], [(7, some 4)], [(2, none)]⟩] [0, 1, 2, 3, 4, 5] [0, 1, 2, 3, 4, 5] [] [2] hAt
      ⟨ok_field GRat.l0 fo49_0 rfl opd0,
      ok_load ty47 rfl opd0,
      ok_load ty49 rfl opd0,
      ok_call (ok_f_exact_below N x0 _ hv1) Try.func114 (by kernel_rfl) (by kernel_rfl) rfl ⟨opd0, trivial⟩,
      ok_call (ok_f_exact_fraction N x0.Num v1 _ hv2) Try.func112 (by kernel_rfl) (by kernel_rfl) rfl ⟨opd0, ⟨opd1, trivial⟩⟩,
      ok_storeBox ty49 rfl rfl opd0, trivial⟩ (by kernel_rfl) ?_
  clear hAt
  intro a w hAt
  replace hAt : At B h0 (mkG []) (mkO [(2, boxE 49 GRat.rep v2)]) F 8 a w := hAt
  refine then_n ?_
  refine wp_ret ?_
  cases H
  exact ret1 rfl (rv_cell ty49 rfl) hAt
end Go.KB
